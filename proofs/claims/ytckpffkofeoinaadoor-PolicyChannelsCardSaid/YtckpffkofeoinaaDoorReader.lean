/- The reader as it lies in memory. -/
import Derived.Test.YtckpffkofeoinaaDoorOf
namespace Go.Proofs.YtckpffkofeoinaaDoor
open Go.RowKit Go.Maps

/-- The reader r lies in block p, its map in block b; its rows lie from block 'base' on. -/
def RdSt (base p b : Nat) (r : RS) (w : World) : Prop :=
  ∃ vn vb, w.heap[p]? = some (.cells #[vn, vb, .map (some b)] 43 (0, 0)) ∧ w.ownsRow base 9 1 vn r.names.length (r.names.map Value.string) ∧
    w.ownsRow base 95 2 vb r.below.length (strs2 r.below) ∧ OfIs w b r.of ∧ p < base ∧ b < base ∧ p ≠ b ∧ base ≤ w.heap.size

/-- Of the blocks below 'base' only p and b may have turned. -/
structure Turn (base p b : Nat) (w w' : World) : Prop where
  os : w'.os = w.os
  tape : w'.tape = w.tape
  output : w'.output = w.output
  size : w.heap.size ≤ w'.heap.size
  block : ∀ k, k < base → k ≠ p → k ≠ b → w'.heap[k]? = w.heap[k]?

theorem Turn.of_below {base p b B : Nat} {w w' : World} (h : Below B w w') (hb : base ≤ B) : Turn base p b w w' := ⟨h.os, h.tape, h.output, h.size, fun k hk _ _ => h.block k (by omega)⟩
theorem Turn.trans {base p b : Nat} {w w' w'' : World} (h : Turn base p b w w') (h' : Turn base p b w' w'') : Turn base p b w w'' :=
  ⟨h'.os.trans h.os, h'.tape.trans h.tape, h'.output.trans h.output, Nat.le_trans h.size h'.size, fun k a b c => (h'.block k a b c).trans (h.block k a b c)⟩

theorem RdSt.below {base p b : Nat} {r : RS} {w w' : World} (h : RdSt base p b r w) (hb : Below w.heap.size w w') : RdSt base p b r w' := by
  obtain ⟨vn, vb, h1, h2, h3, h4, h5, h6, h7, h8⟩ := h
  exact ⟨vn, vb, by rw [hb.block p (lt_of_block h1)]; exact h1, owns_below h2 hb, owns_below h3 hb, h4.below hb, h5, h6, h7, Nat.le_trans h8 hb.size⟩

theorem RdSt.base_le {base p b : Nat} {r : RS} {w : World} (h : RdSt base p b r w) : base ≤ w.heap.size := by
  obtain ⟨vn, vb, h1, h2, h3, h4, h5, h6, h7, h8⟩ := h; exact h8

theorem own_ne_of_base {w : World} {base e size n q : Nat} {v : Value} {xs : List Value} (h : w.ownsRow base e size v n xs) (hq : q < base) : v.ownBlock ≠ some q := fun he => by
  obtain ⟨_, ⟨rfl, rfl⟩ | ⟨g, cap, cur, rfl, hb, _⟩⟩ := h
  · simp [Value.ownBlock] at he
  · simp [Value.ownBlock] at he; omega

/-- Two rows of different element types are two blocks. -/
theorem owns_apart {w : World} {base base' e e' size size' n m : Nat} {v u : Value} {xs ys : List Value} (h : w.ownsRow base e size v n xs) (h' : w.ownsRow base' e' size' u m ys) (he : e ≠ e') : u.ownBlock = none ∨ u.ownBlock ≠ v.ownBlock := by
  obtain ⟨_, ⟨rfl, rfl⟩ | ⟨g, cap, cur, rfl, hb, hh, _⟩⟩ := h
  · rcases Classical.em (u.ownBlock = none) with e | e
    · exact .inl e
    · exact .inr (by simpa [Value.ownBlock] using e)
  · exact .inr (by simpa [Value.ownBlock] using owns_ne h' hh he)

theorem set_first {w : World} {p : Nat} {x y z u : Value} {T : Nat} (h : w.heap[p]? = some (.cells #[x, y, z] T (0, 0))) : (w.setCell ⟨p, 0, none⟩ u).heap[p]? = some (.cells #[u, y, z] T (0, 0)) := by
  rw [World.setCell, Array.getElem?_modify, h]; simp
theorem set_second {w : World} {p : Nat} {x y z u : Value} {T : Nat} (h : w.heap[p]? = some (.cells #[x, y, z] T (0, 0))) : (w.setCell ⟨p, 1, none⟩ u).heap[p]? = some (.cells #[x, u, z] T (0, 0)) := by
  rw [World.setCell, Array.getElem?_modify, h]; simp

theorem owns_set {w : World} {base e size n q : Nat} {v u : Value} {xs : List Value} (h : w.ownsRow base e size v n xs) (hq : q < base) (o : Nat) : (w.setCell ⟨q, o, none⟩ u).ownsRow base e size v n xs := by
  obtain ⟨h0, h | ⟨g, cap, cur, rfl, hb, hh, r⟩⟩ := h
  · exact ⟨h0, .inl h⟩
  · exact ⟨h0, .inr ⟨g, cap, cur, rfl, hb, by rw [Below.heap_setCell _ _ _ _ (by simp; omega)]; exact hh, r⟩⟩

theorem OfIs.set {w : World} {b q : Nat} {l : List (ByteArray × Nat)} (h : OfIs w b l) (hq : b ≠ q) (o : Nat) (u : Value) : OfIs (w.setCell ⟨q, o, none⟩ u) b l := by
  obtain ⟨D, h1, h2⟩ := h
  exact ⟨D, h1.setCell hq u, h2⟩

theorem heap_alloc_lt {w : World} {o : Obj} {q : Nat} {x : Obj} (h : w.heap[q]? = some x) : (w.alloc o).heap[q]? = some x := by
  rw [Below.heap_alloc _ _ _ (lt_of_block h)]; exact h

theorem field_keep {base e size n p T : Nat} {w1 w2 : World} {o : Obj} {cs : Array Value} {v : Value} {xs : List Value} (h1 : w1.heap[p]? = some (.cells cs T (0, 0))) (h2 : w1.ownsRow base e size v n xs) (h5 : p < base) (hg : (w1.alloc o).grownBy w2 v.ownBlock) : w2.heap[p]? = some (.cells cs T (0, 0)) := by
  rw [hg.block p (by have := lt_of_block h1; simp; omega) (fun e => own_ne_of_base h2 h5 e.symm)]; exact heap_alloc_lt h1
theorem cell_in {w : World} {p T : Nat} {x y z : Value} (h : w.heap[p]? = some (.cells #[x, y, z] T (0, 0))) : w.cell? ⟨p, 0, none⟩ = some x ∧ w.cell? ⟨p, 1, none⟩ = some y ∧ w.cell? ⟨p, 2, none⟩ = some z ∧ w.frozen? ⟨p, 0, none⟩ = false ∧ w.frozen? ⟨p, 1, none⟩ = false := by
  simp [World.cell?, World.frozen?, h]

/-- A name more. -/
theorem RdSt.named {base p b : Nat} {r : RS} {w1 w2 : World} {o : Obj} {vn vb v' : Value} {x : ByteArray} (h1 : w1.heap[p]? = some (.cells #[vn, vb, .map (some b)] 43 (0, 0)))
    (h2 : w1.ownsRow base 9 1 vn r.names.length (r.names.map Value.string)) (h3 : w1.ownsRow base 95 2 vb r.below.length (strs2 r.below)) (h4 : OfIs w1 b r.of) (h5 : p < base) (h6 : b < base) (h7 : p ≠ b) (h8 : base ≤ w1.heap.size)
    (ho : w2.ownsRow base 9 1 v' (r.names.length + 1) (r.names.map Value.string ++ [.string x])) (hg : (w1.alloc o).grownBy w2 vn.ownBlock) :
    RdSt base p b { r with names := r.names ++ [x] } (w2.setCell ⟨p, 0, none⟩ v') ∧ Turn base p b w1 (w2.setCell ⟨p, 0, none⟩ v') := by
  have hp2 : w2.heap[p]? = some (.cells #[vn, vb, .map (some b)] 43 (0, 0)) := by
    rw [hg.block p (by have := lt_of_block h1; simp; omega) (fun e => own_ne_of_base h2 h5 e.symm)]; exact heap_alloc_lt h1
  have hb2 : w2.ownsRow base 95 2 vb r.below.length (strs2 r.below) := (h3.alloc o).kept hg (owns_apart (h2.alloc o) (h3.alloc o) (by decide))
  have ho2 : OfIs w2 b r.of := (h4.kept (World.grownBy_alloc w1 o none) (by simp)).kept hg (fun e => own_ne_of_base h2 h6 e.symm)
  have hs : base ≤ w2.heap.size := by have := hg.size; simp at this; omega
  refine ⟨⟨v', vb, set_first hp2, by simpa using owns_set ho h5 0, owns_set hb2 h5 0, ho2.set (Ne.symm h7) 0 _, h5, h6, h7, by simpa [World.setCell] using hs⟩, ⟨hg.os, hg.tape, hg.output, by have := hg.size; simp [World.setCell] at this ⊢; omega, fun k hk hkp _ => ?_⟩⟩
  rw [Below.heap_setCell _ _ _ _ hkp, hg.block k (by simp; omega) (fun e => own_ne_of_base h2 hk e.symm), Below.heap_alloc _ _ _ (by omega)]

/-- A pair more. -/
theorem RdSt.paired {base p b : Nat} {r : RS} {w1 w2 : World} {o : Obj} {vn vb v' : Value} {x y : ByteArray} (h1 : w1.heap[p]? = some (.cells #[vn, vb, .map (some b)] 43 (0, 0)))
    (h2 : w1.ownsRow base 9 1 vn r.names.length (r.names.map Value.string)) (h3 : w1.ownsRow base 95 2 vb r.below.length (strs2 r.below)) (h4 : OfIs w1 b r.of) (h5 : p < base) (h6 : b < base) (h7 : p ≠ b) (h8 : base ≤ w1.heap.size)
    (ho : w2.ownsRow base 95 2 v' (r.below.length + 1) (strs2 r.below ++ [.string x, .string y])) (hg : (w1.alloc o).grownBy w2 vb.ownBlock) :
    RdSt base p b { r with below := r.below ++ [(x, y)] } (w2.setCell ⟨p, 1, none⟩ v') ∧ Turn base p b w1 (w2.setCell ⟨p, 1, none⟩ v') := by
  have hp2 : w2.heap[p]? = some (.cells #[vn, vb, .map (some b)] 43 (0, 0)) := by
    rw [hg.block p (by have := lt_of_block h1; simp; omega) (fun e => own_ne_of_base h3 h5 e.symm)]; exact heap_alloc_lt h1
  have hb2 : w2.ownsRow base 9 1 vn r.names.length (r.names.map Value.string) := (h2.alloc o).kept hg (owns_apart (h3.alloc o) (h2.alloc o) (by decide))
  have ho2 : OfIs w2 b r.of := (h4.kept (World.grownBy_alloc w1 o none) (by simp)).kept hg (fun e => own_ne_of_base h3 h6 e.symm)
  have hs : base ≤ w2.heap.size := by have := hg.size; simp at this; omega
  refine ⟨⟨vn, v', set_second hp2, owns_set hb2 h5 1, ?_, ho2.set (Ne.symm h7) 1 _, h5, h6, h7, by simpa [World.setCell] using hs⟩, ⟨hg.os, hg.tape, hg.output, by have := hg.size; simp [World.setCell] at this ⊢; omega, fun k hk hkp _ => ?_⟩⟩
  · have e : strs2 (r.below ++ [(x, y)]) = strs2 r.below ++ [.string x, .string y] := by simp [strs2]
    show World.ownsRow _ base 95 2 v' (r.below ++ [(x, y)]).length (strs2 (r.below ++ [(x, y)]))
    rw [e, List.length_append]
    exact owns_set ho h5 1
  · rw [Below.heap_setCell _ _ _ _ hkp, hg.block k (by simp; omega) (fun e => own_ne_of_base h3 hk e.symm), Below.heap_alloc _ _ _ (by omega)]

/-- A channel more. -/
theorem RdSt.channel {base p b : Nat} {r : RS} {w1 w2 : World} {vn vb : Value} {x : ByteArray} {n : Nat} (h1 : w1.heap[p]? = some (.cells #[vn, vb, .map (some b)] 43 (0, 0)))
    (h2 : w1.ownsRow base 9 1 vn r.names.length (r.names.map Value.string)) (h3 : w1.ownsRow base 95 2 vb r.below.length (strs2 r.below)) (h5 : p < base) (h6 : b < base) (h7 : p ≠ b) (h8 : base ≤ w1.heap.size)
    (ho : OfIs w2 b ((x, n) :: r.of)) (hg : w1.grownBy w2 (some b)) :
    RdSt base p b { r with of := (x, n) :: r.of } w2 ∧ Turn base p b w1 w2 := by
  refine ⟨⟨vn, vb, by rw [hg.block p (lt_of_block h1) (by simpa using h7)]; exact h1, h2.kept hg (.inr (own_ne_of_base h2 h6)), h3.kept hg (.inr (own_ne_of_base h3 h6)), ho, h5, h6, h7, Nat.le_trans h8 hg.size⟩, ⟨hg.os, hg.tape, hg.output, hg.size, fun k hk _ hkb => hg.block k (by omega) (by simpa using hkb)⟩⟩
end Go.Proofs.YtckpffkofeoinaaDoor
