/- The sets of New as plain functions, and the lattice as it lies while it is made. -/
import Derived.Test.YtckpffkofeoinaaDoorNew1
namespace Go.Proofs.YtckpffkofeoinaaDoor
open Go.RowKit

def upsTo (n k : Nat) : List Nat := (List.range n).map fun i => if i < k then 2 ^ i else 0
def addP (names : List ByteArray) (up : List Nat) (q : ByteArray × ByteArray) : List Nat := up.set (placeI names q.1).toNat (up.getD (placeI names q.1).toNat 0 ||| 2 ^ (placeI names q.2).toNat)
def pairOk (names : List ByteArray) (q : ByteArray × ByteArray) : Bool := decide (0 ≤ placeI names q.1) && decide (0 ≤ placeI names q.2)
def upP (names : List ByteArray) (pairs : List (ByteArray × ByteArray)) : List Nat := pairs.foldl (addP names) (upsTo names.length names.length)
def wStep (k : Nat) (u : List Nat) (a : Nat) : List Nat := if (u.getD a 0).testBit k then u.set a (u.getD a 0 ||| u.getD k 0) else u
def wRow (n : Nat) (u : List Nat) (k : Nat) : List Nat := (List.range n).foldl (wStep k) u
def warsh (n : Nat) (u : List Nat) : List Nat := (List.range n).foldl (wRow n) u
def dStep (u : List Nat) (a : Nat) (d : List Nat) (b : Nat) : List Nat := if (u.getD a 0).testBit b then d.set b (d.getD b 0 ||| 2 ^ a) else d
def dRow (n : Nat) (u d : List Nat) (a : Nat) : List Nat := (List.range n).foldl (dStep u a) d
def downs (n : Nat) (u : List Nat) : List Nat := (List.range n).foldl (dRow n u) (List.replicate n 0)
def newL (names : List ByteArray) (pairs : List (ByteArray × ByteArray)) : LatD := ⟨names, warsh names.length (upP names pairs), downs names.length (warsh names.length (upP names pairs))⟩
def newE (names : List ByteArray) (pairs : List (ByteArray × ByteArray)) : Int :=
  if checkE names ≠ 0 then checkE names else if pairs.all (pairOk names) = false then 3 else if rightB (newL names pairs) = false then 9 else 0

/-- So many sets, each within n places. -/
def Bnd (n : Nat) (u : List Nat) : Prop := u.length = n ∧ ∀ s ∈ u, s < 2 ^ n

theorem Bnd.get {n : Nat} {u : List Nat} (h : Bnd n u) (k : Nat) : u.getD k 0 < 2 ^ n := by
  rw [List.getD_eq_getElem?_getD]
  rcases Nat.lt_or_ge k u.length with hk | hk
  · rw [List.getElem?_eq_getElem hk]; exact h.2 _ (List.getElem_mem hk)
  · rw [List.getElem?_eq_none hk]; exact Nat.two_pow_pos n
theorem Bnd.set {n : Nat} {u : List Nat} (h : Bnd n u) (k s : Nat) (hs : s < 2 ^ n) : Bnd n (u.set k s) :=
  ⟨by rw [List.length_set]; exact h.1, fun x hx => by
    rcases List.mem_or_eq_of_mem_set hx with hx | rfl
    · exact h.2 x hx
    · exact hs⟩
theorem Bnd.or {n a b : Nat} (ha : a < 2 ^ n) (hb : b < 2 ^ n) : a ||| b < 2 ^ n := Nat.or_lt_two_pow ha hb
theorem pow_lt {n k : Nat} (h : k < n) : 2 ^ k < 2 ^ n := Nat.pow_lt_pow_right (by omega) h
theorem Bnd.zeros (n : Nat) : Bnd n (List.replicate n 0) := ⟨List.length_replicate, fun s hs => by rw [List.eq_of_mem_replicate hs]; exact Nat.two_pow_pos n⟩

theorem upsTo_zero (n : Nat) : upsTo n 0 = List.replicate n 0 := by
  apply List.ext_getElem?
  intro j
  rcases Nat.lt_or_ge j n with hj | hj
  · simp [upsTo, hj]
  · simp [upsTo, Nat.not_lt.2 hj]
theorem upsTo_set {n k : Nat} (h : k < n) : (upsTo n k).set k (2 ^ k) = upsTo n (k + 1) := by
  apply List.ext_getElem?
  intro j
  rw [List.getElem?_set]
  simp only [upsTo, List.length_map, List.length_range, List.getElem?_map]
  rcases Nat.lt_or_ge j n with hj | hj
  · rw [List.getElem?_range hj]
    by_cases e : k = j
    · subst e; simp [h]
    · rw [if_neg e]
      simp only [Option.map_some]
      congr 1
      by_cases e2 : j < k
      · rw [if_pos e2, if_pos (by omega)]
      · rw [if_neg e2, if_neg (by omega)]
  · rw [List.getElem?_eq_none (by simpa using hj)]
    rw [if_neg (by omega)]; rfl
theorem upsTo_len (n k : Nat) : (upsTo n k).length = n := by simp [upsTo]
theorem Bnd.upsTo (n k : Nat) : Bnd n (upsTo n k) := ⟨upsTo_len n k, fun s hs => by
  simp only [Go.Proofs.YtckpffkofeoinaaDoor.upsTo, List.mem_map, List.mem_range] at hs
  obtain ⟨i, hi, rfl⟩ := hs
  split
  · exact pow_lt hi
  · exact Nat.two_pow_pos n⟩

/-- The lattice while New makes it. -/
def NewMid (w wr : World) (p gu gd : Nat) (vn : Value) (names : List ByteArray) (up down : List Nat) : Prop :=
  wr.heap[p]? = some (.cells #[vn, .slice (some ⟨gu, 0, none⟩) names.length names.length, .slice (some ⟨gd, 0, none⟩) names.length names.length, .int .u32 0, .int .i32 0, .int .u32 0, nilS, nilS] 71 (0, 0)) ∧
  wr.heap[gu]? = some (.cells (u32s up).toArray 97 (0, 0)) ∧ wr.heap[gd]? = some (.cells (u32s down).toArray 97 (0, 0)) ∧
  wr.ownsRow w.heap.size 9 1 vn names.length (names.map Value.string) ∧ Below w.heap.size w wr ∧ Bnd names.length up ∧ Bnd names.length down

theorem NewMid.of_start {w wx : World} {names : List ByteArray} {p gu gd : Nat} {vn : Value}
    (hp : wx.heap[p]? = some (.cells #[vn, .slice (some ⟨gu, 0, none⟩) names.length names.length, .slice (some ⟨gd, 0, none⟩) names.length names.length, .int .u32 0, .int .i32 0, .int .u32 0, nilS, nilS] 71 (0, 0)))
    (h5 : wx.heap[gu]? = some (.cells (zerosC names.length) 97 (0, 0))) (h6 : wx.heap[gd]? = some (.cells (zerosC names.length) 97 (0, 0)))
    (h7 : wx.ownsRow w.heap.size 9 1 vn names.length (names.map Value.string)) (h8 : Below w.heap.size w wx) : NewMid w wx p gu gd vn names (upsTo names.length 0) (List.replicate names.length 0) :=
  ⟨hp, by rw [upsTo_zero]; rw [zerosC_eq] at h5; exact h5, by rw [zerosC_eq] at h6; exact h6, h7, h8, Bnd.upsTo _ _, Bnd.zeros _⟩

theorem NewMid.drewN {w wr : World} {p gu gd : Nat} {vn : Value} {names : List ByteArray} {up down : List Nat} (h : NewMid w wr p gu gd vn names up down) (n : Nat) : NewMid w (wr.drewN n) p gu gd vn names up down :=
  ⟨h.1, h.2.1, h.2.2.1, h.2.2.2.1, below_drewN h.2.2.2.2.1 n, h.2.2.2.2.2⟩

theorem NewMid.drew {w wr : World} {p gu gd : Nat} {vn : Value} {names : List ByteArray} {up down : List Nat} (h : NewMid w wr p gu gd vn names up down) : NewMid w wr.drew p gu gd vn names up down :=
  ⟨h.1, h.2.1, h.2.2.1, h.2.2.2.1, h.2.2.2.2.1.drew, h.2.2.2.2.2⟩

theorem NewMid.alloc {w wr : World} {p gu gd : Nat} {vn : Value} {names : List ByteArray} {up down : List Nat} (h : NewMid w wr p gu gd vn names up down) (o : Obj) : NewMid w (wr.alloc o) p gu gd vn names up down :=
  ⟨at_alloc h.1, at_alloc h.2.1, at_alloc h.2.2.1, h.2.2.2.1.alloc o, h.2.2.2.2.1.alloc h.2.2.2.2.1.size o, h.2.2.2.2.2⟩

theorem at_setCell {w : World} {a : Addr} {v : Value} {b : Nat} {x : Obj} (h : w.heap[b]? = some x) (hne : b ≠ a.block) : (w.setCell a v).heap[b]? = some x := by
  rw [Below.heap_setCell _ _ _ _ hne]; exact h

theorem ownsRow_setCell_type {w : World} {base e n p T : Nat} {v : Value} {xs : List Value} {c : Array Value} {fr : Nat × Nat} (h : w.ownsRow base e 1 v n xs) (hp : w.heap[p]? = some (.cells c T fr)) (hT : T ≠ e) (o : Nat) (u : Value) : (w.setCell ⟨p, o, none⟩ u).ownsRow base e 1 v n xs :=
  owns_move h (fun g hg => Below.heap_setCell _ _ _ _ (fun e => by simp at e; subst e; exact owns_ne h hp hT hg))

theorem set_u32s (l : List Nat) (k s : Nat) : (u32s l).toArray.setIfInBounds k (.int .u32 (s : Int)) = (u32s (l.set k s)).toArray := by
  simp [u32s, List.map_set]

/-- A store into a block that no field of the lattice leads to. -/
theorem NewMid.far {w wr : World} {p gu gd : Nat} {vn : Value} {names : List ByteArray} {up down : List Nat} (h : NewMid w wr p gu gd vn names up down) (q : Nat) (hq : w.heap.size ≤ q) {c : Array Value} {T : Nat} {fr : Nat × Nat}
    (hc : wr.heap[q]? = some (.cells c T fr)) (h1 : T ≠ 71) (h2 : T ≠ 97) (h3 : T ≠ 9) (o : Nat) (u : Value) : NewMid w (wr.setCell ⟨q, o, none⟩ u) p gu gd vn names up down := by
  obtain ⟨a, b, c', d, e, f⟩ := h
  refine ⟨at_setCell a ?_, at_setCell b ?_, at_setCell c' ?_, ownsRow_setCell_type d hc h3 o u, e.setCell hq u, f⟩
  · intro e'; simp at e'; subst e'; rw [hc] at a; injection a with a; injection a with _ a _; exact h1 a
  · intro e'; simp at e'; subst e'; rw [hc] at b; injection b with b; injection b with _ b _; exact h2 b
  · intro e'; simp at e'; subst e'; rw [hc] at c'; injection c' with b; injection b with _ b _; exact h2 b

theorem NewMid.setUp {w wr : World} {p gu gd : Nat} {vn : Value} {names : List ByteArray} {up down : List Nat} (h : NewMid w wr p gu gd vn names up down) (hgu : w.heap.size ≤ gu) (hne : gu ≠ gd) (k s : Nat) (hs : s < 2 ^ names.length) :
    NewMid w (wr.setCell ⟨gu, k, none⟩ (.int .u32 (s : Int))) p gu gd vn names (up.set k s) down := by
  obtain ⟨a, b, c, d, e, f, g⟩ := h
  refine ⟨at_setCell a ?_, ?_, at_setCell c (Ne.symm hne), ownsRow_setCell_type d b (by decide) k _, e.setCell hgu _, f.set k s hs, g⟩
  · intro e'; simp at e'; subst e'; rw [a] at b; simp at b
  · rw [World.setCell, Array.getElem?_modify, b]; simp [← set_u32s]

theorem NewMid.setDown {w wr : World} {p gu gd : Nat} {vn : Value} {names : List ByteArray} {up down : List Nat} (h : NewMid w wr p gu gd vn names up down) (hgd : w.heap.size ≤ gd) (hne : gu ≠ gd) (k s : Nat) (hs : s < 2 ^ names.length) :
    NewMid w (wr.setCell ⟨gd, k, none⟩ (.int .u32 (s : Int))) p gu gd vn names up (down.set k s) := by
  obtain ⟨a, b, c, d, e, f, g⟩ := h
  refine ⟨at_setCell a ?_, at_setCell b hne, ?_, ownsRow_setCell_type d c (by decide) k _, e.setCell hgd _, f, g.set k s hs⟩
  · intro e'; simp at e'; subst e'; rw [a] at c; simp at c
  · rw [World.setCell, Array.getElem?_modify, c]; simp [← set_u32s]

/-- What a walk reads and writes of it. -/
theorem NewMid.cells {w wr : World} {p gu gd : Nat} {vn : Value} {names : List ByteArray} {up down : List Nat} (h : NewMid w wr p gu gd vn names up down) :
    wr.cell? ⟨p, 1, none⟩ = some (.slice (some ⟨gu, 0, none⟩) names.length names.length) ∧ wr.cell? ⟨p, 2, none⟩ = some (.slice (some ⟨gd, 0, none⟩) names.length names.length) ∧
    (∀ k, k < names.length → wr.cell? ⟨gu, k, none⟩ = some (.int .u32 ((up.getD k 0 : Nat) : Int)) ∧ wr.frozen? ⟨gu, k, none⟩ = false ∧ wr.cell? ⟨gd, k, none⟩ = some (.int .u32 ((down.getD k 0 : Nat) : Int)) ∧ wr.frozen? ⟨gd, k, none⟩ = false) ∧ p ≠ gu ∧ p ≠ gd := by
  obtain ⟨a, b, c, d, e, f, g⟩ := h
  refine ⟨by simp [World.cell?, a], by simp [World.cell?, a], fun k hk => ⟨?_, by simp [World.frozen?, b], ?_, by simp [World.frozen?, c]⟩, ?_, ?_⟩
  · have := f.1
    simp [World.cell?, b, u32s, List.getD_eq_getElem?_getD]; rw [List.getElem?_eq_getElem (by omega)]; simp
  · have := g.1
    simp [World.cell?, c, u32s, List.getD_eq_getElem?_getD]; rw [List.getElem?_eq_getElem (by omega)]; simp
  · intro e'; subst e'; rw [a] at b; simp at b
  · intro e'; subst e'; rw [a] at c; simp at c

theorem NewMid.lat {w wr : World} {p gu gd : Nat} {vn : Value} {names : List ByteArray} {up down : List Nat} (h : NewMid w wr p gu gd vn names up down) (hpos : 0 < names.length) (hle : names.length ≤ 16) : Lat wr p ⟨names, up, down⟩ := by
  obtain ⟨a, b, c, d, e, f, g⟩ := h
  have ml : names.length ≤ maxLen := by unfold maxLen; omega
  refine ⟨vn, _, _, 0, nilS, nilS, a, owns_base d (Nat.zero_le _), ?_, ?_, .inl ⟨rfl, rfl, rfl⟩, ⟨hpos, hle, f.1, g.1, f.2, g.2⟩⟩
  · exact ⟨by simp [u32s], .inr ⟨gu, names.length, _, by rw [f.1], Nat.zero_le _, b, by rw [f.1]; exact Nat.le_refl _, ml, by simp [u32s, f.1], by rw [Nat.mul_one, List.take_of_length_le (by simp [u32s])]⟩⟩
  · exact ⟨by simp [u32s], .inr ⟨gd, names.length, _, by rw [g.1], Nat.zero_le _, c, by rw [g.1]; exact Nat.le_refl _, ml, by simp [u32s, g.1], by rw [Nat.mul_one, List.take_of_length_le (by simp [u32s])]⟩⟩
end Go.Proofs.YtckpffkofeoinaaDoor
