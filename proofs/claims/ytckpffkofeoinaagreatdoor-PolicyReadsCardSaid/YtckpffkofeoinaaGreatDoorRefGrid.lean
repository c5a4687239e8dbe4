/- The document's lattice while it is made: its rows of marks as they lie, and what it comes to when they are closed. -/
import Derived.Test.YtckpffkofeoinaaGreatDoorMid
namespace Go.Proofs.YtckpffkofeoinaaGreatDoor
open Go.RowKit

def bit (U : List (List Bool)) (a b : Nat) : Bool := (U.getD a []).getD b false
def mark (U : List (List Bool)) (a b : Nat) : List (List Bool) := U.set a ((U.getD a []).set b true)

/-- The rows of marks (n of n) in blocks of their own; q: the struct, g: the row of rows. -/
structure Grid (q g : Nat) (r : Nat → Nat) (n : Nat) (vn : Value) (cap : Nat) (w : World) (U : List (List Bool)) : Prop where
  len : U.length = n
  wide : ∀ i, i < n → (U.getD i []).length = n
  st : w.heap[q]? = some (.cells #[vn, .slice (some ⟨g, 0, none⟩) n cap] 44 (0, 0))
  rows : ∃ cells : Array Value, w.heap[g]? = some (.cells cells 112 (0, 0)) ∧ ∀ i, i < n → cells[i]? = some (.slice (some ⟨r i, 0, none⟩) n n)
  row : ∀ i, i < n → w.heap[r i]? = some (.cells ((U.getD i []).map Value.bool).toArray 4 (0, 0))
  apart : ∀ i j, i < n → j < n → r i = r j → i = j

section
variable {q g n cap : Nat} {r : Nat → Nat} {vn : Value} {w : World} {U : List (List Bool)}

theorem Grid.cell0 (h : Grid q g r n vn cap w U) : w.cell? ⟨q, 0, none⟩ = some vn := by simp [World.cell?, h.st]
theorem Grid.cell1 (h : Grid q g r n vn cap w U) : w.cell? ⟨q, 1, none⟩ = some (.slice (some ⟨g, 0, none⟩) n cap) := by simp [World.cell?, h.st]
theorem Grid.cellG (h : Grid q g r n vn cap w U) {a : Nat} (ha : a < n) : w.cell? ⟨g, a, none⟩ = some (.slice (some ⟨r a, 0, none⟩) n n) := by
  obtain ⟨cells, h1, h2⟩ := h.rows
  simp [World.cell?, h1, h2 a ha]
theorem Grid.cellB (h : Grid q g r n vn cap w U) {a b : Nat} (ha : a < n) (hb : b < n) : w.cell? ⟨r a, b, none⟩ = some (.bool (bit U a b)) := by
  have hw := h.wide a ha
  simp [World.cell?, h.row a ha, bit, List.getD_eq_getElem?_getD] at hw ⊢
  rw [List.getElem?_eq_getElem (by omega)]
  simp
theorem Grid.frozen (h : Grid q g r n vn cap w U) {a : Nat} (ha : a < n) (b : Nat) : w.frozen? ⟨r a, b, none⟩ = false := by simp [World.frozen?, h.row a ha]

theorem mark_row (U : List (List Bool)) (a b i : Nat) (ha : a < U.length) : (mark U a b).getD i [] = if i = a then (U.getD a []).set b true else U.getD i [] := by
  unfold mark
  simp only [List.getD_eq_getElem?_getD, List.getElem?_set]
  by_cases e : a = i
  · subst e; simp [ha]
  · rw [if_neg e, if_neg (fun e2 => e e2.symm)]

theorem bit_mark {U : List (List Bool)} {a b : Nat} (ha : a < U.length) (hb : b < (U.getD a []).length) (i j : Nat) : bit (mark U a b) i j = if i = a ∧ j = b then true else bit U i j := by
  unfold bit
  rw [mark_row U a b i ha]
  by_cases e : i = a
  · subst e
    rw [if_pos rfl]
    simp only [List.getD_eq_getElem?_getD, List.getElem?_set] at hb ⊢
    by_cases e2 : b = j
    · subst e2; simp [hb]
    · rw [if_neg e2, if_neg (fun h => e2 h.2.symm)]
  · rw [if_neg e, if_neg (fun h => e h.1)]

theorem Grid.drewN (h : Grid q g r n vn cap w U) (k : Nat) : Grid q g r n vn cap (w.drewN k) U := ⟨h.len, h.wide, h.st, h.rows, h.row, h.apart⟩

theorem Grid.below {w' : World} (h : Grid q g r n vn cap w U) (hb : Below w.heap.size w w') : Grid q g r n vn cap w' U := by
  have lt : ∀ k x, w.heap[k]? = some x → w'.heap[k]? = some x := fun k x hk => by
    have : k < w.heap.size := by
      rcases Nat.lt_or_ge k w.heap.size with h1 | h1
      · exact h1
      · rw [Array.getElem?_eq_none h1] at hk; cases hk
    rw [hb.block k this]; exact hk
  obtain ⟨cells, h1, h2⟩ := h.rows
  exact ⟨h.len, h.wide, lt _ _ h.st, ⟨cells, lt _ _ h1, h2⟩, fun i hi => lt _ _ (h.row i hi), h.apart⟩

/-- Another block than these has turned. -/
theorem Grid.grown {w' : World} {p : Nat} {c : Array Value} {T : Nat} {fr : Nat × Nat} (h : Grid q g r n vn cap w U) (hg : w.grownBy w' (some p)) (hp : w.heap[p]? = some (.cells c T fr)) (h1 : T ≠ 44) (h2 : T ≠ 112) (h3 : T ≠ 4) : Grid q g r n vn cap w' U := by
  have ne : ∀ (k : Nat) (c' : Array Value) (T' : Nat), w.heap[k]? = some (.cells c' T' (0, 0)) → T ≠ T' → w'.heap[k]? = some (.cells c' T' (0, 0)) := fun k c' T' hk hT => by
    have hlt : k < w.heap.size := by
      rcases Nat.lt_or_ge k w.heap.size with h1 | h1
      · exact h1
      · rw [Array.getElem?_eq_none h1] at hk; cases hk
    rw [hg.block k hlt (fun e => by injection e with e; subst e; rw [hp] at hk; injection hk with hk; injection hk with _ e _; exact hT e)]
    exact hk
  obtain ⟨cells, a1, a2⟩ := h.rows
  exact ⟨h.len, h.wide, ne _ _ _ h.st h1, ⟨cells, ne _ _ _ a1 h2, a2⟩, fun i hi => ne _ _ _ (h.row i hi) h3, h.apart⟩

theorem Grid.ne (h : Grid q g r n vn cap w U) {a : Nat} (ha : a < n) : r a ≠ q ∧ r a ≠ g := by
  obtain ⟨cells, a1, _⟩ := h.rows
  constructor
  · intro e
    have := h.row a ha
    rw [e, h.st] at this
    injection this with this; injection this with _ e _; exact absurd e (by decide)
  · intro e
    have := h.row a ha
    rw [e, a1] at this
    injection this with this; injection this with _ e _; exact absurd e (by decide)

theorem Grid.store (h : Grid q g r n vn cap w U) {a b : Nat} (ha : a < n) : Grid q g r n vn cap (w.setCell ⟨r a, b, none⟩ (.bool true)) (mark U a b) := by
  have hl := h.len
  obtain ⟨n1, n2⟩ := h.ne ha
  obtain ⟨cells, a1, a2⟩ := h.rows
  refine ⟨by simp [mark, hl], fun i hi => ?_, at_setCell h.st (Ne.symm n1), ⟨cells, at_setCell a1 (Ne.symm n2), a2⟩, fun i hi => ?_, h.apart⟩
  · rw [mark_row U a b i (by omega)]
    by_cases e : i = a
    · rw [if_pos e, List.length_set]; exact h.wide a ha
    · rw [if_neg e]; exact h.wide i hi
  · rw [mark_row U a b i (by omega)]
    by_cases e : i = a
    · subst e
      rw [if_pos rfl, World.setCell, Array.getElem?_modify, if_pos rfl, h.row i hi]
      simp [List.map_set]
    · rw [if_neg e]
      exact at_setCell (h.row i hi) (fun e2 => e (h.apart i a hi ha e2))
end

/-! What is counted: the marks that are not yet set. -/
def pairsOf (n : Nat) : List (Nat × Nat) := (List.range n).flatMap fun a => (List.range n).map fun b => (a, b)
def cnt (n : Nat) (U : List (List Bool)) : Nat := ((pairsOf n).filter fun p => !bit U p.1 p.2).length

theorem filter_less {α : Type} {p s : α → Bool} (h : ∀ x, p x = true → s x = true) : ∀ (l : List α), (l.filter p).length ≤ (l.filter s).length
  | [] => by simp
  | x :: l => by
    have ih := filter_less h l
    by_cases hp : p x = true
    · simp [List.filter_cons, hp, h x hp, ih]
    · rw [List.filter_cons_of_neg hp]
      by_cases hs : s x = true
      · rw [List.filter_cons_of_pos hs]; simp only [List.length_cons]; omega
      · rw [List.filter_cons_of_neg hs]; exact ih
theorem filter_less_at {α : Type} {p s : α → Bool} (h : ∀ x, p x = true → s x = true) : ∀ (l : List α) (y : α), y ∈ l → s y = true → p y = false → (l.filter p).length < (l.filter s).length
  | x :: l, y, hy, h1, h2 => by
    have ih0 := filter_less h l
    rcases List.mem_cons.1 hy with rfl | hy
    · rw [List.filter_cons_of_neg (by rw [h2]; simp), List.filter_cons_of_pos h1]; simp only [List.length_cons]; omega
    · have ih := filter_less_at h l y hy h1 h2
      by_cases hp : p x = true
      · simp [List.filter_cons, hp, h x hp]; omega
      · rw [List.filter_cons_of_neg hp]
        by_cases hs : s x = true
        · rw [List.filter_cons_of_pos hs]; simp only [List.length_cons]; omega
        · rw [List.filter_cons_of_neg hs]; exact ih

theorem cnt_mark {n : Nat} {U : List (List Bool)} {a b : Nat} (ha : a < n) (hb : b < n) (hl : U.length = n) (hw : (U.getD a []).length = n) (h0 : bit U a b = false) : cnt n (mark U a b) < cnt n U := by
  refine filter_less_at (fun x hx => ?_) _ (a, b) ?_ (by simp [h0]) ?_
  · rw [bit_mark (by omega) (by omega)] at hx
    by_cases e : x.1 = a ∧ x.2 = b
    · rw [if_pos e] at hx; simp at hx
    · rw [if_neg e] at hx; exact hx
  · simp only [pairsOf, List.mem_flatMap, List.mem_map, List.mem_range]
    exact ⟨a, ha, b, hb, rfl⟩
  · rw [bit_mark (by omega) (by omega), if_pos ⟨rfl, rfl⟩]; rfl

/-- Marks that follow of the first ones, and no others. -/
structure Follows (n : Nat) (U0 U : List (List Bool)) : Prop where
  more : ∀ a b, a < n → b < n → bit U0 a b = true → bit U a b = true
  least : ∀ Q : Nat → Nat → Prop, (∀ a b, a < n → b < n → bit U0 a b = true → Q a b) → (∀ a b c, a < n → b < n → c < n → Q a b → Q b c → Q a c) → ∀ a b, a < n → b < n → bit U a b = true → Q a b

theorem Follows.refl (n : Nat) (U : List (List Bool)) : Follows n U U := ⟨fun _ _ _ _ h => h, fun _ h _ a b ha hb hab => h a b ha hb hab⟩

theorem Follows.mark {n : Nat} {U0 U : List (List Bool)} {a b c : Nat} (h : Follows n U0 U) (ha : a < n) (hb : b < n) (hc : c < n) (hl : U.length = n) (hw : (U.getD a []).length = n) (h1 : bit U a b = true) (h2 : bit U b c = true) : Follows n U0 (mark U a c) := by
  refine ⟨fun i j hi hj hij => ?_, fun Q hq ht i j hi hj hij => ?_⟩
  · rw [bit_mark (by omega) (by omega)]
    split
    · rfl
    · exact h.more i j hi hj hij
  · rw [bit_mark (by omega) (by omega)] at hij
    by_cases e : i = a ∧ j = c
    · obtain ⟨rfl, rfl⟩ := e
      exact ht i b j ha hb hc (h.least Q hq ht i b ha hb h1) (h.least Q hq ht b j hb hc h2)
    · rw [if_neg e] at hij
      exact h.least Q hq ht i j hi hj hij

/-- Of three nodes ahead of (a, b, c) nothing is lacking. -/
def Shut (n : Nat) (U : List (List Bool)) (a b c : Nat) : Prop :=
  ∀ i j k, i < n → j < n → k < n → (i < a ∨ (i = a ∧ (j < b ∨ (j = b ∧ k < c)))) → bit U i j = true → bit U j k = true → bit U i k = true

theorem Shut.zero (n : Nat) (U : List (List Bool)) : Shut n U 0 0 0 := fun i j k _ _ _ h => by omega
theorem Shut.nextC {n : Nat} {U : List (List Bool)} {a b c : Nat} (h : Shut n U a b c) (h1 : bit U a b = true → bit U b c = true → bit U a c = true) : Shut n U a b (c + 1) := by
  intro i j k hi hj hk hlt hij hjk
  by_cases e : i = a ∧ j = b ∧ k = c
  · obtain ⟨rfl, rfl, rfl⟩ := e; exact h1 hij hjk
  · exact h i j k hi hj hk (by omega) hij hjk
theorem Shut.nextB {n : Nat} {U : List (List Bool)} {a b : Nat} (h : Shut n U a b n) : Shut n U a (b + 1) 0 := fun i j k hi hj hk hlt => h i j k hi hj hk (by omega)
theorem Shut.nextA {n : Nat} {U : List (List Bool)} {a : Nat} (h : Shut n U a n 0) : Shut n U (a + 1) 0 0 := fun i j k hi hj hk hlt => h i j k hi hj hk (by omega)
theorem Shut.all {n : Nat} {U : List (List Bool)} (h : Shut n U n 0 0) : ∀ i j k, i < n → j < n → k < n → bit U i j = true → bit U j k = true → bit U i k = true := fun i j k hi hj hk => h i j k hi hj hk (by omega)
end Go.Proofs.YtckpffkofeoinaaGreatDoor
