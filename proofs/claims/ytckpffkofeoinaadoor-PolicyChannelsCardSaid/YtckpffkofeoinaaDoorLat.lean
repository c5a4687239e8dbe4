/- A lattice of package levels as it lies in memory. -/
import Derived.Test.YtckpffkofeoinaaDoorBase
import Derived.Test.YtckpffkofeoinaaDoorPLev
namespace Go.Proofs.YtckpffkofeoinaaDoor
open Go.RowKit

theorem ownsRow.lenEq {w : World} {base e n : Nat} {v : Value} {xs : List Value} (h : w.ownsRow base e 1 v n xs) : xs.length = n := by rw [h.1, Nat.mul_one]

/-- An element of an owned row of one-cell elements. -/
theorem owns_at {w : World} {base e n j : Nat} {v : Value} {xs : List Value} (h : w.ownsRow base e 1 v n xs) (hj : j < n) :
    ∃ g cap cur, v = .slice (some ⟨g, 0, none⟩) n cap ∧ n ≤ cap ∧ base ≤ g ∧ w.heap[g]? = some (.cells cur e (0, 0)) ∧ w.cell? ⟨g, j, none⟩ = xs[j]? ∧ w.frozen? ⟨g, j, none⟩ = false := by
  have hl := ownsRow.lenEq h
  obtain ⟨_, ⟨_, rfl⟩ | ⟨g, cap, cur, rfl, hb, hh, h1, h2, h3, h4⟩⟩ := h
  · omega
  · refine ⟨g, cap, cur, rfl, h1, hb, hh, ?_, by simp [World.frozen?, hh]⟩
    rw [← h4, List.getElem?_take, if_pos (by omega)]
    simp [World.cell?, hh]

theorem owns_form {w : World} {base e size n : Nat} {v : Value} {xs : List Value} (h : w.ownsRow base e size v n xs) : ∃ a cap, v = .slice a n cap ∧ n ≤ cap ∧ cap ≤ maxLen ∧ Rd w a xs := by
  have h0 := h
  obtain ⟨_, ⟨rfl, rfl⟩ | ⟨g, cap, cur, rfl, hb, hh, h1, h2, h3, h4⟩⟩ := h
  · exact ⟨none, 0, rfl, Nat.le_refl _, by unfold maxLen; omega, Rd.of_owns h0⟩
  · exact ⟨_, cap, rfl, h1, h2, Rd.of_owns h0⟩

/-- Two rows of different element types are two blocks. -/
theorem owns_ne {w : World} {base e size n p T : Nat} {v : Value} {xs : List Value} {c : Array Value} {fr : Nat × Nat} (h : w.ownsRow base e size v n xs) (hp : w.heap[p]? = some (.cells c T fr)) (hT : T ≠ e) : v.ownBlock ≠ some p := by
  intro he
  obtain ⟨_, ⟨rfl, rfl⟩ | ⟨g, cap, cur, rfl, hb, hh, h1, h2, h3, h4⟩⟩ := h
  · simp [Value.ownBlock] at he
  · simp [Value.ownBlock] at he
    subst he
    rw [hp] at hh
    injection hh with hh
    injection hh with _ h5 _
    exact hT h5

theorem owns_base {w : World} {base base' e size n : Nat} {v : Value} {xs : List Value} (h : w.ownsRow base e size v n xs) (hb : base' ≤ base) : w.ownsRow base' e size v n xs := by
  obtain ⟨h0, h | ⟨g, cap, cur, rfl, hg, r⟩⟩ := h
  · exact ⟨h0, .inl h⟩
  · exact ⟨h0, .inr ⟨g, cap, cur, rfl, by omega, r⟩⟩

theorem owns_below {w w' : World} {base e size n : Nat} {v : Value} {xs : List Value} (h : w.ownsRow base e size v n xs) (hb : Below w.heap.size w w') : w'.ownsRow base e size v n xs := by
  obtain ⟨h0, h | ⟨g, cap, cur, rfl, hg, hh, r⟩⟩ := h
  · exact ⟨h0, .inl h⟩
  · exact ⟨h0, .inr ⟨g, cap, cur, rfl, hg, by rw [hb.block g (lt_of_block hh)]; exact hh, r⟩⟩

def nilS : Value := .slice none 0 0
def u32s (l : List Nat) : List Value := l.map fun (s : Nat) => Value.int .u32 s
def i64s (l : List Int) : List Value := l.map fun s => Value.int .i64 s

/-- A table of numbers, row by row. -/
def Tab (w : World) (v : Value) (t : List (List Int)) : Prop :=
  ∃ rows : List Value, w.ownsRow 0 158 1 v t.length rows ∧ ∀ (i : Nat) r, rows[i]? = some r → w.ownsRow 0 3 1 r (t.getD i []).length (i64s (t.getD i []))

/-- The tables are not made yet, or they are. -/
def Memo (w : World) (d : Int) (vj vm : Value) (L : LatD) : Prop :=
  (d = 0 ∧ vj = nilS ∧ vm = nilS) ∨ (d = 1 ∧ Tab w vj (joinTab L.up) ∧ Tab w vm (joinTab L.down))

def latCells (vn vu vd : Value) (d : Int) (vj vm : Value) : Array Value := #[vn, vu, vd, .int .u32 d, .int .i32 0, .int .u32 0, vj, vm]

/-- The lattice L lies in block p. -/
def Lat (w : World) (p : Nat) (L : LatD) : Prop :=
  ∃ vn vu vd d vj vm, w.heap[p]? = some (.cells (latCells vn vu vd d vj vm) 71 (0, 0)) ∧
    w.ownsRow 0 9 1 vn L.names.length (L.names.map Value.string) ∧
    w.ownsRow 0 97 1 vu L.up.length (u32s L.up) ∧
    w.ownsRow 0 97 1 vd L.down.length (u32s L.down) ∧ Memo w d vj vm L ∧ L.Ok

/-- Only block p of the old ones may have turned, and that is a lattice's. -/
theorem Tab.keep {w w' : World} {p : Nat} {v : Value} {t : List (List Int)} {c : Array Value} {fr : Nat × Nat} (h : Tab w v t) (hg : w.grownBy w' (some p)) (hp : w.heap[p]? = some (.cells c 71 fr)) : Tab w' v t := by
  obtain ⟨rows, h1, h2⟩ := h
  exact ⟨rows, h1.kept hg (.inr (owns_ne h1 hp (by decide))), fun i r hr => (h2 i r hr).kept hg (.inr (owns_ne (h2 i r hr) hp (by decide)))⟩

theorem Lat.keep {w w' : World} {p q : Nat} {L : LatD} {c : Array Value} {fr : Nat × Nat} (h : Lat w q L) (hg : w.grownBy w' (some p)) (hp : w.heap[p]? = some (.cells c 71 fr)) (hne : q ≠ p) : Lat w' q L := by
  obtain ⟨vn, vu, vd, d, vj, vm, h0, h1, h2, h3, h4, h5⟩ := h
  refine ⟨vn, vu, vd, d, vj, vm, ?_, h1.kept hg (.inr (owns_ne h1 hp (by decide))), h2.kept hg (.inr (owns_ne h2 hp (by decide))), h3.kept hg (.inr (owns_ne h3 hp (by decide))), ?_, h5⟩
  · rw [hg.block q (lt_of_block h0) (by simpa using hne)]; exact h0
  · rcases h4 with h4 | ⟨e, h4, h6⟩
    · exact .inl h4
    · exact .inr ⟨e, h4.keep hg hp, h6.keep hg hp⟩

theorem Tab.below {w w' : World} {v : Value} {t : List (List Int)} (h : Tab w v t) (hb : Below w.heap.size w w') : Tab w' v t := by
  obtain ⟨rows, h1, h2⟩ := h
  exact ⟨rows, owns_below h1 hb, fun i r hr => owns_below (h2 i r hr) hb⟩

theorem Memo.below {w w' : World} {d : Int} {vj vm : Value} {L : LatD} (h : Memo w d vj vm L) (hb : Below w.heap.size w w') : Memo w' d vj vm L := by
  rcases h with h4 | ⟨e, h4, h6⟩
  · exact .inl h4
  · exact .inr ⟨e, h4.below hb, h6.below hb⟩

theorem Lat.below {w w' : World} {q : Nat} {L : LatD} (h : Lat w q L) (hb : Below w.heap.size w w') : Lat w' q L := by
  obtain ⟨vn, vu, vd, d, vj, vm, h0, h1, h2, h3, h4, h5⟩ := h
  exact ⟨vn, vu, vd, d, vj, vm, by rw [hb.block q (lt_of_block h0)]; exact h0, owns_below h1 hb, owns_below h2 hb, owns_below h3 hb, h4.below hb, h5⟩

theorem Lat.lt {w : World} {q : Nat} {L : LatD} (h : Lat w q L) : q < w.heap.size := by
  obtain ⟨vn, vu, vd, d, vj, vm, h0, _⟩ := h
  exact lt_of_block h0

theorem Lat.drewN {w : World} {q : Nat} {L : LatD} (h : Lat w q L) (n : Nat) : Lat (w.drewN n) q L := h

/-- What the fields hold, cell by cell. -/
theorem Lat.cells {w : World} {p : Nat} {L : LatD} (h : Lat w p L) : ∃ an cn au cu ad cd,
    w.cell? ⟨p, 0, none⟩ = some (.slice an L.names.length cn) ∧ w.cell? ⟨p, 1, none⟩ = some (.slice au L.names.length cu) ∧ w.cell? ⟨p, 2, none⟩ = some (.slice ad L.names.length cd) ∧
    Rd w an (L.names.map Value.string) ∧ Rd w au (u32s L.up) ∧ Rd w ad (u32s L.down) ∧ L.names.length ≤ cn ∧ L.names.length ≤ cu ∧ L.names.length ≤ cd ∧ L.Ok := by
  obtain ⟨vn, vu, vd, d, vj, vm, h0, h1, h2, h3, h4, h5⟩ := h
  obtain ⟨an, cn, rfl, l1, _, r1⟩ := owns_form h1
  obtain ⟨au, cu, rfl, l2, _, r2⟩ := owns_form h2
  obtain ⟨ad, cd, rfl, l3, _, r3⟩ := owns_form h3
  rw [h5.up] at l2; rw [h5.down] at l3
  refine ⟨an, cn, au, cu, ad, cd, by simp [World.cell?, h0, latCells], ?_, ?_, r1, r2, r3, l1, l2, l3, h5⟩
  · rw [← h5.up]; simp [World.cell?, h0, latCells]
  · rw [← h5.down]; simp [World.cell?, h0, latCells]
end Go.Proofs.YtckpffkofeoinaaDoor
