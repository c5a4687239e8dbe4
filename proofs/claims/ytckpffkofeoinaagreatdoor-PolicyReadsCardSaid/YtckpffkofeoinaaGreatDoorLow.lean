/- (*strings.Builder).copyCheck and WriteString, as they stand in this dump; a builder kept by what lies above it; the closure of Print. -/
import Derived.Test.YtckpffkofeoinaaGreatDoorBase
import Derived.Test.YtckpffkofeoinaaGreatDoorShelf
import Derived.Shelf.Strings.BuilderK
import Derived.Lib.BufferKept
import Derived.Laws.BitsAllLaws
import Derived.OrdersHeld
import Derived.Deep.RegionHeld
namespace Go.Proofs.YtckpffkofeoinaaGreatDoor
open Go.RowKit

theorem sizeBuilder : (Tryz.prog.info? 73).map (·.size) = some 2 := by kernel_rfl
theorem liesBuilder : liesAt Tryz.prog Tryz.prog.depth 73 (2 / Tryz.prog.cellsOf 73) 0 73 1 = true := by kernel_rfl
theorem infoByte : (Tryz.prog.info? 5).map (fun i => (i.zero, i.size, i.bytes)) = some (some (.int .u8 0), 1, 1) := by kernel_rfl

abbrev BAt (B b : Nat) (p : Value) (bs : List Value) (w : World) : Prop := Lib.BuilderAtF 73 5 B b p bs w
abbrev IsB (B b : Nat) (bs : List Value) (w : World) : Prop := Lib.IsBuilderF 73 5 B b bs w

set_option maxRecDepth 100000 in
theorem copyCheck_used (b : Nat) (w : World) (h0 : w.cell? ⟨b, 0, none⟩ = some (.pointer (some ⟨b, 0, none⟩))) :
    Calls Tryz.prog 58 #[.pointer (some ⟨b, 0, none⟩)] w fun e w' => e = .returned (.tuple #[]) ∧ w' = w := by
  obtain ⟨j, hj, _⟩ := Option.map_eq_some_iff.1 sizeBuilder
  go_enter Tryz.func58, Tryz.ntmps58
  go_wp2
  rw [Lib.run_neq_ptr_same w _ Tryz.underlying70 hj]
  go_wp2
  go_end0
  exact ⟨rfl, rfl⟩

set_option maxRecDepth 100000 in
theorem copyCheck_fresh (b : Nat) (w : World) (h0 : w.cell? ⟨b, 0, none⟩ = some (.pointer none)) (hsh : w.shape? b = some (73, 2)) (hfz : w.frozen? ⟨b, 0, none⟩ = false) :
    Calls Tryz.prog 58 #[.pointer (some ⟨b, 0, none⟩)] w fun e w' => e = .returned (.tuple #[]) ∧ w' = w.setCell ⟨b, 0, none⟩ (.pointer (some ⟨b, 0, none⟩)) := by
  obtain ⟨j, hj, hjs⟩ := Option.map_eq_some_iff.1 sizeBuilder
  go_enter Tryz.func58, Tryz.ntmps58
  go_wp2
  rw [Lib.run_to_unsafe w ⟨b, 0, none⟩ Tryz.underlying70 Tryz.underlying131 hj (by rw [hjs]; decide) hsh (Nat.zero_lt_succ 1)]
  simp only [Result.andThen]
  rw [Oper.upon_value]
  go_wp2
  rw [run_callFunc_extern Tryz.func79 (by kernel_rfl) (by kernel_rfl) (by kernel_rfl) (e := Extern.AbiNoEscape.same) (by kernel_rfl)]
  rw [Lib.run_noEscape]
  simp only [Result.andThen]
  rw [Oper.upon_value]
  go_wp2
  rw [Lib.run_from_unsafe w ⟨b, 0, none⟩ Tryz.underlying131 Tryz.underlying70 hj hsh liesBuilder]
  simp only [Result.andThen]
  rw [Oper.upon_value]
  go_wp2
  go_end0
  exact ⟨rfl, rfl⟩

theorem copyCheck_any (B b : Nat) (bs : List Value) (w : World) (h : IsB B b bs w) :
    Calls Tryz.prog 58 #[.pointer (some ⟨b, 0, none⟩)] w fun e w' => e = .returned (.tuple #[]) ∧ BAt B b (.pointer (some ⟨b, 0, none⟩)) bs w' ∧ Below B w w' ∧ Lib.OthersKept 5 (some b) w w' := by
  rcases h with h | h
  · refine (copyCheck_fresh b w h.cell0 h.shape h.frozen0).mono ?_
    rintro e w' ⟨rfl, rfl⟩
    exact ⟨rfl, h.used _, (Below.refl B w).setCell (p := ⟨b, 0, none⟩) h.1 _, (Lib.OthersKept.refl _ _ w).setCell ⟨b, 0, none⟩ rfl _⟩
  · refine (copyCheck_used b w h.cell0).mono ?_
    rintro e w' ⟨rfl, rfl⟩
    exact ⟨rfl, h, Below.refl B _, Lib.OthersKept.refl _ _ _⟩

set_option maxHeartbeats 2000000 in
set_option maxRecDepth 100000 in
theorem writeString_any (B b : Nat) (bs : List Value) (s : ByteArray) (w : World) (h : IsB B b bs w) (hlen : bs.length + s.size ≤ 140737488355328) (hBw : B ≤ w.heap.size) :
    Calls Tryz.prog 30 #[.pointer (some ⟨b, 0, none⟩), .string s] w fun e w' => e = .returned (.tuple #[.int .i64 s.size, .nilIface]) ∧ BAt B b (.pointer (some ⟨b, 0, none⟩)) (bs ++ Lib.strCells s) w' ∧ Below B w w' ∧ Lib.OthersKept 5 (some b) w w' := by
  obtain ⟨i0, hi, hz0, hz1, hz2⟩ := info_parts infoByte
  go_enter Tryz.func30, Tryz.ntmps30
  go_wp2_with (go_at_call 58; refine (copyCheck_any B b bs _ h).mono ?_)
  rintro e w1 ⟨rfl, h1, hb1, hk1⟩
  obtain ⟨hB, v, hbk, hown, hne⟩ := h1
  have c0 : w1.cell? ⟨b, 0, none⟩ = some (.pointer (some ⟨b, 0, none⟩)) := by rw [Lib.cell_of_heap hbk]; rfl
  have c1 : w1.cell? ⟨b, 1, none⟩ = some v := by rw [Lib.cell_of_heap hbk]; rfl
  go_wp2_with (at_builtin; refine Lib.wpList_append_own_stringF _ rfl _ _ 71 9 rfl B 5 i0 Tryz.underlying71 Tryz.underlying9 hi hz0 hz1 hz2 _ _ _ rfl hown s rfl ?c3 ?c4 ?c5 ?_)
  case c3 => unfold maxLen; omega
  case c4 => omega
  case c5 => have := hb1.size; omega
  intro v' w2 hown' hgrow _
  have hlt : b < w1.heap.size := by
    rcases Nat.lt_or_ge b w1.heap.size with h' | h'
    · exact h'
    · simp [Array.getElem?_eq_none h'] at hbk
  have hb2 : w2.heap[b]? = some (.cells #[.pointer (some ⟨b, 0, none⟩), v] 73 (0, 0)) := by
    rw [hgrow.block b hlt (fun e => hne e.symm)]
    exact hbk
  have d0 : w2.cell? ⟨b, 0, none⟩ = some (.pointer (some ⟨b, 0, none⟩)) := by rw [Lib.cell_of_heap hb2]; rfl
  have d1 : w2.cell? ⟨b, 1, none⟩ = some v := by rw [Lib.cell_of_heap hb2]; rfl
  have f1 : w2.frozen? ⟨b, 1, none⟩ = false := Lib.frozen_of_heap hb2 1
  obtain ⟨ao, n', cap, rfl⟩ : ∃ ao n' cap, v' = .slice ao n' cap := by
    rcases hown'.2 with ⟨hv, _⟩ | ⟨g, cap, cur, fz, hv, _⟩
    · exact ⟨_, _, _, hv⟩
    · exact ⟨_, _, _, hv⟩
  go_wp2
  go_ret2
  refine ⟨rfl, ?_, ?_, (hk1.grown hgrow (Lib.ownsRowF_kind hown)).setCell ⟨b, 1, none⟩ rfl _⟩
  · exact Lib.BuilderAtF.put (T := 73) (e := 5) hB hb2 (bs' := bs ++ Lib.strCells s) (by simpa [Lib.strCells_length] using hown') (by decide)
  · exact (hb1.grown hgrow (by have := hb1.size; omega) (fun k hk => (hown.lt k hk).1)).setCell (p := ⟨b, 1, none⟩) hB _
end Go.Proofs.YtckpffkofeoinaaGreatDoor

/- Package levels as plain functions. -/
namespace Go.Proofs.YtckpffkofeoinaaGreatDoor

/-- The first place of a value; -1: there is none. -/
def firstI (l : List Nat) (s : Nat) : Int := if s ∈ l then ((l.idxOf s : Nat) : Int) else -1

def joinRow (l : List Nat) (a : Nat) : List Int := l.map fun b => firstI l (l.getD a 0 &&& b)
def joinTab (l : List Nat) : List (List Int) := (List.range l.length).map fun a => joinRow l a

structure LatD where
  names : List ByteArray
  up : List Nat
  down : List Nat

/-- As New makes them: all of one length, of at most 16; each set within them. -/
structure LatD.Ok (L : LatD) : Prop where
  pos : 0 < L.names.length
  le : L.names.length ≤ 16
  up : L.up.length = L.names.length
  down : L.down.length = L.names.length
  upB : ∀ s ∈ L.up, s < 2 ^ L.names.length
  downB : ∀ s ∈ L.down, s < 2 ^ L.names.length

theorem LatD.Ok.lt {n s : Nat} (h : n ≤ 16) (hs : s < 2 ^ n) : s ≤ 65535 := by
  have : 2 ^ n ≤ 2 ^ 16 := Nat.pow_le_pow_right (by omega) h
  omega
end Go.Proofs.YtckpffkofeoinaaGreatDoor

/- A lattice of package levels as it lies in memory. -/
namespace Go.Proofs.YtckpffkofeoinaaGreatDoor
open Go.RowKit

theorem ownsRow.lenEq {w : World} {base e n : Nat} {v : Value} {xs : List Value} (h : w.ownsRow base e 1 v n xs) : xs.length = n := by rw [h.1, Nat.mul_one]

/-- An element of an owned row of one-cell elements. -/
theorem owns_at {w : World} {base e n j : Nat} {v : Value} {xs : List Value} (h : w.ownsRow base e 1 v n xs) (hj : j < n) :
    ∃ g cap cur, v = .slice (some ⟨g, 0, none⟩) n cap ∧ n ≤ cap ∧ base ≤ g ∧ w.heap[g]? = some (.cells cur e (0, 0)) ∧ w.cell? ⟨g, j, none⟩ = xs[j]? ∧ w.frozen? ⟨g, j, none⟩ = false := by
  have hl := ownsRow.lenEq h
  obtain ⟨_, ⟨_, rfl⟩ | ⟨g, cap, cur, rfl, hb, hh, h1, h2, h3, h4⟩⟩ := h
  · omega
  · refine ⟨g, cap, cur, rfl, h1, hb, hh, ?_, by simp [World.frozen?, hh]⟩
    rw [← h4, List.getElem?_take, if_pos (by omega)]
    simp [World.cell?, hh]

theorem owns_form {w : World} {base e size n : Nat} {v : Value} {xs : List Value} (h : w.ownsRow base e size v n xs) : ∃ a cap, v = .slice a n cap ∧ n ≤ cap ∧ cap ≤ maxLen ∧ Rd w a xs := by
  have h0 := h
  obtain ⟨_, ⟨rfl, rfl⟩ | ⟨g, cap, cur, rfl, hb, hh, h1, h2, h3, h4⟩⟩ := h
  · exact ⟨none, 0, rfl, Nat.le_refl _, by unfold maxLen; omega, Rd.of_owns h0⟩
  · exact ⟨_, cap, rfl, h1, h2, Rd.of_owns h0⟩

/-- Two rows of different element types are two blocks. -/
theorem owns_ne {w : World} {base e size n p T : Nat} {v : Value} {xs : List Value} {c : Array Value} {fr : Nat × Nat} (h : w.ownsRow base e size v n xs) (hp : w.heap[p]? = some (.cells c T fr)) (hT : T ≠ e) : v.ownBlock ≠ some p := by
  intro he
  obtain ⟨_, ⟨rfl, rfl⟩ | ⟨g, cap, cur, rfl, hb, hh, h1, h2, h3, h4⟩⟩ := h
  · simp [Value.ownBlock] at he
  · simp [Value.ownBlock] at he
    subst he
    rw [hp] at hh
    injection hh with hh
    injection hh with _ h5 _
    exact hT h5

theorem owns_base {w : World} {base base' e size n : Nat} {v : Value} {xs : List Value} (h : w.ownsRow base e size v n xs) (hb : base' ≤ base) : w.ownsRow base' e size v n xs := by
  obtain ⟨h0, h | ⟨g, cap, cur, rfl, hg, r⟩⟩ := h
  · exact ⟨h0, .inl h⟩
  · exact ⟨h0, .inr ⟨g, cap, cur, rfl, by omega, r⟩⟩

theorem owns_below {w w' : World} {base e size n : Nat} {v : Value} {xs : List Value} (h : w.ownsRow base e size v n xs) (hb : Below w.heap.size w w') : w'.ownsRow base e size v n xs := by
  obtain ⟨h0, h | ⟨g, cap, cur, rfl, hg, hh, r⟩⟩ := h
  · exact ⟨h0, .inl h⟩
  · exact ⟨h0, .inr ⟨g, cap, cur, rfl, hg, by rw [hb.block g (lt_of_block hh)]; exact hh, r⟩⟩

def nilS : Value := .slice none 0 0
def u32s (l : List Nat) : List Value := l.map fun (s : Nat) => Value.int .u32 s
def i64s (l : List Int) : List Value := l.map fun s => Value.int .i64 s

/-- A table of numbers, row by row. -/
def Tab (w : World) (v : Value) (t : List (List Int)) : Prop :=
  ∃ rows : List Value, w.ownsRow 0 36 1 v t.length rows ∧ ∀ (i : Nat) r, rows[i]? = some r → w.ownsRow 0 3 1 r (t.getD i []).length (i64s (t.getD i []))

/-- The tables are not made yet, or they are. -/
def Memo (w : World) (d : Int) (vj vm : Value) (L : LatD) : Prop :=
  (d = 0 ∧ vj = nilS ∧ vm = nilS) ∨ (d = 1 ∧ Tab w vj (joinTab L.up) ∧ Tab w vm (joinTab L.down))

def latCells (vn vu vd : Value) (d : Int) (vj vm : Value) : Array Value := #[vn, vu, vd, .int .u32 d, .int .i32 0, .int .u32 0, vj, vm]

/-- The lattice L lies in block p. -/
def Lat (w : World) (p : Nat) (L : LatD) : Prop :=
  ∃ vn vu vd d vj vm, w.heap[p]? = some (.cells (latCells vn vu vd d vj vm) 99 (0, 0)) ∧
    w.ownsRow 0 9 1 vn L.names.length (L.names.map Value.string) ∧
    w.ownsRow 0 108 1 vu L.up.length (u32s L.up) ∧
    w.ownsRow 0 108 1 vd L.down.length (u32s L.down) ∧ Memo w d vj vm L ∧ L.Ok

/-- Only block p of the old ones may have turned, and that is a lattice's. -/
theorem Tab.keep {w w' : World} {p : Nat} {v : Value} {t : List (List Int)} {c : Array Value} {fr : Nat × Nat} (h : Tab w v t) (hg : w.grownBy w' (some p)) (hp : w.heap[p]? = some (.cells c 99 fr)) : Tab w' v t := by
  obtain ⟨rows, h1, h2⟩ := h
  exact ⟨rows, h1.kept hg (.inr (owns_ne h1 hp (by decide))), fun i r hr => (h2 i r hr).kept hg (.inr (owns_ne (h2 i r hr) hp (by decide)))⟩

theorem Lat.keep {w w' : World} {p q : Nat} {L : LatD} {c : Array Value} {fr : Nat × Nat} (h : Lat w q L) (hg : w.grownBy w' (some p)) (hp : w.heap[p]? = some (.cells c 99 fr)) (hne : q ≠ p) : Lat w' q L := by
  obtain ⟨vn, vu, vd, d, vj, vm, h0, h1, h2, h3, h4, h5⟩ := h
  refine ⟨vn, vu, vd, d, vj, vm, ?_, h1.kept hg (.inr (owns_ne h1 hp (by decide))), h2.kept hg (.inr (owns_ne h2 hp (by decide))), h3.kept hg (.inr (owns_ne h3 hp (by decide))), ?_, h5⟩
  · rw [hg.block q (lt_of_block h0) (by simpa using hne)]; exact h0
  · rcases h4 with h4 | ⟨e, h4, h6⟩
    · exact .inl h4
    · exact .inr ⟨e, h4.keep hg hp, h6.keep hg hp⟩

theorem Tab.below {w w' : World} {v : Value} {t : List (List Int)} (h : Tab w v t) (hb : Below w.heap.size w w') : Tab w' v t := by
  obtain ⟨rows, h1, h2⟩ := h
  exact ⟨rows, owns_below h1 hb, fun i r hr => owns_below (h2 i r hr) hb⟩

theorem Memo.below {w w' : World} {d : Int} {vj vm : Value} {L : LatD} (h : Memo w d vj vm L) (hb : Below w.heap.size w w') : Memo w' d vj vm L := by
  rcases h with h4 | ⟨e, h4, h6⟩
  · exact .inl h4
  · exact .inr ⟨e, h4.below hb, h6.below hb⟩

theorem Lat.below {w w' : World} {q : Nat} {L : LatD} (h : Lat w q L) (hb : Below w.heap.size w w') : Lat w' q L := by
  obtain ⟨vn, vu, vd, d, vj, vm, h0, h1, h2, h3, h4, h5⟩ := h
  exact ⟨vn, vu, vd, d, vj, vm, by rw [hb.block q (lt_of_block h0)]; exact h0, owns_below h1 hb, owns_below h2 hb, owns_below h3 hb, h4.below hb, h5⟩

theorem Lat.lt {w : World} {q : Nat} {L : LatD} (h : Lat w q L) : q < w.heap.size := by
  obtain ⟨vn, vu, vd, d, vj, vm, h0, _⟩ := h
  exact lt_of_block h0

theorem Lat.drewN {w : World} {q : Nat} {L : LatD} (h : Lat w q L) (n : Nat) : Lat (w.drewN n) q L := h

/-- What the fields hold, cell by cell. -/
theorem Lat.cells {w : World} {p : Nat} {L : LatD} (h : Lat w p L) : ∃ an cn au cu ad cd,
    w.cell? ⟨p, 0, none⟩ = some (.slice an L.names.length cn) ∧ w.cell? ⟨p, 1, none⟩ = some (.slice au L.names.length cu) ∧ w.cell? ⟨p, 2, none⟩ = some (.slice ad L.names.length cd) ∧
    Rd w an (L.names.map Value.string) ∧ Rd w au (u32s L.up) ∧ Rd w ad (u32s L.down) ∧ L.names.length ≤ cn ∧ L.names.length ≤ cu ∧ L.names.length ≤ cd ∧ L.Ok := by
  obtain ⟨vn, vu, vd, d, vj, vm, h0, h1, h2, h3, h4, h5⟩ := h
  obtain ⟨an, cn, rfl, l1, _, r1⟩ := owns_form h1
  obtain ⟨au, cu, rfl, l2, _, r2⟩ := owns_form h2
  obtain ⟨ad, cd, rfl, l3, _, r3⟩ := owns_form h3
  rw [h5.up] at l2; rw [h5.down] at l3
  refine ⟨an, cn, au, cu, ad, cd, by simp [World.cell?, h0, latCells], ?_, ?_, r1, r2, r3, l1, l2, l3, h5⟩
  · rw [← h5.up]; simp [World.cell?, h0, latCells]
  · rw [← h5.down]; simp [World.cell?, h0, latCells]
end Go.Proofs.YtckpffkofeoinaaGreatDoor

/- The closure of Print: a line is written behind what the builder holds. -/
namespace Go.Proofs.YtckpffkofeoinaaGreatDoor
open Go.RowKit

theorem ownsF_below {w w' : World} {base e size n : Nat} {v : Value} {xs : List Value} (h : w.ownsRowF base e size v n xs) (hb : Below w.heap.size w w') : w'.ownsRowF base e size v n xs := by
  obtain ⟨h0, h | ⟨g, cap, cur, fz, rfl, hg, hh, r⟩⟩ := h
  · exact ⟨h0, .inl h⟩
  · exact ⟨h0, .inr ⟨g, cap, cur, fz, rfl, hg, by rw [hb.block g (lt_of_block hh)]; exact hh, r⟩⟩

theorem BAt.below {B b : Nat} {p : Value} {bs : List Value} {w w' : World} (h : BAt B b p bs w) (hb : Below w.heap.size w w') : BAt B b p bs w' := by
  obtain ⟨hB, v, h1, h2, h3⟩ := h
  exact ⟨hB, v, by rw [hb.block b (lt_of_block h1)]; exact h1, ownsF_below h2 hb, h3⟩
theorem IsB.below {B b : Nat} {bs : List Value} {w w' : World} (h : IsB B b bs w) (hb : Below w.heap.size w w') : IsB B b bs w' :=
  h.elim (fun x => .inl (BAt.below x hb)) (fun x => .inr (BAt.below x hb))
theorem IsB.block {B b : Nat} {bs : List Value} {w : World} (h : IsB B b bs w) : ∃ cs, w.heap[b]? = some (.cells cs 73 (0, 0)) := by
  rcases h with ⟨_, v, h1, _⟩ | ⟨_, v, h1, _⟩
  · exact ⟨_, h1⟩
  · exact ⟨_, h1⟩

/-- A row that is none of bytes stands. -/
theorem owns_others {w w' : World} {b base e size n : Nat} {v : Value} {xs : List Value} (h : w.ownsRow base e size v n xs) (hk : Lib.OthersKept 5 (some b) w w') (he : e ≠ 5) (hb : v.ownBlock ≠ some b) : w'.ownsRow base e size v n xs := by
  obtain ⟨h0, h | ⟨g, cap, cur, rfl, hg, hh, r⟩⟩ := h
  · exact ⟨h0, .inl h⟩
  · exact ⟨h0, .inr ⟨g, cap, cur, rfl, hg, hk g _ hh (fun e => hb (by simpa [Value.ownBlock] using e)) (fun c fz e => by injection e with _ e2 _; exact he e2), r⟩⟩

/-- What a line puts behind. -/
def lineP (ws : List ByteArray) : List UInt8 := Lib.join (ws.map (·.data.toList)) [32] ++ [10]

set_option maxHeartbeats 1000000 in
set_option maxRecDepth 100000 in
theorem pline_any (B b A n : Nat) (ws : List ByteArray) (bs : List UInt8) (w : World) (h : IsB B b (Lib.byteCells bs) w) (hBw : B ≤ w.heap.size) (hn : ws.length = n)
    (hcells : ∀ (j : Nat) x, ws[j]? = some x → w.cell? ⟨A, 0 + j, none⟩ = some (.string x)) (hA : A < w.heap.size) (hlen : bs.length + (lineP ws).length ≤ 140737488355328) (hn2 : n ≤ 1000) :
    Calls Tryz.prog 29 #[.slice (some ⟨A, 0, none⟩) n n, .pointer (some ⟨b, 0, none⟩)] w fun e w' => e = .returned (.tuple #[]) ∧ IsB B b (Lib.byteCells (bs ++ lineP ws)) w' ∧ Below B w w' ∧ Lib.OthersKept 5 (some b) w w' := by
  subst hn
  have hj : (Lib.join (ws.map (·.data.toList)) [32]).length ≤ 140737488355328 := by unfold lineP at hlen; rw [List.length_append] at hlen; omega
  have HJ : Hid (Calls Tryz.prog 31 #[.slice (some ⟨A, 0, none⟩) ws.length ws.length, .string ⟨#[32]⟩] w fun e w' => e = .returned (.string ⟨(Lib.join (ws.map (·.data.toList)) [32]).toArray⟩) ∧ Below w.heap.size w w') :=
    Tryz.strings_Join A 0 ws.length ws ⟨#[32]⟩ w hcells hA (by omega) (Nat.le_refl _) hj
  have hl : lineP ws = Lib.join (ws.map (·.data.toList)) [32] ++ [10] := rfl
  have HB := Lib.hid h; have HLN := Lib.hid hlen
  clear hcells h hlen
  generalize Lib.join (ws.map (·.data.toList)) [32] = js at HJ hl hj
  have HL := Lib.hid hl; clear hl
  go_enter Tryz.func29, Tryz.ntmps29
  go_wp2_with (go_at_call 31; refine HJ.out.mono ?_; rintro e w1 ⟨rfl, hb1⟩; have HB1 := Lib.hid hb1; clear hb1)
  go_wp2_with (go_at_call 30; refine (writeString_any B b (Lib.byteCells bs) _ w1 (IsB.below HB.out HB1.out) ?_ (Nat.le_trans hBw HB1.out.size)).mono ?_)
  · have h1 := HLN.out
    rw [HL.out] at h1
    rw [Lib.byteCells_length]
    simp [ByteArray.size] at h1 ⊢
    omega
  rintro e w2 ⟨rfl, h2, hb2, hk2⟩
  have H2 := Lib.hid h2; have HB2 := Lib.hid hb2; have HK2 := Lib.hid hk2; clear h2 hb2 hk2
  go_wp2
  go_end0
  refine ⟨rfl, .inr ?_, (HB1.out.mono hBw).trans HB2.out, ((Lib.OthersKept.refl _ _ _).below HB1.out).trans HK2.out⟩
  have e : Lib.byteCells (bs ++ lineP ws) = Lib.byteCells bs ++ Lib.strCells (⟨js.toArray⟩ ++ ⟨#[10]⟩) := by
    rw [HL.out, Lib.byteCells_append, Lib.strCells_eq]
    simp
  rw [e]
  exact H2.out
end Go.Proofs.YtckpffkofeoinaaGreatDoor

/- The walks of the small functions of package levels. -/
namespace Go.Proofs.YtckpffkofeoinaaGreatDoor
open Go.RowKit

theorem ret_bool {a b : Bool} (h : a = b) : Ending.returned (.bool a) = .returned (.bool b) := by rw [h]
theorem ret_int {k : IntKind} {a b : Int} (h : a = b) : Ending.returned (.int k a) = .returned (.int k b) := by rw [h]

/-- Bytes that a name may begin with, and those that it may hold. -/
def isLetter (c : UInt8) : Bool := 97 ≤ c && c ≤ 122
def isSign (c : UInt8) : Bool := isLetter c || (48 ≤ c && c ≤ 57) || c == 95

set_option maxRecDepth 20000 in
theorem sign_all : ∀ n : Fin 256, decide (Lib.indexByte [97, 98, 99, 100, 101, 102, 103, 104, 105, 106, 107, 108, 109, 110, 111, 112, 113, 114, 115, 116, 117, 118, 119, 120, 121, 122, 48, 49, 50, 51, 52, 53, 54, 55, 56, 57, 95] (UInt8.ofFin n) < 0) = !isSign (UInt8.ofFin n) := by decide
theorem sign_byte (c : UInt8) : decide (Lib.indexByte [97, 98, 99, 100, 101, 102, 103, 104, 105, 106, 107, 108, 109, 110, 111, 112, 113, 114, 115, 116, 117, 118, 119, 120, 121, 122, 48, 49, 50, 51, 52, 53, 54, 55, 56, 57, 95] c < 0) = !isSign c := sign_all c.toFin
set_option maxRecDepth 20000 in
theorem letter_all : ∀ n : Fin 256, decide (Lib.indexByte [97, 98, 99, 100, 101, 102, 103, 104, 105, 106, 107, 108, 109, 110, 111, 112, 113, 114, 115, 116, 117, 118, 119, 120, 121, 122] (UInt8.ofFin n) ≥ 0) = isLetter (UInt8.ofFin n) := by decide
theorem letter_byte (c : UInt8) : decide (Lib.indexByte [97, 98, 99, 100, 101, 102, 103, 104, 105, 106, 107, 108, 109, 110, 111, 112, 113, 114, 115, 116, 117, 118, 119, 120, 121, 122] c ≥ 0) = isLetter c := letter_all c.toFin

theorem nameF_any (c : UInt8) (w : World) :
    Calls Tryz.prog 66 #[.int .u8 c.toNat] w fun e w' => e = .returned (.bool (!isSign c)) ∧ w = w' := by
  go_enter Tryz.func66, Tryz.ntmps66
  go_wp2_with (go_at_call 64; refine (Tryz.strings_IndexByte _ _ _).mono ?_; rintro e w' ⟨rfl, rfl⟩)
  go_ret
  exact ⟨ret_bool (sign_byte c), rfl⟩

theorem idxF_byte (A : Option Addr) (c n : Nat) (zs : List UInt8) (w : World) (hn : zs.length = n) (hr : Rd w A (zs.map fun (z : UInt8) => Value.int .u8 z.toNat)) (hl : zs.length ≤ 140737488355328) :
    Calls Tryz.prog 86 #[.slice A n c, .func (.func 66) #[] #[]] w fun e w' => (∃ i : Int, e = .returned (.int .i64 i) ∧ decide (i ≥ 0) = !zs.all isSign) ∧ w = w' := by
  subst hn
  go_enter Tryz.func86, Tryz.ntmps86
  have HR := Lib.hid hr; clear hr
  go_wp2
  go_loop [8] (fun i => ∃ k : Nat, k ≤ zs.length ∧ i = .int .i64 k ∧ (zs.take k).all isSign = true) (fun i => zs.length - (intOf i).toNat)
  case atStart => exact ⟨0, Nat.zero_le _, rfl, by simp⟩
  case round =>
    obtain ⟨k, hk, rfl, hall⟩ := hrel
    have HA := Lib.hid hall; clear hall
    by_cases hlt : k < zs.length
    · obtain ⟨b, o, hA, hc⟩ := HR.out.at (j := k) (v := Value.int .u8 zs[k].toNat) (by simp [hlt])
      subst hA
      by_cases hs : isSign zs[k] = true
      · have hn : (!isSign zs[k]) = false := by simp [hs]
        have hk1 : (zs.take (k + 1)).all isSign = true := by rw [List.take_succ_eq_append_getElem hlt, List.all_append, HA.out, Bool.true_and, List.all_cons, List.all_nil, hs]; rfl
        have HS := Lib.hid hk1; clear hk1 hs
        go_wp2_with (go_at_call 66; refine (nameF_any _ _).mono ?_; rintro e w' ⟨rfl, rfl⟩)
        go_round
        case rel => exact ⟨k + 1, by omega, by go_num, HS.out⟩
        case measure => simp [intOf]; omega
      · have hn : (!isSign zs[k]) = true := by simp [hs]
        have HS := Lib.hid hs; clear hs
        go_wp2_with (go_at_call 66; refine (nameF_any _ _).mono ?_; rintro e w' ⟨rfl, rfl⟩)
        go_ret
        refine ⟨⟨_, rfl, ?_⟩, rfl⟩
        have h1 : zs.all isSign = false := by
          rw [List.all_eq_false]; exact ⟨_, List.getElem_mem hlt, HS.out⟩
        rw [h1]; simp
    · go_wp2
      go_ret
      refine ⟨⟨_, rfl, ?_⟩, rfl⟩
      have h1 : zs.all isSign = true := by
        have := HA.out; rwa [List.take_of_length_le (by omega)] at this
      rw [h1]; rfl

theorem conF_byte (A : Option Addr) (c n : Nat) (zs : List UInt8) (w : World) (hn : zs.length = n) (hr : Rd w A (zs.map fun (z : UInt8) => Value.int .u8 z.toNat)) (hl : zs.length ≤ 140737488355328) :
    Calls Tryz.prog 65 #[.slice A n c, .func (.func 66) #[] #[]] w fun e w' => e = .returned (.bool (!zs.all isSign)) ∧ w = w' := by
  have HN := Lib.hid hn; clear hn
  go_enter Tryz.func65, Tryz.ntmps65
  go_wp2_with (go_at_call 86; refine (idxF_byte _ _ _ _ _ HN.out hr hl).mono ?_; rintro e w' ⟨⟨i, rfl, hi⟩, rfl⟩; have HI := Lib.hid hi; clear hi)
  go_ret
  exact ⟨ret_bool HI.out, rfl⟩

theorem has_any (s : Nat) (n : Int) (w : World) (h1 : s ≤ 4294967295) (hn : 0 ≤ n) (hn2 : n < 32) :
    Calls Tryz.prog 46 #[.int .u32 s, .int .i64 n] w fun e w' => e = .returned (.bool (s.testBit n.toNat)) ∧ w = w' := by
  go_enter Tryz.func46, Tryz.ntmps46
  go_wp2
  go_ret
  refine ⟨ret_bool ?_, rfl⟩
  have e1 : (s : Int) / 2 ^ n.toNat = ((s / 2 ^ n.toNat : Nat) : Int) := by norm_cast
  have e2 : s / 2 ^ n.toNat ≤ s := Nat.div_le_self _ _
  rw [e1, show (1 : Int) = ((1 : Nat) : Int) from rfl, u32_and_nat _ _ (by omega) (by omega), nat_mask1, Nat.testBit, Nat.shiftRight_eq_div_pow, Nat.and_comm, nat_mask1]
  generalize s / 2 ^ n.toNat = q
  rcases Nat.mod_two_eq_zero_or_one q with h | h <;> rw [h] <;> rfl

theorem within_any (b : Nat) (a c : Int) (n cap : Nat) (A : Option Addr) (w : World) (hc : w.cell? ⟨b, 0, none⟩ = some (.slice A n cap)) :
    Calls Tryz.prog 54 #[.pointer (some ⟨b, 0, none⟩), .int .i64 a, .int .i64 c] w fun e w' => e = .returned (.bool (decide (0 ≤ a ∧ 0 ≤ c ∧ a < n ∧ c < n))) ∧ w = w' := by
  go_enter Tryz.func54, Tryz.ntmps54
  go_wp2
  all_goals
    go_ret
    refine ⟨ret_bool ?_, rfl⟩
    rw [Bool.eq_iff_iff]
    simp
    try omega
end Go.Proofs.YtckpffkofeoinaaGreatDoor

/- The walks of functions of package levels that read a lattice; Name. -/
namespace Go.Proofs.YtckpffkofeoinaaGreatDoor
open Go.RowKit

theorem idxOf_at {l : List Nat} {k s : Nat} (hk : k < l.length) (hs : l[k] = s) (hn : s ∉ l.take k) : l.idxOf s = k := by
  have e : l = l.take k ++ l[k] :: l.drop (k + 1) := by simp
  rw [e, List.idxOf_append, if_neg hn, hs, List.idxOf_cons_self, List.length_take]
  omega

theorem idx_set (A : Option Addr) (c n : Nat) (l : List Nat) (s : Nat) (w : World) (hr : Rd w A (u32s l)) (hn : l.length = n) (hl : n ≤ 140737488355328) :
    Calls Tryz.prog 90 #[.slice A n c, .int .u32 s] w fun e w' => e = .returned (.int .i64 (firstI l s)) ∧ w = w' := by
  subst hn
  go_enter Tryz.func90, Tryz.ntmps90
  have HR := Lib.hid hr; clear hr
  go_wp2
  go_loop [8] (fun i => ∃ k : Nat, k ≤ l.length ∧ i = .int .i64 k ∧ Hid (s ∉ l.take k)) (fun i => l.length - (intOf i).toNat)
  case atStart => exact ⟨0, Nat.zero_le _, rfl, by simp [Hid]⟩
  case round =>
    obtain ⟨k, hk, rfl, HA⟩ := hrel
    by_cases hlt : k < l.length
    · obtain ⟨b, o, hA, hc⟩ := HR.out.at (j := k) (v := Value.int .u32 l[k]) (by simp [u32s, hlt])
      subst hA
      by_cases hs : s = l[k]
      · have hs1 : ((s : Int) == (l[k] : Int)) = true := by simp [hs]
        have HS := Lib.hid hs; clear hs
        go_wp2
        go_ret
        refine ⟨ret_int ?_, rfl⟩
        have hm : s ∈ l := by rw [HS.out]; exact List.getElem_mem hlt
        rw [firstI, if_pos hm]
        congr 1
        exact (idxOf_at hlt HS.out.symm HA.out).symm
      · have hs1 : ((s : Int) == (l[k] : Int)) = false := by simp; omega
        have HS : Hid (s ∉ l.take (k + 1)) := by
          show ¬ _
          rw [List.take_succ_eq_append_getElem hlt]
          simp only [List.mem_append, List.mem_singleton, not_or]
          exact ⟨HA.out, hs⟩
        clear hs
        go_wp2
        go_round
        case rel => exact ⟨k + 1, by omega, by go_num, HS⟩
        case measure => simp [intOf]; omega
    · go_wp2
      go_ret
      refine ⟨ret_int ?_, rfl⟩
      have := HA.out
      rw [List.take_of_length_le (by omega)] at this
      rw [firstI, if_neg this]

theorem first_any (A : Option Addr) (c n : Nat) (l : List Nat) (s : Nat) (w : World) (hr : Rd w A (u32s l)) (hn : l.length = n) (hl : n ≤ 140737488355328) :
    Calls Tryz.prog 71 #[.slice A n c, .int .u32 s] w fun e w' => e = .returned (.int .i64 (firstI l s)) ∧ w = w' := by
  go_enter Tryz.func71, Tryz.ntmps71
  have HR := Lib.hid hr; clear hr
  have HN := Lib.hid hn; clear hn
  go_wp2_with (go_at_call 90; refine (idx_set _ _ _ _ _ _ HR.out HN.out hl).mono ?_; rintro e w' ⟨rfl, rfl⟩)
  go_ret
  exact ⟨ret_int rfl, rfl⟩

/-- A name's place. -/
def placeI (names : List ByteArray) (s : ByteArray) : Int := Lib.idxOfS names s

theorem idx_str (A : Option Addr) (c n : Nat) (l : List ByteArray) (s : ByteArray) (w : World) (hr : Rd w A (l.map Value.string)) (hn : l.length = n) (hl : n ≤ 140737488355328) :
    Calls Tryz.prog 42 #[.slice A n c, .string s] w fun e w' => e = .returned (.int .i64 (placeI l s)) ∧ w' = w := by
  subst hn
  cases l with
  | nil => exact Tryz.slices_Index_string_empty A c s w
  | cons x l =>
    rcases hr with h | ⟨b, o, rfl, h⟩
    · simp at h
    · have h2 := Tryz.slices_Index_string b o (x :: l).length c (x :: l) s w (Nat.le_refl _) (by omega) (fun j hj => h j _ (by rw [List.getElem?_map, List.getD_eq_getElem?_getD, List.getElem?_eq_getElem hj]; rfl))
      rw [List.take_length] at h2
      exact h2

theorem con_str (A : Option Addr) (c n : Nat) (l : List ByteArray) (s : ByteArray) (w : World) (hr : Rd w A (l.map Value.string)) (hn : l.length = n) (hl : n ≤ 140737488355328) :
    Calls Tryz.prog 41 #[.slice A n c, .string s] w fun e w' => e = .returned (.bool (Lib.containsS l s)) ∧ w' = w := by
  subst hn
  cases l with
  | nil => exact Tryz.slices_Contains_string_empty A c s w
  | cons x l =>
    rcases hr with h | ⟨b, o, rfl, h⟩
    · simp at h
    · have h2 := Tryz.slices_Contains_string b o (x :: l).length c (x :: l) s w (Nat.le_refl _) (by omega) (fun j hj => h j _ (by rw [List.getElem?_map, List.getD_eq_getElem?_getD, List.getElem?_eq_getElem hj]; rfl))
      rw [List.take_length] at h2
      exact h2

theorem place_any (p : Nat) (L : LatD) (s : ByteArray) (w : World) (h : Lat w p L) :
    Calls Tryz.prog 45 #[.pointer (some ⟨p, 0, none⟩), .string s] w fun e w' => e = .returned (.int .i64 (placeI L.names s)) ∧ w' = w := by
  obtain ⟨an, cn, au, cu, ad, cd, h0, h1, h2, r0, r1, r2, l0, l1, l2, ok⟩ := h.cells
  have := ok.le
  have HR := Lib.hid r0; clear r0
  clear r1 r2 h1 h2
  go_enter Tryz.func45, Tryz.ntmps45
  go_wp2_with (go_at_call 42; refine (idx_str _ _ _ _ _ _ HR.out rfl (by omega)).mono ?_; rintro e w' ⟨rfl, rfl⟩)
  go_ret
  exact ⟨ret_int rfl, rfl⟩

def belowB (L : LatD) (a b : Int) : Bool := decide (0 ≤ a ∧ 0 ≤ b ∧ a < L.names.length ∧ b < L.names.length) && (L.up.getD a.toNat 0).testBit b.toNat

theorem below_any (p : Nat) (L : LatD) (a b : Int) (w : World) (h : Lat w p L) :
    Calls Tryz.prog 25 #[.pointer (some ⟨p, 0, none⟩), .int .i64 a, .int .i64 b] w fun e w' => e = .returned (.bool (belowB L a b)) ∧ w = w' := by
  obtain ⟨an, cn, au, cu, ad, cd, h0, h1, h2, r0, r1, r2, l0, l1, l2, ok⟩ := h.cells
  clear r0 r2 h2 h
  by_cases hw : 0 ≤ a ∧ 0 ≤ b ∧ a < L.names.length ∧ b < L.names.length
  · have hd : decide (0 ≤ a ∧ 0 ≤ b ∧ a < L.names.length ∧ b < L.names.length) = true := decide_eq_true hw
    have HD := Lib.hid hd; clear hd
    obtain ⟨ha, hb, ha2, hb2⟩ := hw
    have hup : L.up.length = L.names.length := ok.up
    have hc := r1.at (j := a.toNat) (v := Value.int .u32 ((L.up.getD a.toNat 0 : Nat) : Int)) (by simp [u32s, List.getD_eq_getElem?_getD]; rw [List.getElem?_eq_getElem (by omega)]; simp)
    obtain ⟨g, o, rfl, hc⟩ := hc
    have hs : L.up.getD a.toNat 0 ≤ 65535 := LatD.Ok.lt ok.le (ok.upB _ (by rw [List.getD_eq_getElem?_getD, List.getElem?_eq_getElem (by omega)]; exact List.getElem_mem _))
    have hle := ok.le
    have hfin : belowB L a b = (L.up.getD a.toNat 0).testBit b.toNat := by rw [belowB, HD.out, Bool.true_and]
    rw [hfin]
    have HU := Lib.hid hup; clear hup hfin r1 ok
    generalize L.up.getD a.toNat 0 = s at *
    go_enter Tryz.func25, Tryz.ntmps25
    go_wp2_with (first | (go_at_call 54; refine (within_any _ _ _ _ _ _ _ h0).mono ?_; rintro e w' ⟨rfl, rfl⟩; rw [HD.out]) | (go_at_call 46; refine (has_any _ _ _ (by omega) (by omega) (by omega)).mono ?_; rintro e w' ⟨rfl, rfl⟩))
    go_ret
    exact ⟨ret_bool rfl, rfl⟩
  · have hd : decide (0 ≤ a ∧ 0 ≤ b ∧ a < L.names.length ∧ b < L.names.length) = false := decide_eq_false hw
    have HD := Lib.hid hd; clear hd hw
    have hfin : belowB L a b = false := by rw [belowB, HD.out, Bool.false_and]
    rw [hfin]
    go_enter Tryz.func25, Tryz.ntmps25
    go_wp2_with (go_at_call 54; refine (within_any _ _ _ _ _ _ _ h0).mono ?_; rintro e w' ⟨rfl, rfl⟩; rw [HD.out])
    go_ret
    exact ⟨ret_bool rfl, rfl⟩

end Go.Proofs.YtckpffkofeoinaaGreatDoor

/- A region that draws its order: loads taken first although a later store of the same region writes their cells: the condition on the world may look at what has come up. -/
namespace Go.Proofs.YtckpffkofeoinaaGreatDoor
open Go.RowKit

section
variable {P : Program} {ops : Array Oper} {Q : Exit → Act → World → Prop} {md : Region.Mode} {S : Array Bool → World → Prop}

/-- Whatever order is picked from here on, and S holds behind every operation, of what has come up and of the world. -/
def wpAnyG (P : Program) (md : Region.Mode) (ops : Array Oper) (Q : Exit → Act → World → Prop) (S : Array Bool → World → Prop) : Nat → Array Bool → Act → World → Prop
  | 0, listed, a, w => Region.ready md ops listed = [] ∧ Q .normal a w
  | fuel + 1, listed, a, w =>
    (Region.ready md ops listed = [] → Q .normal a w) ∧
    ∀ i ∈ Region.ready md ops listed, wpOp P ops Q i (fun a' w' => S (listed.setIfInBounds i true) w' ∧ wpAnyG P md ops Q S fuel (listed.setIfInBounds i true) a' w') a w

theorem wpAny_of_G : ∀ (fuel : Nat) (listed : Array Bool) (a : Act) (w : World), wpAnyG P md ops Q S fuel listed a w → wpAny P md ops Q fuel listed a w
  | 0, _, _, _, h => h
  | fuel + 1, _, _, _, h => ⟨h.1, fun i hi => wpOp_mono (fun a' w' h' => wpAny_of_G fuel _ a' w' h'.2) (h.2 i hi)⟩

theorem wpAnyG_first {i : Nat} {oi : Oper} {v : Value} {S0 : World → Prop} {C : Array Bool → Prop} (hi : ops[i]? = some oi) (hsel : ∀ (j : Nat) (o : Oper) cs b, ops[j]? = some o → o.op ≠ .select cs b)
    (hQ : ∀ c a w, Q (.panic c) (a.put oi.dst v) w → Q (.panic c) a w)
    (hC : ∀ listed j, C listed → i ∈ Region.ready md ops listed → j ∈ Region.ready md ops listed → j ≠ i → C (listed.setIfInBounds j true))
    (hS0 : ∀ listed w, C listed → S listed w → S0 w) (hSi : ∀ listed w, S (listed.setIfInBounds i true) w ↔ S listed w) :
    ∀ (fuel : Nat) (listed : Array Bool) (a : Act) (w : World),
      (∀ j oj, ops[j]? = some oj → j ≠ i → listed.getD j true = false → (∀ e ∈ oj.after, Region.binds md e = true → e.on ≠ i) → oi.apart ops oj = true) →
      i ∈ Region.ready md ops listed → C listed → YieldsIf P ops S0 oi v a → S listed w →
      wpAnyG P md ops Q S fuel (listed.setIfInBounds i true) (a.put oi.dst v) w → wpAnyG P md ops Q S (fuel + 1) listed a w := by
  intro fuel
  induction fuel with
  | zero =>
    intro listed a w _ hr hc hy hS H
    refine ⟨fun h => (by rw [h] at hr; cases hr), fun j hj => ?_⟩
    by_cases hji : j = i
    · subst hji; exact hy.wpOp hi (hS0 _ _ hc hS) ⟨(hSi _ _).2 hS, H⟩
    · have := ready_mono hj hji
      rw [H.1] at this
      cases this
  | succ fuel ih =>
    intro listed a w hfree hr hc hy hS H
    refine ⟨fun h => (by rw [h] at hr; cases hr), fun j hj => ?_⟩
    by_cases hji : j = i
    · subst hji; exact hy.wpOp hi (hS0 _ _ hc hS) ⟨(hSi _ _).2 hS, H⟩
    · have h1 := H.2 j (ready_mono hj hji)
      obtain ⟨hjun, oj, hoj, hall⟩ := mem_ready.1 hj
      have hnot : ∀ e ∈ oj.after, Region.binds md e = true → e.on ≠ i := fun e he hb heq => by
        have h1 := hall e he hb
        have h0 := (mem_ready.1 hr).1
        rw [heq] at h1
        rcases Nat.lt_or_ge i listed.size with h' | h'
        · simp [h'] at h0 h1; rw [h0] at h1; cases h1
        · simp [Array.getElem?_eq_none h'] at h1
      have h2 := wpOp_putIf hoj (hfree j oj hoj hji hjun hnot) (fun cs b => hsel i oi cs b hi) (fun cs b => hsel j oj cs b hoj) hQ hy h1
      have hfree' : ∀ k ok, ops[k]? = some ok → k ≠ i → (listed.setIfInBounds j true).getD k true = false →
          (∀ e ∈ ok.after, Region.binds md e = true → e.on ≠ i) → oi.apart ops ok = true := fun k ok hk hki hun hno => by
        refine hfree k ok hk hki ?_ hno
        by_cases hjk : j = k
        · subst hjk; exact hjun
        · rw [getD_set_ne true hjk] at hun; exact hun
      have hcomm : (listed.setIfInBounds i true).setIfInBounds j true = (listed.setIfInBounds j true).setIfInBounds i true := Array.setIfInBounds_comm _ _ (Ne.symm hji)
      refine wpOp_mono (fun a' w' h3 => ?_) h2
      rw [hcomm] at h3
      have hS' := (hSi _ _).1 h3.2.1
      exact ⟨hS', ih (listed.setIfInBounds j true) a' w' hfree' (ready_mono hr (Ne.symm hji)) (hC _ _ hc hr hj hji) h3.1 hS' h3.2.2⟩

/-- Take a pure operation first. -/
theorem G_pure {i : Nat} {oi : Oper} {v : Value} {fuel : Nat} {listed : Array Bool} {a : Act} {w : World} (hi : ops[i]? = some oi)
    (hs : Region.noSelect ops = true) (hf : Region.free md ops listed i = true) (hr : (Region.ready md ops listed).contains i = true)
    (hQ : ∀ c a w, Q (.panic c) (a.put oi.dst v) w → Q (.panic c) a w) (hSi : ∀ listed w, S (listed.setIfInBounds i true) w ↔ S listed w)
    (hy : YieldsIf P ops (fun _ => True) oi v a) (hS : S listed w)
    (h : wpAnyG P md ops Q S fuel (listed.setIfInBounds i true) (a.put oi.dst v) w) : wpAnyG P md ops Q S (fuel + 1) listed a w :=
  wpAnyG_first (S0 := fun _ => True) (C := fun _ => True) hi (Region.noSelect_spec hs) hQ (fun _ _ _ _ _ _ => trivial) (fun _ _ _ _ => trivial) hSi fuel listed a w (Region.free_spec hi hf) (by simpa using hr) trivial hy hS h

/-- Take a load first: operation k waits for it, and till k has come up S tells what it reads. -/
theorem G_load {i : Nat} (k : Nat) {oi : Oper} {v : Value} {fuel : Nat} {listed : Array Bool} {a : Act} {w : World} (S0 : World → Prop) (hi : ops[i]? = some oi)
    (hs : Region.noSelect ops = true) (hf : Region.free md ops listed i = true) (hr : (Region.ready md ops listed).contains i = true)
    (hQ : ∀ c a w, Q (.panic c) (a.put oi.dst v) w → Q (.panic c) a w) (hSi : ∀ listed w, S (listed.setIfInBounds i true) w ↔ S listed w)
    (hk : ((ops[k]?).map fun o => o.after.any fun e => Region.binds md e && e.on == i) = some true) (hlk : listed.getD k true = false)
    (hS0 : ∀ listed w, listed.getD k true = false → S listed w → S0 w)
    (hy : YieldsIf P ops S0 oi v a) (hS : S listed w)
    (h : wpAnyG P md ops Q S fuel (listed.setIfInBounds i true) (a.put oi.dst v) w) : wpAnyG P md ops Q S (fuel + 1) listed a w := by
  refine wpAnyG_first (S0 := S0) (C := fun l => l.getD k true = false) hi (Region.noSelect_spec hs) hQ ?_ hS0 hSi fuel listed a w (Region.free_spec hi hf) (by simpa using hr) hlk hy hS h
  intro l j hl hri hrj hne
  by_cases hjk : j = k
  · exfalso
    subst hjk
    obtain ⟨_, oj, hoj, hall⟩ := mem_ready.1 hrj
    rw [hoj] at hk
    simp only [Option.map_some, Option.some.injEq, Array.any_eq_true', Bool.and_eq_true, beq_iff_eq] at hk
    obtain ⟨e, he, hb, hon⟩ := hk
    have h1 := hall e he hb
    have h0 := (mem_ready.1 hri).1
    rw [hon] at h1
    rcases Nat.lt_or_ge i l.size with h' | h'
    · simp [h'] at h0 h1; rw [h0] at h1; cases h1
    · simp [Array.getElem?_eq_none h'] at h1
  · rw [getD_set_ne true hjk]; exact hl

/-- Each of the operations comes up next. -/
def AllG (P : Program) (md : Region.Mode) (ops : Array Oper) (Q : Exit → Act → World → Prop) (S : Array Bool → World → Prop) (fuel : Nat) (listed : Array Bool) (a : Act) (w : World) (rs : List Nat) : Prop :=
  ∀ i ∈ rs, wpOp P ops Q i (fun a' w' => S (listed.setIfInBounds i true) w' ∧ wpAnyG P md ops Q S fuel (listed.setIfInBounds i true) a' w') a w

theorem AllG.nil {fuel : Nat} {listed : Array Bool} {a : Act} {w : World} : AllG P md ops Q S fuel listed a w [] := fun _ h => by cases h

theorem AllG.cons {fuel : Nat} {listed : Array Bool} {a : Act} {w : World} {i : Nat} {o : Oper} {rs : List Nat} (ho : ops[i]? = some o)
    (h : ∀ K' : Act → World → Prop, Shut (∀ a w, S (listed.setIfInBounds i true) w → wpAnyG P md ops Q S fuel (listed.setIfInBounds i true) a w → K' a w) → if Region.wanted o (yielded ops a.tmps) = true then Oper.wp P o a w K' Q else K' (a.put o.dst undef) w)
    (hs : AllG P md ops Q S fuel listed a w rs) : AllG P md ops Q S fuel listed a w (i :: rs) := fun j hj => by
  rcases List.mem_cons.1 hj with rfl | hj
  · exact wpOp_step ho (fun K' hK => h K' (fun a w hS hW => hK a w ⟨hS, hW⟩))
  · exact hs j hj

theorem G_ready (rs : List Nat) {fuel : Nat} {listed : Array Bool} {a : Act} {w : World} (hr : Region.ready md ops listed = rs) (hne : rs ≠ [])
    (h : AllG P md ops Q S fuel listed a w rs) : wpAnyG P md ops Q S (fuel + 1) listed a w := ⟨fun h0 => absurd (hr ▸ h0) hne, hr ▸ h⟩

theorem G_done {listed : Array Bool} {a : Act} {w : World} (hr : Region.ready md ops listed = []) (h : Q .normal a w) :
    ∀ fuel, wpAnyG P md ops Q S fuel listed a w
  | 0 => ⟨hr, h⟩
  | _ + 1 => ⟨fun _ => h, by rw [hr]; simp⟩

theorem wp_region_G (S : Array Bool → World → Prop) {id : Nat} {a : Act} {w : World} (hm : P.follows .mixedOrders = true)
    (h : wpAnyG P .any ops Q S ops.size (Array.replicate ops.size false) a w.drew) : (Code.region id ops true).wp P Q a w :=
  wp_region_any hm (wpAny_of_G _ _ _ _ h)
end
end Go.Proofs.YtckpffkofeoinaaGreatDoor

/- (*Lattice).tables: both tables, row by row. -/
namespace Go.Proofs.YtckpffkofeoinaaGreatDoor
open Go.RowKit

theorem info_int : (Tryz.prog.info? 3).map (fun i => (i.zero, i.size, i.bytes)) = some (some (.int .i64 0), 1, 8) := by kernel_rfl
theorem info_ints : (Tryz.prog.info? 36).map (fun i => (i.zero, i.size, i.bytes)) = some (some (.slice none 0 0), 1, 24) := by kernel_rfl

/-- One step of a row: what is owned above 'base', beside another row that is owned above it. -/
theorem owns_other {w w' : World} {base e n : Nat} {v : Value} {xs : List Value} {row : Option Nat} (h : w.ownsRow base e 1 v n xs) (hg : w.grownBy w' row) (hne : v.ownBlock = none ∨ v.ownBlock ≠ row) : w'.ownsRow base e 1 v n xs := h.kept hg hne

/-- What region 10 may rely on: till an append has come up, its field is as it was. -/
def S10 (p : Nat) (vj vm : Value) (l : Array Bool) (w : World) : Prop :=
  (l.getD 8 true = false → w.cell? ⟨p, 6, none⟩ = some vj) ∧ (l.getD 15 true = false → w.cell? ⟨p, 7, none⟩ = some vm)
theorem S10_set {p : Nat} {vj vm : Value} {l : Array Bool} {w : World} (i : Nat) (h8 : i ≠ 8) (h15 : i ≠ 15) (h : S10 p vj vm l w) : S10 p vj vm (l.setIfInBounds i true) w := by
  unfold S10 at *; rw [getD_set_ne true h8, getD_set_ne true h15]; exact h

theorem getD_le {l : List Nat} {n : Nat} (h : ∀ s ∈ l, s < 2 ^ n) (hn : n ≤ 16) (k : Nat) : l.getD k 0 ≤ 65535 := by
  rw [List.getD_eq_getElem?_getD]
  rcases Nat.lt_or_ge k l.length with hk | hk
  · rw [List.getElem?_eq_getElem hk]; exact LatD.Ok.lt hn (h _ (List.getElem_mem hk))
  · rw [List.getElem?_eq_none hk]; exact Nat.zero_le _

theorem heap_first (w : World) (a b : Obj) : ((w.alloc a).alloc b).drew.heap[w.heap.size]? = some a := by
  show ((w.heap.push a).push b)[w.heap.size]? = some a
  rw [Array.getElem?_push, if_neg (by simp), Array.getElem?_push, if_pos rfl]
theorem heap_second (w : World) (a b : Obj) : ((w.alloc a).alloc b).drew.heap[w.heap.size + 1]? = some b := by
  show ((w.heap.push a).push b)[w.heap.size + 1]? = some b
  rw [Array.getElem?_push, if_pos (by simp)]

theorem cell_keep {w : World} {a : Addr} {v : Value} {o : Obj} (h : w.cell? a = some v) : (w.alloc o).cell? a = some v := by
  rw [World.cell?_alloc_some _ _ _ (by rw [h]; rfl)]; exact h

theorem Tab.nil (w : World) : Tab w nilS ([] : List (List Int)) := ⟨[], World.ownsRow_nil _ _ _ _, fun i r h => by simp at h⟩

/-- Two values share no block. -/
def apart (v u : Value) : Prop := v.ownBlock = none ∨ v.ownBlock ≠ u.ownBlock

theorem rd_u32 {w : World} {au : Option Addr} {l : List Nat} {k n : Nat} (h : Rd w au (u32s l)) (hl : l.length = n) (hk : k < n) : ∃ g o, au = some ⟨g, o, none⟩ ∧ w.cell? ⟨g, o + k, none⟩ = some (.int .u32 ((l.getD k 0 : Nat) : Int)) :=
  h.at (by simp [u32s, List.getD_eq_getElem?_getD]; rw [List.getElem?_eq_getElem (by omega)]; simp)

theorem and_u32 (a b : Nat) (ha : a ≤ 65535) (hb : b ≤ 65535) : bits BinOp.and IntKind.u32 (a : Int) (b : Int) = ((a &&& b : Nat) : Int) := u32_and_nat a b (by omega) (by omega)
theorem and_le (a b : Nat) (ha : a ≤ 65535) : a &&& b ≤ 65535 := Nat.le_trans Nat.and_le_left ha

theorem apart_symm {v u : Value} (h : apart v u) : u.ownBlock = none ∨ u.ownBlock ≠ v.ownBlock := by
  rcases h with h | h
  · by_cases e : u.ownBlock = none
    · exact .inl e
    · exact .inr (by rw [h]; exact e)
  · exact .inr (Ne.symm h)

theorem joinRow_snoc (l : List Nat) (k k2 : Nat) (h : k2 < l.length) : i64s ((joinRow l k).take (k2 + 1)) = i64s ((joinRow l k).take k2) ++ [Value.int .i64 (firstI l (l.getD k 0 &&& l.getD k2 0))] := by
  rw [List.take_succ_eq_append_getElem (by simp [joinRow]; exact h)]
  simp [i64s, joinRow, List.getD_eq_getElem?_getD, h]

/-- Behind both appends of region 10. -/
structure Fin10 (wr w2 : World) (vj vm v77 v84 : Value) (k : Nat) (r3 r4 : List Value) : Prop where
  own77 : w2.ownsRow 0 36 1 v77 (k + 1) r3
  own84 : w2.ownsRow 0 36 1 v84 (k + 1) r4
  ap : apart v77 v84
  os : w2.os = wr.os
  tape : w2.tape = wr.tape
  output : w2.output = wr.output
  size : wr.heap.size ≤ w2.heap.size
  keep : ∀ q, q < wr.heap.size → vj.ownBlock ≠ some q → vm.ownBlock ≠ some q → w2.heap[q]? = wr.heap[q]?
  new77 : ∀ q, v77.ownBlock = some q → vj.ownBlock = some q ∨ wr.heap.size ≤ q
  new84 : ∀ q, v84.ownBlock = some q → vm.ownBlock = some q ∨ wr.heap.size ≤ q

theorem Fin10.mk2 {wr W1 w1 W2 w2 : World} {vj vm : Value} {k n gg gh H H2 cap cap2 : Nat} {rj rm r3 r4 : List Value} (hj : wr.ownsRow 0 36 1 vj n rj) (hm : wr.ownsRow 0 36 1 vm n rm) (hap : apart vj vm)
    (b1 : Below wr.heap.size wr W1) (g1 : W1.grownBy w1 vj.ownBlock) (o1 : w1.ownsRow 0 36 1 (.slice (some ⟨gg, 0, none⟩) (k + 1) cap) (k + 1) r3) (hat : vj.ownBlock = some gg ∨ gg = H) (hH : wr.heap.size ≤ H)
    (b2 : Below w1.heap.size w1 W2) (g2 : W2.grownBy w2 vm.ownBlock) (o2 : w2.ownsRow 0 36 1 (.slice (some ⟨gh, 0, none⟩) (k + 1) cap2) (k + 1) r4) (hat2 : vm.ownBlock = some gh ∨ gh = H2) (hH2 : w1.heap.size ≤ H2) :
    Fin10 wr w2 vj vm (.slice (some ⟨gg, 0, none⟩) (k + 1) cap) (.slice (some ⟨gh, 0, none⟩) (k + 1) cap2) k r3 r4 := by
  have s1 := b1.size; have s2 := g1.size; have s3 := b2.size; have s4 := g2.size
  have lm : ∀ q, vm.ownBlock = some q → q < wr.heap.size := fun q hq => (hm.lt q hq).2
  have lj : ∀ q, vj.ownBlock = some q → q < wr.heap.size := fun q hq => (hj.lt q hq).2
  have lgg : gg < w1.heap.size := (o1.lt gg rfl).2
  have ngm : vm.ownBlock ≠ some gg := fun e => by
    rcases hat with h | h
    · rcases hap with h2 | h2
      · rw [h2] at h; cases h
      · exact h2 (h.trans e.symm)
    · have := lm gg e; omega
  refine ⟨?_, o2, .inr ?_, ?_, ?_, ?_, by omega, ?_, ?_, ?_⟩
  · refine (owns_below o1 b2).kept g2 (.inr ?_)
    show some gg ≠ _
    exact Ne.symm ngm
  · show some gg ≠ some gh
    intro e
    injection e with e
    rcases hat2 with h | h
    · exact ngm (h.trans (by rw [e]))
    · omega
  · rw [g2.os, b2.os, g1.os, b1.os]
  · rw [g2.tape, b2.tape, g1.tape, b1.tape]
  · rw [g2.output, b2.output, g1.output, b1.output]
  · intro q hq h1 h2
    rw [g2.block q (by omega) (Ne.symm h2), b2.block q (by omega), g1.block q (by omega) (Ne.symm h1), b1.block q hq]
  · intro q hq
    simp [Value.ownBlock] at hq
    subst hq
    rcases hat with h | h
    · exact .inl h
    · exact .inr (by omega)
  · intro q hq
    simp [Value.ownBlock] at hq
    subst hq
    rcases hat2 with h | h
    · exact .inl h
    · exact .inr (by omega)

theorem Fin10.stored {wr w2 wo : World} {vj vm v77 v84 : Value} {k : Nat} {r3 r4 : List Value} (h : Fin10 wr w2 vj vm v77 v84 k r3 r4) (p : Nat) (hpo : p < wo.heap.size) (hB : Below wo.heap.size wo wr) {c : Array Value}
    (hp : wo.heap[p]? = some (.cells c 99 (0, 0))) (nj : vj.ownBlock ≠ some p) (nm : vm.ownBlock ≠ some p) :
    w2.cell? ⟨p, 6, none⟩ = c[6]? ∧ w2.cell? ⟨p, 7, none⟩ = c[7]? ∧ w2.frozen? ⟨p, 6, none⟩ = false ∧ w2.frozen? ⟨p, 7, none⟩ = false := by
  have e : w2.heap[p]? = some (.cells c 99 (0, 0)) := by
    rw [h.keep p (by have := hB.size; omega) nj nm, hB.block p hpo, hp]
  refine ⟨?_, ?_, ?_, ?_⟩ <;> simp [World.cell?, World.frozen?, e]

theorem owns_move {w w' : World} {base e n : Nat} {v : Value} {xs : List Value} (h : w.ownsRow base e 1 v n xs) (hq : ∀ g, v.ownBlock = some g → w'.heap[g]? = w.heap[g]?) : w'.ownsRow base e 1 v n xs := by
  obtain ⟨h0, h | ⟨g, cap, cur, rfl, hg, hh, r⟩⟩ := h
  · exact ⟨h0, .inl h⟩
  · exact ⟨h0, .inr ⟨g, cap, cur, rfl, hg, by rw [hq g rfl]; exact hh, r⟩⟩

theorem owns_types {w : World} {b b' e e' n m : Nat} {v u : Value} {xs ys : List Value} (h1 : w.ownsRow b e 1 v n xs) (h2 : w.ownsRow b' e' 1 u m ys) (he : e ≠ e') : ∀ g, v.ownBlock = some g → u.ownBlock ≠ some g := by
  intro g hv hu
  obtain ⟨_, ⟨rfl, _⟩ | ⟨g1, cap, cur, rfl, hg, hh, r⟩⟩ := h1
  · simp [Value.ownBlock] at hv
  · simp [Value.ownBlock] at hv; subst hv
    exact owns_ne h2 hh he hu

/-- The round's relation, behind region 10. -/
theorem fin_rel {wr w2 wo w : World} {vj vm v77 v84 u3 u4 : Value} {k p : Nat} {rj rm : List Value} {L : LatD} {a b c d e f : Value}
    (h : Fin10 wr w2 vj vm v77 v84 k (rj ++ [u3]) (rm ++ [u4])) (hpo : p < wo.heap.size) (hB : Below wo.heap.size wo wr)
    (hp : wo.heap[p]? = some (.cells #[a, b, c, d, e, f, vj, vm] 99 (0, 0))) (nj : vj.ownBlock ≠ some p) (nm : vm.ownBlock ≠ some p)
    (hoj : wr.ownsRow 0 36 1 vj k rj) (hom : wr.ownsRow 0 36 1 vm k rm)
    (hrj : ∀ (i : Nat) r, rj[i]? = some r → wo.ownsRow 0 3 1 r (((joinTab L.up).take k).getD i []).length (i64s (((joinTab L.up).take k).getD i [])))
    (hrm : ∀ (i : Nat) r, rm[i]? = some r → wo.ownsRow 0 3 1 r (((joinTab L.down).take k).getD i []).length (i64s (((joinTab L.down).take k).getD i [])))
    (ho3 : wr.ownsRow wo.heap.size 3 1 u3 L.names.length (i64s ((joinRow L.up k).take L.names.length))) (ho4 : wr.ownsRow wo.heap.size 3 1 u4 L.names.length (i64s ((joinRow L.down k).take L.names.length)))
    (hg : w.grownBy wo (some p)) (hnj : ∀ q, vj.ownBlock = some q → w.heap.size ≤ q) (hnm : ∀ q, vm.ownBlock = some q → w.heap.size ≤ q) (eu : L.up.length = L.names.length) (ed : L.down.length = L.names.length) (hk : k ≤ L.names.length) (hlt : k < L.names.length) :
    Hid (((w2.setCell ⟨p, 6, none⟩ v77).setCell ⟨p, 7, none⟩ v84).heap[p]? = some (.cells #[a, b, c, d, e, f, v77, v84] 99 (0, 0))) ∧
    Hid (Tab ((w2.setCell ⟨p, 6, none⟩ v77).setCell ⟨p, 7, none⟩ v84) v77 ((joinTab L.up).take (k + 1))) ∧ Hid (Tab ((w2.setCell ⟨p, 6, none⟩ v77).setCell ⟨p, 7, none⟩ v84) v84 ((joinTab L.down).take (k + 1))) ∧
    Hid (apart v77 v84) ∧ Hid (w.grownBy ((w2.setCell ⟨p, 6, none⟩ v77).setCell ⟨p, 7, none⟩ v84) (some p)) ∧
    Hid (∀ q, v77.ownBlock = some q → w.heap.size ≤ q) ∧ Hid (∀ q, v84.ownBlock = some q → w.heap.size ≤ q) := by
  have hs := hB.size
  have e2 : w2.heap[p]? = some (.cells #[a, b, c, d, e, f, vj, vm] 99 (0, 0)) := by
    rw [h.keep p (by omega) nj nm, hB.block p hpo, hp]
  -- what the two stores leave
  have far : ∀ q, q ≠ p → ((w2.setCell ⟨p, 6, none⟩ v77).setCell ⟨p, 7, none⟩ v84).heap[q]? = w2.heap[q]? := fun q hq => by
    rw [Below.heap_setCell _ _ _ _ hq, Below.heap_setCell _ _ _ _ hq]
  have np : ∀ {T n : Nat} {v : Value} {xs : List Value}, T ≠ 99 → w2.ownsRow 0 T 1 v n xs → ((w2.setCell ⟨p, 6, none⟩ v77).setCell ⟨p, 7, none⟩ v84).ownsRow 0 T 1 v n xs := fun hT ho =>
    owns_move ho (fun g hv => far g (fun e => owns_ne ho e2 (Ne.symm hT) (e ▸ hv)))
  have rows : ∀ {n : Nat} {v : Value} {xs : List Value}, wr.ownsRow 0 3 1 v n xs → w2.ownsRow 0 3 1 v n xs := fun ho =>
    owns_move ho (fun g hv => h.keep g (ho.lt g hv).2 (owns_types ho hoj (by decide) g hv) (owns_types ho hom (by decide) g hv))
  have tab : ∀ (l : List Nat) (r : List Value) (u : Value) (v : Value), l.length = L.names.length → w2.ownsRow 0 36 1 v (k + 1) (r ++ [u]) →
      (∀ (i : Nat) x, r[i]? = some x → wo.ownsRow 0 3 1 x (((joinTab l).take k).getD i []).length (i64s (((joinTab l).take k).getD i []))) → r.length = k →
      wr.ownsRow wo.heap.size 3 1 u L.names.length (i64s ((joinRow l k).take L.names.length)) → Tab ((w2.setCell ⟨p, 6, none⟩ v77).setCell ⟨p, 7, none⟩ v84) v ((joinTab l).take (k + 1)) := by
    intro l r u v hl ho hr hrl hu
    have hlt' : ((joinTab l).take (k + 1)).length = k + 1 := by simp [joinTab]; omega
    have hj : (joinRow l k).length = L.names.length := by simp [joinRow, hl]
    refine ⟨r ++ [u], by rw [hlt']; exact np (by decide) ho, fun i x hx => ?_⟩
    apply np (by decide)
    apply rows
    rcases Nat.lt_or_ge i k with hi | hi
    · rw [List.getElem?_append_left (by omega)] at hx
      have h1 := owns_below (hr i x hx) hB
      have e1 : ((joinTab l).take (k + 1)).getD i [] = ((joinTab l).take k).getD i [] := by
        simp only [List.getD_eq_getElem?_getD, List.getElem?_take]; rw [if_pos (by omega), if_pos (by omega)]
      rw [e1]; exact h1
    · rw [List.getElem?_append_right (by omega)] at hx
      have hi2 : i = k := by
        have := (List.getElem?_eq_some_iff.1 hx).1
        simp at this; omega
      subst hi2
      simp [hrl] at hx
      subst hx
      have e1 : ((joinTab l).take (i + 1)).getD i [] = joinRow l i := by
        simp only [List.getD_eq_getElem?_getD, List.getElem?_take]; rw [if_pos (by omega)]
        simp [joinTab, hl, hlt]
      rw [e1, hj]
      rw [List.take_of_length_le (by omega)] at hu
      exact owns_base hu (Nat.zero_le _)
  refine ⟨?_, tab L.up rj u3 v77 eu h.own77 hrj (ownsRow.lenEq hoj) ho3, tab L.down rm u4 v84 ed h.own84 hrm (ownsRow.lenEq hom) ho4, h.ap, ?_, ?_, ?_⟩
  · show _ = _
    simp [World.setCell, Array.getElem?_modify, e2]
  · exact ⟨h.os.trans (hB.os.trans hg.os), h.tape.trans (hB.tape.trans hg.tape), h.output.trans (hB.output.trans hg.output), by have := hg.size; have := h.size; simp [World.setCell]; omega, fun q hq hne => by
      have hqp : q ≠ p := fun e => hne (by rw [e])
      have hqo : q < wo.heap.size := by have := hg.size; omega
      rw [far q hqp, h.keep q (by omega) (fun e => by have := hnj q e; omega) (fun e => by have := hnm q e; omega), hB.block q hqo, hg.block q hq hne]⟩
  · intro q hq
    rcases h.new77 q hq with h1 | h1
    · exact hnj q h1
    · have := hg.size; omega
  · intro q hq
    rcases h.new84 q hq with h1 | h1
    · exact hnm q h1
    · have := hg.size; omega

end Go.Proofs.YtckpffkofeoinaaGreatDoor
