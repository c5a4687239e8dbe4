/- Contracts of four functions of Go's package slices at []int, in the printed texts' words: Clone, Sort, Compact, Delete. Each is told of rows of fewer than 2^44 elements. -/
import Derived.Test.YtkgkhakjodlpgaaProg
import Derived.Test.YtkgkhakjodlpgaaShelf
import Derived.Test.YtkgkhakjodlpgaaWWords
import Derived.Test.YtkgkhakjodlpgaaWKept
import Derived.Lib.Hide
namespace Go.Proofs.Ytkgkhakjodlpgaa.Ext
open Go.RowKit Go.Proofs.YtkgkhakjodlpgaaW.PrintWords

/-- One block has turned, new ones have come, and the rest is as it was. -/
structure Turned (w w' : World) (g : Nat) (cur : Array Value) : Prop where
  os : w'.os = w.os
  tape : w'.tape = w.tape
  output : w'.output = w.output
  size : w.heap.size ≤ w'.heap.size
  at_ : w'.heap[g]? = some (.cells cur 3 (0, 0))
  block : ∀ k, k < w.heap.size → k ≠ g → w'.heap[k]? = w.heap[k]?

theorem Turned.row {w0 w w' : World} {g n cap m : Nat} {P : Nat → Prop} {l r : List Int} {cur : Array Value} (ho : Kd.R (Kd.int .i64) 3 w w0.heap.size P (.slice (some ⟨g, 0, none⟩) n cap) l) (hB : Below w0.heap.size w0 w)
    (h : Turned w w' g cur) (hm : r.length = m) (hmc : m ≤ cap) (hcm : cap ≤ maxLen) (hs : cur.size = cap) (ht : cur.toList.take m = r.map (Value.int .i64)) :
    Kd.R (Kd.int .i64) 3 w' w0.heap.size (fun k_ => (P k_ ∨ w.heap.size ≤ k_)) (.slice (some ⟨g, 0, none⟩) m cap) r ∧ Below w0.heap.size w0 w' ∧ Kept w w' (fun k_ => P k_) := by
  have hg : P g := ho.1 g rfl
  have hb : w0.heap.size ≤ g := own_base (Kd.own_of_R ho) g rfl
  subst hm
  refine ⟨Kd.R_of_own (enc := Value.int .i64) ⟨by simp [encs], .inr ⟨g, cap, cur, rfl, hb, h.at_, hmc, hcm, by simpa using hs, by simpa [encs] using ht⟩⟩ (fun k hk => ?_), ⟨h.os.trans hB.os, h.tape.trans hB.tape, h.output.trans hB.output, Nat.le_trans hB.size h.size, fun k hk => ?_⟩, ⟨h.size, fun k hk hn => h.block k hk ?_⟩⟩
  · have : g = k := by simpa [Value.ownBlock] using hk
    subst this; exact .inl hg
  · rw [h.block k (Nat.lt_of_lt_of_le hk hB.size) (by omega)]; exact hB.block k hk
  · rintro rfl; exact hn hg

theorem putCells_take (r : List Int) (cur : Array Value) (hr : r.length ≤ cur.size) : (Go.Sort.putCells (Value.int .i64) 0 r.toArray cur).size = cur.size ∧ (Go.Sort.putCells (Value.int .i64) 0 r.toArray cur).toList.take r.length = r.map (Value.int .i64) := by
  refine ⟨by simp [Go.Sort.putCells], ?_⟩
  apply List.ext_getElem?
  intro j
  rw [List.getElem?_take]
  by_cases hj : j < r.length
  · rw [if_pos hj]
    simp only [Go.Sort.putCells, Array.getElem?_toList, Array.getElem?_mapIdx, List.getElem?_map]
    rw [Array.getElem?_eq_getElem (by omega), List.getElem?_eq_getElem hj]
    simp only [Option.map_some, List.size_toArray]
    rw [if_pos ⟨Nat.zero_le _, by omega⟩, getElem!_pos _ _ (by simpa using hj)]
    simp
  · rw [if_neg hj, List.getElem?_eq_none (by simp; omega)]

theorem turned_put {w w' : World} {g : Nat} {cur : Array Value} {r : List Int} {q : Nat} {os : Array Obj} (hh : w.heap[g]? = some (.cells cur 3 (0, 0)))
    (h : w' = Go.Sort.grow (Go.Sort.putRow (Value.int .i64) (Go.Sort.ahead w q) g 0 r.toArray) os) : Turned w w' g (Go.Sort.putCells (Value.int .i64) 0 r.toArray cur) := by
  subst h
  have hlt : g < w.heap.size := (Array.getElem?_eq_some_iff.1 hh).1
  have hsz : (Go.Sort.putRow (Value.int .i64) (Go.Sort.ahead w q) g 0 r.toArray).heap.size = w.heap.size := by simp
  refine ⟨rfl, rfl, rfl, by simp, ?_, fun k hk hne => ?_⟩
  · rw [Go.Sort.heap_grow_old _ _ (by rw [hsz]; exact hlt)]
    simp only [Go.Sort.putRow, Go.Sort.mapBlock, Go.Sort.heap_ahead, Array.getElem?_modify, if_true, hh, Option.map_some, Go.Sort.onCells]
  · rw [Go.Sort.heap_grow_old _ _ (by rw [hsz]; exact hk)]
    simp only [Go.Sort.putRow, Go.Sort.mapBlock, Go.Sort.heap_ahead, Array.getElem?_modify, if_neg (Ne.symm hne)]

/-- The form of a row of one's own that is not nil. -/
theorem R_form {w : World} {base : Nat} {P : Nat → Prop} {v : Value} {l : List Int} (h : Kd.R (Kd.int .i64) 3 w base P v l) :
    (v = .slice none 0 0 ∧ l = []) ∨ ∃ g cap cur, v = .slice (some ⟨g, 0, none⟩) l.length cap ∧ w.heap[g]? = some (.cells cur 3 (0, 0)) ∧ l.length ≤ cap ∧ cap ≤ maxLen ∧ cur.size = cap ∧ cur.toList.take l.length = l.map (Value.int .i64) := by
  obtain ⟨h1, h2⟩ := Kd.own_of_R h
  rcases h2 with ⟨e, h3⟩ | ⟨g, cap, cur, e, hb, hh, h3, h4, h5, h6⟩
  · left; exact ⟨e, List.eq_nil_of_length_eq_zero h3⟩
  · right; exact ⟨g, cap, cur, e, hh, h3, h4, by simpa using h5, by simpa [encs] using h6⟩

theorem holds_of {w : World} {g : Nat} {cur : Array Value} {l : List Int} (hh : w.heap[g]? = some (.cells cur 3 (0, 0))) (ht : cur.toList.take l.length = l.map (Value.int .i64)) : Go.Sort.Holds (Value.int .i64) w g 0 l.toArray := by
  intro j hj
  have hj' : j < l.length := by simpa using hj
  have h1 : (cur.toList.take l.length)[j]? = some (.int .i64 l[j]) := by rw [ht, List.getElem?_map, List.getElem?_eq_getElem hj']; rfl
  rw [List.getElem?_take, if_pos hj'] at h1
  have e1 : l.toArray[j]! = l[j] := by rw [getElem!_pos l.toArray j hj]; rfl
  rw [e1]
  constructor
  · simp only [Nat.zero_add, World.cell?, hh]
    simpa using h1
  · simp [World.frozen?, hh]

theorem add_plain2 (b o j : Nat) : (⟨b, o, none⟩ : Addr).add j = ⟨b, o + j, none⟩ := by
  unfold Addr.add; split
  · rename_i h; subst h; rfl
  · rfl

theorem spot_plain {w : World} {ad : Addr} {v : Value} (h : w.cell? (ad.add 0) = some v) : ad = ⟨ad.block, ad.off, none⟩ := by
  obtain ⟨b, o, s⟩ := ad
  cases s with
  | none => rfl
  | some s =>
    simp only [Addr.add, if_true, World.cell?] at h
    split at h <;> cases h

def slices_Clone_int.f (l0 : List Int) : Option (List Int) := if l0.length < 17592186044416 then some l0 else none

theorem slices_Clone_int.calls (A0 : Option Addr) (c0 : Nat) (l0 : List Int) (r : List Int) (w : World) (hr0 : Kd.C (Kd.int .i64) w A0 l0.length l0) (_ : l0.length ≤ c0) (h : slices_Clone_int.f l0 = some r) :
    Calls Try.prog 89 #[.slice A0 l0.length c0] w fun e w' => ∃ v0_ : Value, e = .returned (v0_) ∧ Kd.R (Kd.int .i64) 3 w' w.heap.size (fun _ => True) v0_ r ∧ Below w.heap.size w w' := by
  unfold slices_Clone_int.f at h
  split at h
  · rename_i hl
    injection h with h; subst h
    cases A0 with
    | none =>
      refine (Try.slices_Clone_int_nil _ _ _).mono ?_
      rintro e w' ⟨rfl, rfl⟩
      have : l0 = [] := by
        rcases Nat.eq_zero_or_pos l0.length with h0 | h0
        · exact List.eq_nil_of_length_eq_zero h0
        · obtain ⟨ad, e, _⟩ := hr0.2.2 h0; cases e
      subst this
      exact ⟨_, rfl, Kd.R_nil _ _ _ _ _, Below.refl _ _⟩
    | some ad =>
      rcases Nat.eq_zero_or_pos l0.length with h0 | h0
      · have : l0 = [] := List.eq_nil_of_length_eq_zero h0
        subst this
        refine (Try.slices_Clone_int_zero ad c0 w).mono ?_
        rintro e w' ⟨v, rfl, ho, _, hb⟩
        exact ⟨_, rfl, Kd.R_of_own (enc := Value.int .i64) ho (fun _ _ => trivial), hb⟩
      · obtain ⟨ad', e', hc0⟩ := Kd.at_int hr0 0 (by omega) (by omega)
        injection e' with e'; subst e'
        have hpl := spot_plain hc0
        obtain ⟨b, o, s⟩ := ad
        simp only [Addr.mk.injEq, true_and] at hpl
        subst hpl
        have hc : ∀ j, j < l0.length → w.cell? ⟨b, o + j, none⟩ = some (.int .i64 (l0.getD j 0)) := fun j hj => by
          obtain ⟨ad', e', hc⟩ := Kd.at_int hr0 (j : Int) (by omega) (by omega)
          injection e' with e'; subst e'
          rw [add_plain2] at hc
          simpa [rd] using hc
        refine (Try.slices_Clone_int b o l0.length c0 l0 w (Nat.le_refl _) (by omega) hc).mono ?_
        rintro e w' ⟨v, rfl, ho, _, hb⟩
        rw [List.take_length] at ho
        exact ⟨_, rfl, Kd.R_of_own (enc := Value.int .i64) ho (fun _ _ => trivial), hb⟩
  · cases h

def slices_Sort_int.f (l0 : List Int) : Option (List Int) := if l0.length < 17592186044416 then some (l0.mergeSort fun x y => decide (x ≤ y)) else none

theorem slices_Sort_int.calls (P0_ : Nat → Prop) (u9000_ : Value) (l0 : List Int) (r : List Int) (w0 w : World) (hB : Below w0.heap.size w0 w) (ho0 : Kd.R (Kd.int .i64) 3 w w0.heap.size P0_ u9000_ l0) (h : slices_Sort_int.f l0 = some r) :
    Calls Try.prog 90 #[u9000_] w fun e w' => e = .returned (.tuple #[]) ∧ Kd.R (Kd.int .i64) 3 w' w0.heap.size (fun k_ => (P0_ k_ ∨ w.heap.size ≤ k_)) u9000_ r ∧ Below w0.heap.size w0 w' ∧ Kept w w' (fun k_ => P0_ k_) := by
  unfold slices_Sort_int.f at h
  split at h
  · rename_i hl
    injection h with h; subst h
    rcases R_form ho0 with ⟨rfl, rfl⟩ | ⟨g, cap, cur, rfl, hh, h3, h4, h5, h6⟩
    · refine (Try.slices_Sort_int_none _ _ _).mono ?_
      rintro e w' ⟨rfl, rfl⟩
      exact ⟨rfl, by simpa using Kd.R_mono ho0 (fun _ hk => .inl hk), hB, Kept.refl _ _⟩
    · refine (Try.slices_Sort_int g 0 cap l0 w (holds_of hh h6) (Array.getElem?_eq_some_iff.1 hh).1 (by omega)).mono ?_
      rintro e w' ⟨rfl, n, os, hw⟩
      have hlen : (l0.mergeSort fun x y => decide (x ≤ y)).length = l0.length := List.length_mergeSort _
      obtain ⟨p1, p2⟩ := putCells_take (l0.mergeSort fun x y => decide (x ≤ y)) cur (by omega)
      exact ⟨rfl, Turned.row ho0 hB (turned_put hh hw) hlen (by omega) h4 (p1.trans h5) (by rw [← hlen]; exact p2)⟩
  · cases h

def slices_Compact_int.f (l0 : List Int) : Option (List Int) := if l0.length < 17592186044416 then some (Lib.compact l0) else none

theorem compact_len (l : List Int) : (Lib.compact l).length ≤ l.length := Lib.compact_length_le l

theorem slices_Compact_int.calls (P0_ : Nat → Prop) (u9000_ : Value) (l0 : List Int) (r : List Int) (w0 w : World) (hB : Below w0.heap.size w0 w) (ho0 : Kd.R (Kd.int .i64) 3 w w0.heap.size P0_ u9000_ l0) (h : slices_Compact_int.f l0 = some r) :
    Calls Try.prog 91 #[u9000_] w fun e w' => ∃ v0_ : Value, e = .returned (v0_) ∧ Kd.R (Kd.int .i64) 3 w' w0.heap.size (fun k_ => (P0_ k_ ∨ w.heap.size ≤ k_)) v0_ r ∧ Below w0.heap.size w0 w' ∧ Kept w w' (fun k_ => P0_ k_) := by
  unfold slices_Compact_int.f at h
  split at h
  · rename_i hl
    injection h with h; subst h
    rcases R_form ho0 with ⟨rfl, rfl⟩ | ⟨g, cap, cur, rfl, hh, h3, h4, h5, h6⟩
    · refine (Try.slices_Compact_int_empty _ _ _).mono ?_
      rintro e w' ⟨rfl, rfl⟩
      exact ⟨_, rfl, Kd.R_mono ho0 (fun _ hk => .inl hk), hB, Kept.refl _ _⟩
    · refine (Try.slices_Compact_int g 0 cap l0 w (holds_of hh h6) (by omega) h3).mono ?_
      rintro e w' ⟨rfl, q, hw⟩
      have hc := compact_len l0
      obtain ⟨p1, p2⟩ := putCells_take (Lib.compact l0 ++ List.replicate (l0.length - (Lib.compact l0).length) 0) cur (by simp; omega)
      have p3 := congrArg (List.take (Lib.compact l0).length) p2
      rw [List.take_take, Nat.min_eq_left (by simp), List.map_append, List.take_left' (by simp)] at p3
      exact ⟨_, rfl, Turned.row ho0 hB (turned_put (q := q) (os := #[]) hh (by rw [hw, Go.Sort.grow_empty])) rfl (by omega) h4 (p1.trans h5) p3⟩
  · cases h

def slices_Delete_int.f (l0 : List Int) (i j : Int) : Option (List Int) := if 0 ≤ i ∧ i ≤ j ∧ j ≤ (l0.length : Int) ∧ l0 ≠ [] ∧ l0.length < 17592186044416 then some (l0.take i.toNat ++ l0.drop j.toNat) else none

theorem slices_Delete_int.calls (P0_ : Nat → Prop) (u9000_ : Value) (l0 : List Int) (a1 a2 : Int) (r : List Int) (w0 w : World) (hB : Below w0.heap.size w0 w) (ho0 : Kd.R (Kd.int .i64) 3 w w0.heap.size P0_ u9000_ l0) (h : slices_Delete_int.f l0 a1 a2 = some r) :
    Calls Try.prog 74 #[u9000_, .int .i64 a1, .int .i64 a2] w fun e w' => ∃ v0_ : Value, e = .returned (v0_) ∧ Kd.R (Kd.int .i64) 3 w' w0.heap.size (fun k_ => (P0_ k_ ∨ w.heap.size ≤ k_)) v0_ r ∧ Below w0.heap.size w0 w' ∧ Kept w w' (fun k_ => P0_ k_) := by
  unfold slices_Delete_int.f at h
  split at h
  · rename_i hl
    obtain ⟨i0, i1, i2, i3, i4⟩ := hl
    injection h with h; subst h
    obtain ⟨i, rfl⟩ := Int.eq_ofNat_of_zero_le i0
    obtain ⟨j, rfl⟩ := Int.eq_ofNat_of_zero_le (show 0 ≤ a2 by omega)
    rcases R_form ho0 with ⟨rfl, rfl⟩ | ⟨g, cap, cur, rfl, hh, h3, h4, h5, h6⟩
    · exact absurd rfl i3
    · refine (Try.slices_Delete_int g 0 cap i j l0 w (holds_of hh h6) h3 (by unfold maxLen at h4; omega) (by omega) (by omega)).mono ?_
      rintro e w' ⟨rfl, q, hw⟩
      have hlen : (l0.take i ++ l0.drop j).length = l0.length - (j - i) := by simp; omega
      obtain ⟨p1, p2⟩ := putCells_take (l0.take i ++ l0.drop j ++ List.replicate (j - i) 0) cur (by rw [List.length_append, hlen]; simp; omega)
      have p3 := congrArg (List.take (l0.take i ++ l0.drop j).length) p2
      rw [List.take_take, Nat.min_eq_left (by rw [List.length_append (bs := List.replicate _ _)]; omega), List.map_append (l₂ := List.replicate _ _), List.take_left' (by simp)] at p3
      rw [hlen] at p3
      exact ⟨_, rfl, Turned.row ho0 hB (turned_put (q := q) (os := #[]) hh (by rw [hw, Go.Sort.grow_empty])) hlen (by omega) h4 (p1.trans h5) p3⟩
  · cases h
end Go.Proofs.Ytkgkhakjodlpgaa.Ext
