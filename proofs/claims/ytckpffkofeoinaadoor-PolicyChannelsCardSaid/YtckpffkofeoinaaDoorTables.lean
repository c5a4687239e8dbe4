/- (*Lattice).tables: both tables, row by row. -/
import Derived.Test.YtckpffkofeoinaaDoorLev2
import Derived.Test.YtckpffkofeoinaaDoorHeld
namespace Go.Proofs.YtckpffkofeoinaaDoor
open Go.RowKit

theorem info_int : (Tryd.prog.info? 3).map (fun i => (i.zero, i.size, i.bytes)) = some (some (.int .i64 0), 1, 8) := by kernel_rfl
theorem info_ints : (Tryd.prog.info? 158).map (fun i => (i.zero, i.size, i.bytes)) = some (some (.slice none 0 0), 1, 24) := by kernel_rfl

/-- One step of a row: what is owned above 'base', beside another row that is owned above it. -/
theorem owns_other {w w' : World} {base e n : Nat} {v : Value} {xs : List Value} {row : Option Nat} (h : w.ownsRow base e 1 v n xs) (hg : w.grownBy w' row) (hne : v.ownBlock = none ∨ v.ownBlock ≠ row) : w'.ownsRow base e 1 v n xs := h.kept hg hne

/-- What region 10 may rely on: till an append has come up, its field is as it was. -/
def S10 (p : Nat) (vj vm : Value) (l : Array Bool) (w : World) : Prop :=
  (l.getD 8 true = false → w.cell? ⟨p, 6, none⟩ = some vj) ∧ (l.getD 15 true = false → w.cell? ⟨p, 7, none⟩ = some vm)
theorem S10_set {p : Nat} {vj vm : Value} {l : Array Bool} {w : World} (i : Nat) (h8 : i ≠ 8) (h15 : i ≠ 15) (h : S10 p vj vm l w) : S10 p vj vm (l.setIfInBounds i true) w := by
  unfold S10 at *; rw [getD_set_ne true h8, getD_set_ne true h15]; exact h

theorem getD_le {l : List Nat} {n : Nat} (h : ∀ s ∈ l, s < 2 ^ n) (hn : n ≤ 16) (k : Nat) : l.getD k 0 ≤ 65535 := by
  rw [List.getD_eq_getElem?_getD]
  rcases Nat.lt_or_ge k l.length with hk | hk
  · rw [List.getElem?_eq_getElem hk]; exact LatD.Ok.lt hn (h _ (List.getElem_mem hk))
  · rw [List.getElem?_eq_none hk]; exact Nat.zero_le _

theorem heap_first (w : World) (a b : Obj) : ((w.alloc a).alloc b).drew.heap[w.heap.size]? = some a := by
  show ((w.heap.push a).push b)[w.heap.size]? = some a
  rw [Array.getElem?_push, if_neg (by simp), Array.getElem?_push, if_pos rfl]
theorem heap_second (w : World) (a b : Obj) : ((w.alloc a).alloc b).drew.heap[w.heap.size + 1]? = some b := by
  show ((w.heap.push a).push b)[w.heap.size + 1]? = some b
  rw [Array.getElem?_push, if_pos (by simp)]

theorem cell_keep {w : World} {a : Addr} {v : Value} {o : Obj} (h : w.cell? a = some v) : (w.alloc o).cell? a = some v := by
  rw [World.cell?_alloc_some _ _ _ (by rw [h]; rfl)]; exact h

theorem Tab.nil (w : World) : Tab w nilS ([] : List (List Int)) := ⟨[], World.ownsRow_nil _ _ _ _, fun i r h => by simp at h⟩

/-- Two values share no block. -/
def apart (v u : Value) : Prop := v.ownBlock = none ∨ v.ownBlock ≠ u.ownBlock

theorem rd_u32 {w : World} {au : Option Addr} {l : List Nat} {k n : Nat} (h : Rd w au (u32s l)) (hl : l.length = n) (hk : k < n) : ∃ g o, au = some ⟨g, o, none⟩ ∧ w.cell? ⟨g, o + k, none⟩ = some (.int .u32 ((l.getD k 0 : Nat) : Int)) :=
  h.at (by simp [u32s, List.getD_eq_getElem?_getD]; rw [List.getElem?_eq_getElem (by omega)]; simp)

theorem and_u32 (a b : Nat) (ha : a ≤ 65535) (hb : b ≤ 65535) : bits BinOp.and IntKind.u32 (a : Int) (b : Int) = ((a &&& b : Nat) : Int) := u32_and_nat a b (by omega) (by omega)
theorem and_le (a b : Nat) (ha : a ≤ 65535) : a &&& b ≤ 65535 := Nat.le_trans Nat.and_le_left ha

theorem apart_symm {v u : Value} (h : apart v u) : u.ownBlock = none ∨ u.ownBlock ≠ v.ownBlock := by
  rcases h with h | h
  · by_cases e : u.ownBlock = none
    · exact .inl e
    · exact .inr (by rw [h]; exact e)
  · exact .inr (Ne.symm h)

theorem joinRow_snoc (l : List Nat) (k k2 : Nat) (h : k2 < l.length) : i64s ((joinRow l k).take (k2 + 1)) = i64s ((joinRow l k).take k2) ++ [Value.int .i64 (firstI l (l.getD k 0 &&& l.getD k2 0))] := by
  rw [List.take_succ_eq_append_getElem (by simp [joinRow]; exact h)]
  simp [i64s, joinRow, List.getD_eq_getElem?_getD, h]

/-- Behind both appends of region 10. -/
structure Fin10 (wr w2 : World) (vj vm v77 v84 : Value) (k : Nat) (r3 r4 : List Value) : Prop where
  own77 : w2.ownsRow 0 158 1 v77 (k + 1) r3
  own84 : w2.ownsRow 0 158 1 v84 (k + 1) r4
  ap : apart v77 v84
  os : w2.os = wr.os
  tape : w2.tape = wr.tape
  output : w2.output = wr.output
  size : wr.heap.size ≤ w2.heap.size
  keep : ∀ q, q < wr.heap.size → vj.ownBlock ≠ some q → vm.ownBlock ≠ some q → w2.heap[q]? = wr.heap[q]?
  new77 : ∀ q, v77.ownBlock = some q → vj.ownBlock = some q ∨ wr.heap.size ≤ q
  new84 : ∀ q, v84.ownBlock = some q → vm.ownBlock = some q ∨ wr.heap.size ≤ q

theorem Fin10.mk2 {wr W1 w1 W2 w2 : World} {vj vm : Value} {k n gg gh H H2 cap cap2 : Nat} {rj rm r3 r4 : List Value} (hj : wr.ownsRow 0 158 1 vj n rj) (hm : wr.ownsRow 0 158 1 vm n rm) (hap : apart vj vm)
    (b1 : Below wr.heap.size wr W1) (g1 : W1.grownBy w1 vj.ownBlock) (o1 : w1.ownsRow 0 158 1 (.slice (some ⟨gg, 0, none⟩) (k + 1) cap) (k + 1) r3) (hat : vj.ownBlock = some gg ∨ gg = H) (hH : wr.heap.size ≤ H)
    (b2 : Below w1.heap.size w1 W2) (g2 : W2.grownBy w2 vm.ownBlock) (o2 : w2.ownsRow 0 158 1 (.slice (some ⟨gh, 0, none⟩) (k + 1) cap2) (k + 1) r4) (hat2 : vm.ownBlock = some gh ∨ gh = H2) (hH2 : w1.heap.size ≤ H2) :
    Fin10 wr w2 vj vm (.slice (some ⟨gg, 0, none⟩) (k + 1) cap) (.slice (some ⟨gh, 0, none⟩) (k + 1) cap2) k r3 r4 := by
  have s1 := b1.size; have s2 := g1.size; have s3 := b2.size; have s4 := g2.size
  have lm : ∀ q, vm.ownBlock = some q → q < wr.heap.size := fun q hq => (hm.lt q hq).2
  have lj : ∀ q, vj.ownBlock = some q → q < wr.heap.size := fun q hq => (hj.lt q hq).2
  have lgg : gg < w1.heap.size := (o1.lt gg rfl).2
  have ngm : vm.ownBlock ≠ some gg := fun e => by
    rcases hat with h | h
    · rcases hap with h2 | h2
      · rw [h2] at h; cases h
      · exact h2 (h.trans e.symm)
    · have := lm gg e; omega
  refine ⟨?_, o2, .inr ?_, ?_, ?_, ?_, by omega, ?_, ?_, ?_⟩
  · refine (owns_below o1 b2).kept g2 (.inr ?_)
    show some gg ≠ _
    exact Ne.symm ngm
  · show some gg ≠ some gh
    intro e
    injection e with e
    rcases hat2 with h | h
    · exact ngm (h.trans (by rw [e]))
    · omega
  · rw [g2.os, b2.os, g1.os, b1.os]
  · rw [g2.tape, b2.tape, g1.tape, b1.tape]
  · rw [g2.output, b2.output, g1.output, b1.output]
  · intro q hq h1 h2
    rw [g2.block q (by omega) (Ne.symm h2), b2.block q (by omega), g1.block q (by omega) (Ne.symm h1), b1.block q hq]
  · intro q hq
    simp [Value.ownBlock] at hq
    subst hq
    rcases hat with h | h
    · exact .inl h
    · exact .inr (by omega)
  · intro q hq
    simp [Value.ownBlock] at hq
    subst hq
    rcases hat2 with h | h
    · exact .inl h
    · exact .inr (by omega)

theorem Fin10.stored {wr w2 wo : World} {vj vm v77 v84 : Value} {k : Nat} {r3 r4 : List Value} (h : Fin10 wr w2 vj vm v77 v84 k r3 r4) (p : Nat) (hpo : p < wo.heap.size) (hB : Below wo.heap.size wo wr) {c : Array Value}
    (hp : wo.heap[p]? = some (.cells c 71 (0, 0))) (nj : vj.ownBlock ≠ some p) (nm : vm.ownBlock ≠ some p) :
    w2.cell? ⟨p, 6, none⟩ = c[6]? ∧ w2.cell? ⟨p, 7, none⟩ = c[7]? ∧ w2.frozen? ⟨p, 6, none⟩ = false ∧ w2.frozen? ⟨p, 7, none⟩ = false := by
  have e : w2.heap[p]? = some (.cells c 71 (0, 0)) := by
    rw [h.keep p (by have := hB.size; omega) nj nm, hB.block p hpo, hp]
  refine ⟨?_, ?_, ?_, ?_⟩ <;> simp [World.cell?, World.frozen?, e]

theorem owns_move {w w' : World} {base e n : Nat} {v : Value} {xs : List Value} (h : w.ownsRow base e 1 v n xs) (hq : ∀ g, v.ownBlock = some g → w'.heap[g]? = w.heap[g]?) : w'.ownsRow base e 1 v n xs := by
  obtain ⟨h0, h | ⟨g, cap, cur, rfl, hg, hh, r⟩⟩ := h
  · exact ⟨h0, .inl h⟩
  · exact ⟨h0, .inr ⟨g, cap, cur, rfl, hg, by rw [hq g rfl]; exact hh, r⟩⟩

theorem owns_types {w : World} {b b' e e' n m : Nat} {v u : Value} {xs ys : List Value} (h1 : w.ownsRow b e 1 v n xs) (h2 : w.ownsRow b' e' 1 u m ys) (he : e ≠ e') : ∀ g, v.ownBlock = some g → u.ownBlock ≠ some g := by
  intro g hv hu
  obtain ⟨_, ⟨rfl, _⟩ | ⟨g1, cap, cur, rfl, hg, hh, r⟩⟩ := h1
  · simp [Value.ownBlock] at hv
  · simp [Value.ownBlock] at hv; subst hv
    exact owns_ne h2 hh he hu

/-- The round's relation, behind region 10. -/
theorem fin_rel {wr w2 wo w : World} {vj vm v77 v84 u3 u4 : Value} {k p : Nat} {rj rm : List Value} {L : LatD} {a b c d e f : Value}
    (h : Fin10 wr w2 vj vm v77 v84 k (rj ++ [u3]) (rm ++ [u4])) (hpo : p < wo.heap.size) (hB : Below wo.heap.size wo wr)
    (hp : wo.heap[p]? = some (.cells #[a, b, c, d, e, f, vj, vm] 71 (0, 0))) (nj : vj.ownBlock ≠ some p) (nm : vm.ownBlock ≠ some p)
    (hoj : wr.ownsRow 0 158 1 vj k rj) (hom : wr.ownsRow 0 158 1 vm k rm)
    (hrj : ∀ (i : Nat) r, rj[i]? = some r → wo.ownsRow 0 3 1 r (((joinTab L.up).take k).getD i []).length (i64s (((joinTab L.up).take k).getD i [])))
    (hrm : ∀ (i : Nat) r, rm[i]? = some r → wo.ownsRow 0 3 1 r (((joinTab L.down).take k).getD i []).length (i64s (((joinTab L.down).take k).getD i [])))
    (ho3 : wr.ownsRow wo.heap.size 3 1 u3 L.names.length (i64s ((joinRow L.up k).take L.names.length))) (ho4 : wr.ownsRow wo.heap.size 3 1 u4 L.names.length (i64s ((joinRow L.down k).take L.names.length)))
    (hg : w.grownBy wo (some p)) (hnj : ∀ q, vj.ownBlock = some q → w.heap.size ≤ q) (hnm : ∀ q, vm.ownBlock = some q → w.heap.size ≤ q) (eu : L.up.length = L.names.length) (ed : L.down.length = L.names.length) (hk : k ≤ L.names.length) (hlt : k < L.names.length) :
    Hid (((w2.setCell ⟨p, 6, none⟩ v77).setCell ⟨p, 7, none⟩ v84).heap[p]? = some (.cells #[a, b, c, d, e, f, v77, v84] 71 (0, 0))) ∧
    Hid (Tab ((w2.setCell ⟨p, 6, none⟩ v77).setCell ⟨p, 7, none⟩ v84) v77 ((joinTab L.up).take (k + 1))) ∧ Hid (Tab ((w2.setCell ⟨p, 6, none⟩ v77).setCell ⟨p, 7, none⟩ v84) v84 ((joinTab L.down).take (k + 1))) ∧
    Hid (apart v77 v84) ∧ Hid (w.grownBy ((w2.setCell ⟨p, 6, none⟩ v77).setCell ⟨p, 7, none⟩ v84) (some p)) ∧
    Hid (∀ q, v77.ownBlock = some q → w.heap.size ≤ q) ∧ Hid (∀ q, v84.ownBlock = some q → w.heap.size ≤ q) := by
  have hs := hB.size
  have e2 : w2.heap[p]? = some (.cells #[a, b, c, d, e, f, vj, vm] 71 (0, 0)) := by
    rw [h.keep p (by omega) nj nm, hB.block p hpo, hp]
  -- what the two stores leave
  have far : ∀ q, q ≠ p → ((w2.setCell ⟨p, 6, none⟩ v77).setCell ⟨p, 7, none⟩ v84).heap[q]? = w2.heap[q]? := fun q hq => by
    rw [Below.heap_setCell _ _ _ _ hq, Below.heap_setCell _ _ _ _ hq]
  have np : ∀ {T n : Nat} {v : Value} {xs : List Value}, T ≠ 71 → w2.ownsRow 0 T 1 v n xs → ((w2.setCell ⟨p, 6, none⟩ v77).setCell ⟨p, 7, none⟩ v84).ownsRow 0 T 1 v n xs := fun hT ho =>
    owns_move ho (fun g hv => far g (fun e => owns_ne ho e2 (Ne.symm hT) (e ▸ hv)))
  have rows : ∀ {n : Nat} {v : Value} {xs : List Value}, wr.ownsRow 0 3 1 v n xs → w2.ownsRow 0 3 1 v n xs := fun ho =>
    owns_move ho (fun g hv => h.keep g (ho.lt g hv).2 (owns_types ho hoj (by decide) g hv) (owns_types ho hom (by decide) g hv))
  have tab : ∀ (l : List Nat) (r : List Value) (u : Value) (v : Value), l.length = L.names.length → w2.ownsRow 0 158 1 v (k + 1) (r ++ [u]) →
      (∀ (i : Nat) x, r[i]? = some x → wo.ownsRow 0 3 1 x (((joinTab l).take k).getD i []).length (i64s (((joinTab l).take k).getD i []))) → r.length = k →
      wr.ownsRow wo.heap.size 3 1 u L.names.length (i64s ((joinRow l k).take L.names.length)) → Tab ((w2.setCell ⟨p, 6, none⟩ v77).setCell ⟨p, 7, none⟩ v84) v ((joinTab l).take (k + 1)) := by
    intro l r u v hl ho hr hrl hu
    have hlt' : ((joinTab l).take (k + 1)).length = k + 1 := by simp [joinTab]; omega
    have hj : (joinRow l k).length = L.names.length := by simp [joinRow, hl]
    refine ⟨r ++ [u], by rw [hlt']; exact np (by decide) ho, fun i x hx => ?_⟩
    apply np (by decide)
    apply rows
    rcases Nat.lt_or_ge i k with hi | hi
    · rw [List.getElem?_append_left (by omega)] at hx
      have h1 := owns_below (hr i x hx) hB
      have e1 : ((joinTab l).take (k + 1)).getD i [] = ((joinTab l).take k).getD i [] := by
        simp only [List.getD_eq_getElem?_getD, List.getElem?_take]; rw [if_pos (by omega), if_pos (by omega)]
      rw [e1]; exact h1
    · rw [List.getElem?_append_right (by omega)] at hx
      have hi2 : i = k := by
        have := (List.getElem?_eq_some_iff.1 hx).1
        simp at this; omega
      subst hi2
      simp [hrl] at hx
      subst hx
      have e1 : ((joinTab l).take (i + 1)).getD i [] = joinRow l i := by
        simp only [List.getD_eq_getElem?_getD, List.getElem?_take]; rw [if_pos (by omega)]
        simp [joinTab, hl, hlt]
      rw [e1, hj]
      rw [List.take_of_length_le (by omega)] at hu
      exact owns_base hu (Nat.zero_le _)
  refine ⟨?_, tab L.up rj u3 v77 eu h.own77 hrj (ownsRow.lenEq hoj) ho3, tab L.down rm u4 v84 ed h.own84 hrm (ownsRow.lenEq hom) ho4, h.ap, ?_, ?_, ?_⟩
  · show _ = _
    simp [World.setCell, Array.getElem?_modify, e2]
  · exact ⟨h.os.trans (hB.os.trans hg.os), h.tape.trans (hB.tape.trans hg.tape), h.output.trans (hB.output.trans hg.output), by have := hg.size; have := h.size; simp [World.setCell]; omega, fun q hq hne => by
      have hqp : q ≠ p := fun e => hne (by rw [e])
      have hqo : q < wo.heap.size := by have := hg.size; omega
      rw [far q hqp, h.keep q (by omega) (fun e => by have := hnj q e; omega) (fun e => by have := hnm q e; omega), hB.block q hqo, hg.block q hq hne]⟩
  · intro q hq
    rcases h.new77 q hq with h1 | h1
    · exact hnj q h1
    · have := hg.size; omega
  · intro q hq
    rcases h.new84 q hq with h1 | h1
    · exact hnm q h1
    · have := hg.size; omega

end Go.Proofs.YtckpffkofeoinaaDoor
