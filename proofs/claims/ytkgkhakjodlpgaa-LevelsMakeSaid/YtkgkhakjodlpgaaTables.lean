/- (*Lattice).tables: both tables, row by row. -/
import Derived.Test.YtkgkhakjodlpgaaLev2
import Derived.Test.YtkgkhakjodlpgaaHeld
namespace Go.Proofs.Ytkgkhakjodlpgaa
open Go.RowKit

theorem info_int : (Try.prog.info? 3).map (fun i => (i.zero, i.size, i.bytes)) = some (some (.int .i64 0), 1, 8) := by kernel_rfl
theorem info_ints : (Try.prog.info? 53).map (fun i => (i.zero, i.size, i.bytes)) = some (some (.slice none 0 0), 1, 24) := by kernel_rfl

/-- One step of a row: what is owned above 'base', beside another row that is owned above it. -/
theorem owns_other {w w' : World} {base e n : Nat} {v : Value} {xs : List Value} {row : Option Nat} (h : w.ownsRow base e 1 v n xs) (hg : w.grownBy w' row) (hne : v.ownBlock = none ∨ v.ownBlock ≠ row) : w'.ownsRow base e 1 v n xs := h.kept hg hne

/-- What region 10 may rely on: till an append has come up, its field is as it was. -/
def S10 (p : Nat) (vj vm : Value) (l : Array Bool) (w : World) : Prop :=
  (l.getD 8 true = false → w.cell? ⟨p, 6, none⟩ = some vj) ∧ (l.getD 15 true = false → w.cell? ⟨p, 7, none⟩ = some vm)
theorem S10_set {p : Nat} {vj vm : Value} {l : Array Bool} {w : World} (i : Nat) (h8 : i ≠ 8) (h15 : i ≠ 15) (h : S10 p vj vm l w) : S10 p vj vm (l.setIfInBounds i true) w := by
  unfold S10 at *; rw [getD_set_ne true h8, getD_set_ne true h15]; exact h

theorem getD_le {l : List Nat} {n : Nat} (h : ∀ s ∈ l, s < 2 ^ n) (hn : n ≤ 16) (k : Nat) : l.getD k 0 ≤ 65535 := by
  rw [List.getD_eq_getElem?_getD]
  rcases Nat.lt_or_ge k l.length with hk | hk
  · rw [List.getElem?_eq_getElem hk]; exact LatD.Ok.lt hn (h _ (List.getElem_mem hk))
  · rw [List.getElem?_eq_none hk]; exact Nat.zero_le _

theorem heap_first (w : World) (a b : Obj) : ((w.alloc a).alloc b).drew.heap[w.heap.size]? = some a := by
  show ((w.heap.push a).push b)[w.heap.size]? = some a
  rw [Array.getElem?_push, if_neg (by simp), Array.getElem?_push, if_pos rfl]
theorem heap_second (w : World) (a b : Obj) : ((w.alloc a).alloc b).drew.heap[w.heap.size + 1]? = some b := by
  show ((w.heap.push a).push b)[w.heap.size + 1]? = some b
  rw [Array.getElem?_push, if_pos (by simp)]

theorem cell_keep {w : World} {a : Addr} {v : Value} {o : Obj} (h : w.cell? a = some v) : (w.alloc o).cell? a = some v := by
  rw [World.cell?_alloc_some _ _ _ (by rw [h]; rfl)]; exact h

theorem Tab.nil (w : World) : Tab w nilS ([] : List (List Int)) := ⟨[], World.ownsRow_nil _ _ _ _, fun i r h => by simp at h⟩

/-- Two values share no block. -/
def apart (v u : Value) : Prop := v.ownBlock = none ∨ v.ownBlock ≠ u.ownBlock

theorem rd_u32 {w : World} {au : Option Addr} {l : List Nat} {k n : Nat} (h : Rd w au (u32s l)) (hl : l.length = n) (hk : k < n) : ∃ g o, au = some ⟨g, o, none⟩ ∧ w.cell? ⟨g, o + k, none⟩ = some (.int .u32 ((l.getD k 0 : Nat) : Int)) :=
  h.at (by simp [u32s, List.getD_eq_getElem?_getD]; rw [List.getElem?_eq_getElem (by omega)]; simp)

theorem and_u32 (a b : Nat) (ha : a ≤ 65535) (hb : b ≤ 65535) : bits BinOp.and IntKind.u32 (a : Int) (b : Int) = ((a &&& b : Nat) : Int) := u32_and_nat a b (by omega) (by omega)
theorem and_le (a b : Nat) (ha : a ≤ 65535) : a &&& b ≤ 65535 := Nat.le_trans Nat.and_le_left ha

theorem apart_symm {v u : Value} (h : apart v u) : u.ownBlock = none ∨ u.ownBlock ≠ v.ownBlock := by
  rcases h with h | h
  · by_cases e : u.ownBlock = none
    · exact .inl e
    · exact .inr (by rw [h]; exact e)
  · exact .inr (Ne.symm h)

theorem joinRow_snoc (l : List Nat) (k k2 : Nat) (h : k2 < l.length) : i64s ((joinRow l k).take (k2 + 1)) = i64s ((joinRow l k).take k2) ++ [Value.int .i64 (firstI l (l.getD k 0 &&& l.getD k2 0))] := by
  rw [List.take_succ_eq_append_getElem (by simp [joinRow]; exact h)]
  simp [i64s, joinRow, List.getD_eq_getElem?_getD, h]

/-- Behind both appends of region 10. -/
structure Fin10 (wr w2 : World) (vj vm v77 v84 : Value) (k : Nat) (r3 r4 : List Value) : Prop where
  own77 : w2.ownsRow 0 53 1 v77 (k + 1) r3
  own84 : w2.ownsRow 0 53 1 v84 (k + 1) r4
  ap : apart v77 v84
  os : w2.os = wr.os
  tape : w2.tape = wr.tape
  output : w2.output = wr.output
  size : wr.heap.size ≤ w2.heap.size
  keep : ∀ q, q < wr.heap.size → vj.ownBlock ≠ some q → vm.ownBlock ≠ some q → w2.heap[q]? = wr.heap[q]?
  new77 : ∀ q, v77.ownBlock = some q → vj.ownBlock = some q ∨ wr.heap.size ≤ q
  new84 : ∀ q, v84.ownBlock = some q → vm.ownBlock = some q ∨ wr.heap.size ≤ q

theorem Fin10.mk2 {wr W1 w1 W2 w2 : World} {vj vm : Value} {k n gg gh H H2 cap cap2 : Nat} {rj rm r3 r4 : List Value} (hj : wr.ownsRow 0 53 1 vj n rj) (hm : wr.ownsRow 0 53 1 vm n rm) (hap : apart vj vm)
    (b1 : Below wr.heap.size wr W1) (g1 : W1.grownBy w1 vj.ownBlock) (o1 : w1.ownsRow 0 53 1 (.slice (some ⟨gg, 0, none⟩) (k + 1) cap) (k + 1) r3) (hat : vj.ownBlock = some gg ∨ gg = H) (hH : wr.heap.size ≤ H)
    (b2 : Below w1.heap.size w1 W2) (g2 : W2.grownBy w2 vm.ownBlock) (o2 : w2.ownsRow 0 53 1 (.slice (some ⟨gh, 0, none⟩) (k + 1) cap2) (k + 1) r4) (hat2 : vm.ownBlock = some gh ∨ gh = H2) (hH2 : w1.heap.size ≤ H2) :
    Fin10 wr w2 vj vm (.slice (some ⟨gg, 0, none⟩) (k + 1) cap) (.slice (some ⟨gh, 0, none⟩) (k + 1) cap2) k r3 r4 := by
  have s1 := b1.size; have s2 := g1.size; have s3 := b2.size; have s4 := g2.size
  have lm : ∀ q, vm.ownBlock = some q → q < wr.heap.size := fun q hq => (hm.lt q hq).2
  have lj : ∀ q, vj.ownBlock = some q → q < wr.heap.size := fun q hq => (hj.lt q hq).2
  have lgg : gg < w1.heap.size := (o1.lt gg rfl).2
  have ngm : vm.ownBlock ≠ some gg := fun e => by
    rcases hat with h | h
    · rcases hap with h2 | h2
      · rw [h2] at h; cases h
      · exact h2 (h.trans e.symm)
    · have := lm gg e; omega
  refine ⟨?_, o2, .inr ?_, ?_, ?_, ?_, by omega, ?_, ?_, ?_⟩
  · refine (owns_below o1 b2).kept g2 (.inr ?_)
    show some gg ≠ _
    exact Ne.symm ngm
  · show some gg ≠ some gh
    intro e
    injection e with e
    rcases hat2 with h | h
    · exact ngm (h.trans (by rw [e]))
    · omega
  · rw [g2.os, b2.os, g1.os, b1.os]
  · rw [g2.tape, b2.tape, g1.tape, b1.tape]
  · rw [g2.output, b2.output, g1.output, b1.output]
  · intro q hq h1 h2
    rw [g2.block q (by omega) (Ne.symm h2), b2.block q (by omega), g1.block q (by omega) (Ne.symm h1), b1.block q hq]
  · intro q hq
    simp [Value.ownBlock] at hq
    subst hq
    rcases hat with h | h
    · exact .inl h
    · exact .inr (by omega)
  · intro q hq
    simp [Value.ownBlock] at hq
    subst hq
    rcases hat2 with h | h
    · exact .inl h
    · exact .inr (by omega)

theorem Fin10.stored {wr w2 wo : World} {vj vm v77 v84 : Value} {k : Nat} {r3 r4 : List Value} (h : Fin10 wr w2 vj vm v77 v84 k r3 r4) (p : Nat) (hpo : p < wo.heap.size) (hB : Below wo.heap.size wo wr) {c : Array Value}
    (hp : wo.heap[p]? = some (.cells c 76 (0, 0))) (nj : vj.ownBlock ≠ some p) (nm : vm.ownBlock ≠ some p) :
    w2.cell? ⟨p, 6, none⟩ = c[6]? ∧ w2.cell? ⟨p, 7, none⟩ = c[7]? ∧ w2.frozen? ⟨p, 6, none⟩ = false ∧ w2.frozen? ⟨p, 7, none⟩ = false := by
  have e : w2.heap[p]? = some (.cells c 76 (0, 0)) := by
    rw [h.keep p (by have := hB.size; omega) nj nm, hB.block p hpo, hp]
  refine ⟨?_, ?_, ?_, ?_⟩ <;> simp [World.cell?, World.frozen?, e]

theorem owns_move {w w' : World} {base e n : Nat} {v : Value} {xs : List Value} (h : w.ownsRow base e 1 v n xs) (hq : ∀ g, v.ownBlock = some g → w'.heap[g]? = w.heap[g]?) : w'.ownsRow base e 1 v n xs := by
  obtain ⟨h0, h | ⟨g, cap, cur, rfl, hg, hh, r⟩⟩ := h
  · exact ⟨h0, .inl h⟩
  · exact ⟨h0, .inr ⟨g, cap, cur, rfl, hg, by rw [hq g rfl]; exact hh, r⟩⟩

theorem owns_types {w : World} {b b' e e' n m : Nat} {v u : Value} {xs ys : List Value} (h1 : w.ownsRow b e 1 v n xs) (h2 : w.ownsRow b' e' 1 u m ys) (he : e ≠ e') : ∀ g, v.ownBlock = some g → u.ownBlock ≠ some g := by
  intro g hv hu
  obtain ⟨_, ⟨rfl, _⟩ | ⟨g1, cap, cur, rfl, hg, hh, r⟩⟩ := h1
  · simp [Value.ownBlock] at hv
  · simp [Value.ownBlock] at hv; subst hv
    exact owns_ne h2 hh he hu

/-- The round's relation, behind region 10. -/
theorem fin_rel {wr w2 wo w : World} {vj vm v77 v84 u3 u4 : Value} {k p : Nat} {rj rm : List Value} {L : LatD} {a b c d e f : Value}
    (h : Fin10 wr w2 vj vm v77 v84 k (rj ++ [u3]) (rm ++ [u4])) (hpo : p < wo.heap.size) (hB : Below wo.heap.size wo wr)
    (hp : wo.heap[p]? = some (.cells #[a, b, c, d, e, f, vj, vm] 76 (0, 0))) (nj : vj.ownBlock ≠ some p) (nm : vm.ownBlock ≠ some p)
    (hoj : wr.ownsRow 0 53 1 vj k rj) (hom : wr.ownsRow 0 53 1 vm k rm)
    (hrj : ∀ (i : Nat) r, rj[i]? = some r → wo.ownsRow 0 3 1 r (((joinTab L.up).take k).getD i []).length (i64s (((joinTab L.up).take k).getD i [])))
    (hrm : ∀ (i : Nat) r, rm[i]? = some r → wo.ownsRow 0 3 1 r (((joinTab L.down).take k).getD i []).length (i64s (((joinTab L.down).take k).getD i [])))
    (ho3 : wr.ownsRow wo.heap.size 3 1 u3 L.names.length (i64s ((joinRow L.up k).take L.names.length))) (ho4 : wr.ownsRow wo.heap.size 3 1 u4 L.names.length (i64s ((joinRow L.down k).take L.names.length)))
    (hg : w.grownBy wo (some p)) (hnj : ∀ q, vj.ownBlock = some q → w.heap.size ≤ q) (hnm : ∀ q, vm.ownBlock = some q → w.heap.size ≤ q) (eu : L.up.length = L.names.length) (ed : L.down.length = L.names.length) (hk : k ≤ L.names.length) (hlt : k < L.names.length) :
    Hid (((w2.setCell ⟨p, 6, none⟩ v77).setCell ⟨p, 7, none⟩ v84).heap[p]? = some (.cells #[a, b, c, d, e, f, v77, v84] 76 (0, 0))) ∧
    Hid (Tab ((w2.setCell ⟨p, 6, none⟩ v77).setCell ⟨p, 7, none⟩ v84) v77 ((joinTab L.up).take (k + 1))) ∧ Hid (Tab ((w2.setCell ⟨p, 6, none⟩ v77).setCell ⟨p, 7, none⟩ v84) v84 ((joinTab L.down).take (k + 1))) ∧
    Hid (apart v77 v84) ∧ Hid (w.grownBy ((w2.setCell ⟨p, 6, none⟩ v77).setCell ⟨p, 7, none⟩ v84) (some p)) ∧
    Hid (∀ q, v77.ownBlock = some q → w.heap.size ≤ q) ∧ Hid (∀ q, v84.ownBlock = some q → w.heap.size ≤ q) := by
  have hs := hB.size
  have e2 : w2.heap[p]? = some (.cells #[a, b, c, d, e, f, vj, vm] 76 (0, 0)) := by
    rw [h.keep p (by omega) nj nm, hB.block p hpo, hp]
  -- what the two stores leave
  have far : ∀ q, q ≠ p → ((w2.setCell ⟨p, 6, none⟩ v77).setCell ⟨p, 7, none⟩ v84).heap[q]? = w2.heap[q]? := fun q hq => by
    rw [Below.heap_setCell _ _ _ _ hq, Below.heap_setCell _ _ _ _ hq]
  have np : ∀ {T n : Nat} {v : Value} {xs : List Value}, T ≠ 76 → w2.ownsRow 0 T 1 v n xs → ((w2.setCell ⟨p, 6, none⟩ v77).setCell ⟨p, 7, none⟩ v84).ownsRow 0 T 1 v n xs := fun hT ho =>
    owns_move ho (fun g hv => far g (fun e => owns_ne ho e2 (Ne.symm hT) (e ▸ hv)))
  have rows : ∀ {n : Nat} {v : Value} {xs : List Value}, wr.ownsRow 0 3 1 v n xs → w2.ownsRow 0 3 1 v n xs := fun ho =>
    owns_move ho (fun g hv => h.keep g (ho.lt g hv).2 (owns_types ho hoj (by decide) g hv) (owns_types ho hom (by decide) g hv))
  have tab : ∀ (l : List Nat) (r : List Value) (u : Value) (v : Value), l.length = L.names.length → w2.ownsRow 0 53 1 v (k + 1) (r ++ [u]) →
      (∀ (i : Nat) x, r[i]? = some x → wo.ownsRow 0 3 1 x (((joinTab l).take k).getD i []).length (i64s (((joinTab l).take k).getD i []))) → r.length = k →
      wr.ownsRow wo.heap.size 3 1 u L.names.length (i64s ((joinRow l k).take L.names.length)) → Tab ((w2.setCell ⟨p, 6, none⟩ v77).setCell ⟨p, 7, none⟩ v84) v ((joinTab l).take (k + 1)) := by
    intro l r u v hl ho hr hrl hu
    have hlt' : ((joinTab l).take (k + 1)).length = k + 1 := by simp [joinTab]; omega
    have hj : (joinRow l k).length = L.names.length := by simp [joinRow, hl]
    refine ⟨r ++ [u], by rw [hlt']; exact np (by decide) ho, fun i x hx => ?_⟩
    apply np (by decide)
    apply rows
    rcases Nat.lt_or_ge i k with hi | hi
    · rw [List.getElem?_append_left (by omega)] at hx
      have h1 := owns_below (hr i x hx) hB
      have e1 : ((joinTab l).take (k + 1)).getD i [] = ((joinTab l).take k).getD i [] := by
        simp only [List.getD_eq_getElem?_getD, List.getElem?_take]; rw [if_pos (by omega), if_pos (by omega)]
      rw [e1]; exact h1
    · rw [List.getElem?_append_right (by omega)] at hx
      have hi2 : i = k := by
        have := (List.getElem?_eq_some_iff.1 hx).1
        simp at this; omega
      subst hi2
      simp [hrl] at hx
      subst hx
      have e1 : ((joinTab l).take (i + 1)).getD i [] = joinRow l i := by
        simp only [List.getD_eq_getElem?_getD, List.getElem?_take]; rw [if_pos (by omega)]
        simp [joinTab, hl, hlt]
      rw [e1, hj]
      rw [List.take_of_length_le (by omega)] at hu
      exact owns_base hu (Nat.zero_le _)
  refine ⟨?_, tab L.up rj u3 v77 eu h.own77 hrj (ownsRow.lenEq hoj) ho3, tab L.down rm u4 v84 ed h.own84 hrm (ownsRow.lenEq hom) ho4, h.ap, ?_, ?_, ?_⟩
  · show _ = _
    simp [World.setCell, Array.getElem?_modify, e2]
  · exact ⟨h.os.trans (hB.os.trans hg.os), h.tape.trans (hB.tape.trans hg.tape), h.output.trans (hB.output.trans hg.output), by have := hg.size; have := h.size; simp [World.setCell]; omega, fun q hq hne => by
      have hqp : q ≠ p := fun e => hne (by rw [e])
      have hqo : q < wo.heap.size := by have := hg.size; omega
      rw [far q hqp, h.keep q (by omega) (fun e => by have := hnj q e; omega) (fun e => by have := hnm q e; omega), hB.block q hqo, hg.block q hq hne]⟩
  · intro q hq
    rcases h.new77 q hq with h1 | h1
    · exact hnj q h1
    · have := hg.size; omega
  · intro q hq
    rcases h.new84 q hq with h1 | h1
    · exact hnm q h1
    · have := hg.size; omega

set_option maxRecDepth 100000 in
set_option maxHeartbeats 4000000 in
theorem tables_any (p : Nat) (L : LatD) (vn vu vd : Value) (m s : Int) (w : World) (ok : L.Ok)
    (h0 : w.heap[p]? = some (.cells #[vn, vu, vd, .int .u32 0, .int .i32 m, .int .u32 s, nilS, nilS] 76 (0, 0)))
    (h1 : w.ownsRow 0 9 1 vn L.names.length (L.names.map Value.string))
    (h2 : w.ownsRow 0 77 1 vu L.up.length (u32s L.up))
    (h3 : w.ownsRow 0 77 1 vd L.down.length (u32s L.down)) :
    Calls Try.prog 62 #[.pointer (some ⟨p, 0, none⟩)] w fun e w' => e = .returned (.tuple #[]) ∧ w.grownBy w' (some p) ∧
      ∃ vj vm, w'.heap[p]? = some (.cells #[vn, vu, vd, .int .u32 0, .int .i32 m, .int .u32 s, vj, vm] 76 (0, 0)) ∧ Tab w' vj (joinTab L.up) ∧ Tab w' vm (joinTab L.down) := by
  obtain ⟨an, cn, rfl, l1, _, r1⟩ := owns_form h1
  obtain ⟨au, cu, rfl, l2, _, r2⟩ := owns_form h2
  obtain ⟨ad, cd, rfl, l3, _, r3⟩ := owns_form h3
  have c0 : w.cell? ⟨p, 0, none⟩ = some (.slice an L.names.length cn) := by simp [World.cell?, h0]
  have e2 := ok.up; have e3 := ok.down; have e4 := ok.le
  obtain ⟨i3, hi3, hz30, hz31, hz32⟩ := info_parts info_int
  obtain ⟨j3, hj3, hy30, hy31, hy32⟩ := info_parts info_ints
  have HR1 := Lib.hid r1; have HR2 := Lib.hid r2; have HR3 := Lib.hid r3; clear r1 r2 r3
  have HW := Lib.hid h0; have H1 := Lib.hid h1; have H2 := Lib.hid h2; have H3 := Lib.hid h3
  have E2 := Lib.hid e2; have E3 := Lib.hid e3
  clear h0 h1 h2 h3 e2 e3
  have hpw : p < w.heap.size := lt_of_block HW.out
  go_enter Try.func62, Try.ntmps62
  go_wp2_with fail
  go_loopw [11] (fun i wr => ∃ (k : Nat) (vj vm : Value), k ≤ L.names.length ∧ i = .int .i64 k ∧ Hid (wr.heap[p]? = some (.cells #[.slice an L.names.length cn, .slice au L.up.length cu, .slice ad L.down.length cd, .int .u32 0, .int .i32 m, .int .u32 s, vj, vm] 76 (0, 0))) ∧ Hid (Tab wr vj ((joinTab L.up).take k)) ∧ Hid (Tab wr vm ((joinTab L.down).take k)) ∧ Hid (apart vj vm) ∧ Hid (w.grownBy wr (some p)) ∧ Hid (∀ q, vj.ownBlock = some q → w.heap.size ≤ q) ∧ Hid (∀ q, vm.ownBlock = some q → w.heap.size ≤ q)) (fun i _ => L.names.length - (intOf i).toNat)
  case atStart => exact ⟨0, nilS, nilS, Nat.zero_le _, rfl, HW.out, Tab.nil _, Tab.nil _, .inl rfl, World.grownBy.refl _ _, fun q h => by simp [nilS, Value.ownBlock] at h, fun q h => by simp [nilS, Value.ownBlock] at h⟩
  case round =>
    obtain ⟨k, vj, vm, hk, rfl, HP, HJ, HM, HA, HG, HNJ, HNM⟩ := hrel
    have cc0 : wr.cell? ⟨p, 0, none⟩ = some (.slice an L.names.length cn) := by simp [World.cell?, HP.out]
    by_cases hlt : k < L.names.length
    · go_wp2_with fail

      obtain ⟨wo, rfl⟩ : ∃ wo : World, wo = wr := ⟨_, rfl⟩
      go_loopw [3, 4, 19] (fun v3 v4 i wr => ∃ (k2 : Nat), k2 ≤ L.names.length ∧ i = .int .i64 k2 ∧ Hid (wr.ownsRow wo.heap.size 3 1 v3 k2 (i64s ((joinRow L.up k).take k2))) ∧ Hid (wr.ownsRow wo.heap.size 3 1 v4 k2 (i64s ((joinRow L.down k).take k2))) ∧ Hid (apart v3 v4) ∧ Below wo.heap.size wo wr) (fun _ _ i _ => L.names.length - (intOf i).toNat)
      case atStart => exact ⟨0, Nat.zero_le _, rfl, World.ownsRow_nil _ _ _ _, World.ownsRow_nil _ _ _ _, .inl rfl, Below.refl _ _⟩
      case round =>
        obtain ⟨k2, hk2, rfl, HO3, HO4, HA34, hB⟩ := hrel
        have hpo : p < wo.heap.size := lt_of_block HP.out
        have hszb := hB.size
        have cp0 : wr.cell? ⟨p, 0, none⟩ = some (.slice an L.names.length cn) := by rw [hB.cell hpo]; exact cc0
        by_cases hlt2 : k2 < L.names.length
        · have hRu : Rd wr au (u32s L.up) := Rd.of_owns (owns_below (H2.out.kept HG.out (.inr (owns_ne H2.out HW.out (by decide)))) hB)
          have hRd : Rd wr ad (u32s L.down) := Rd.of_owns (owns_below (H3.out.kept HG.out (.inr (owns_ne H3.out HW.out (by decide)))) hB)
          obtain ⟨gu, ou, rfl, cu1⟩ := rd_u32 hRu E2.out hlt
          obtain ⟨gu', ou', e1, cu2⟩ := rd_u32 hRu E2.out hlt2
          obtain ⟨rfl, rfl⟩ : gu' = gu ∧ ou' = ou := by simpa using e1.symm
          clear e1
          obtain ⟨gd, od, rfl, cd1⟩ := rd_u32 hRd E3.out hlt
          obtain ⟨gd', od', e1, cd2⟩ := rd_u32 hRd E3.out hlt2
          obtain ⟨rfl, rfl⟩ : gd' = gd ∧ od' = od := by simpa using e1.symm
          clear e1
          have HRu := Lib.hid hRu; have HRd := Lib.hid hRd; clear hRu hRd
          have cp1 : wr.cell? ⟨p, 1, none⟩ = some (.slice (some ⟨gu', ou', none⟩) L.up.length cu) := by rw [hB.cell hpo]; simp [World.cell?, HP.out]
          have cp2 : wr.cell? ⟨p, 2, none⟩ = some (.slice (some ⟨gd', od', none⟩) L.down.length cd) := by rw [hB.cell hpo]; simp [World.cell?, HP.out]
          obtain ⟨ua, hua⟩ : ∃ x, L.up.getD k 0 = x := ⟨_, rfl⟩
          obtain ⟨ub, hub⟩ : ∃ x, L.up.getD k2 0 = x := ⟨_, rfl⟩
          obtain ⟨da, hda⟩ : ∃ x, L.down.getD k 0 = x := ⟨_, rfl⟩
          obtain ⟨db, hdb⟩ : ∃ x, L.down.getD k2 0 = x := ⟨_, rfl⟩
          rw [hua] at cu1; rw [hub] at cu2; rw [hda] at cd1; rw [hdb] at cd2
          have lua : ua ≤ 65535 := hua ▸ getD_le ok.upB ok.le _
          have lub : ub ≤ 65535 := hub ▸ getD_le ok.upB ok.le _
          have lda : da ≤ 65535 := hda ▸ getD_le ok.downB ok.le _
          have ldb : db ≤ 65535 := hdb ▸ getD_le ok.downB ok.le _
          have HUA := Lib.hid hua; have HUB := Lib.hid hub; have HDA := Lib.hid hda; have HDB := Lib.hid hdb; clear hua hub hda hdb
          have au := and_u32 ua ub lua lub
          have ad := and_u32 da db lda ldb
          have hup : L.up.length = L.names.length := E2.out
          have hdn : L.down.length = L.names.length := E3.out
          rw [hup] at cp1; rw [hdn] at cp2
          clear hup hdn
          have hk0 : (0 : Int) ≤ (k : Int) := Int.natCast_nonneg _
          have hk1 : (k : Int) < (L.names.length : Int) := by omega
          have hk20 : (0 : Int) ≤ (k2 : Int) := Int.natCast_nonneg _
          have hk21 : (k2 : Int) < (L.names.length : Int) := by omega
          have hpr : p < wr.heap.size := World.block_lt_of_cell? wr _ cp1
          have hgr : gu' < wr.heap.size := World.block_lt_of_cell? wr _ cu1
          have hgr2 : gd' < wr.heap.size := World.block_lt_of_cell? wr _ cd1
          have hgo : gu' < wo.heap.size := Nat.lt_of_lt_of_le (H2.out.lt gu' rfl).2 HG.out.size
          have hgo2 : gd' < wo.heap.size := Nat.lt_of_lt_of_le (H3.out.lt gd' rfl).2 HG.out.size
          have n3 : ∀ q, q < wo.heap.size → u3.ownBlock ≠ some q := fun q hq e => by have := (HO3.out.lt q e).1; omega
          have n4 : ∀ q, q < wo.heap.size → u4.ownBlock ≠ some q := fun q hq e => by have := (HO4.out.lt q e).1; omega
          have n3p := n3 p hpo; have n3g := n3 gu' hgo; have n4p := n4 p hpo; have n4g := n4 gd' hgo2
          have N3 := Lib.hid n3; have N4 := Lib.hid n4; clear n3 n4
          go_wp2_with fail
          go_region_held3 (fun w' => w'.cell? ⟨p, 1, none⟩ = some (.slice (some ⟨gu', ou', none⟩) L.names.length cu) ∧ w'.cell? ⟨gu', ou' + k, none⟩ = some (.int .u32 (ua : Int)) ∧ w'.cell? ⟨gu', ou' + k2, none⟩ = some (.int .u32 (ub : Int)))
            (first
              | go_keep
              | (go_split_ands
                 refine ⟨?_, ?_, ?_⟩
                 · (rw [hgrow.cell_far _ (by simp; omega) (Ne.symm n3p)]; assumption)
                 · (rw [hgrow.cell_far _ (by simp; omega) (Ne.symm n3g)]; assumption)
                 · (rw [hgrow.cell_far _ (by simp; omega) (Ne.symm n3g)]; assumption)))
            (first
              | (go_at_call 63; refine (first_any _ _ _ L.up (ua &&& ub) _ (by exact HRu.out) E2.out (by omega)).mono ?_; rintro e w' ⟨rfl, rfl⟩)
              | (refine step_append_lies _ (by rfl) _ _ _ (by rfl) wo.heap.size 3 i3 _ 1 8 Try.underlying53 hi3 hz30 hz31 hz32 rfl (by omega) u3 k2 _ (by rfl) ((HO3.out.alloc _).drew)
                  ⟨wr.heap.size, 0, none⟩ 1 1 [.int .i64 (firstI L.up (ua &&& ub))] (by rfl) (by rfl) (World.news_of_block (cs := #[.int .i64 (firstI L.up (ua &&& ub))]) (t := 3) (fr := (0, 0)) (heap_alloc_new wr _)) (by simp [Value.oneCell'])
                  (by omega) (by unfold maxLen; omega) (by omega) (by simp; omega) (wr.heap.size + 1) (by simp) ?_; intro gg cap w1 hown1 hgrow hat hlt))
          have hB1 : Below wo.heap.size wo w1 := ((hB.alloc hszb _).drew).grown hgrow (by simp; omega) (fun q hq => (HO3.out.lt q hq).1)
          have HO4' := Lib.hid (((HO4.out.alloc (.cells #[Value.int .i64 (firstI L.up (ua &&& ub))] 3)).drew).kept hgrow (apart_symm HA34.out))
          have hJ : Hid (i64s ((joinRow L.up k).take (k2 + 1)) = i64s ((joinRow L.up k).take k2) ++ [Value.int .i64 (firstI L.up (ua &&& ub))]) := by
            rw [← HUA.out, ← HUB.out]; exact joinRow_snoc L.up k k2 (by rw [E2.out]; exact hlt2)
          have hM : Hid (i64s ((joinRow L.down k).take (k2 + 1)) = i64s ((joinRow L.down k).take k2) ++ [Value.int .i64 (firstI L.down (da &&& db))]) := by
            rw [← HDA.out, ← HDB.out]; exact joinRow_snoc L.down k k2 (by rw [E3.out]; exact hlt2)
          have hs1 := hgrow.size
          have H1' := Lib.hid hown1; have HG1 := Lib.hid hgrow; have HAT := Lib.hid hat; have HLT := Lib.hid hlt
          have cq0 : w1.cell? ⟨p, 0, none⟩ = some (.slice an L.names.length cn) := by rw [hB1.cell hpo, ← hB.cell hpo]; exact cp0
          have cq2 : w1.cell? ⟨p, 2, none⟩ = some (.slice (some ⟨gd', od', none⟩) L.names.length cd) := by rw [hB1.cell hpo, ← hB.cell hpo]; exact cp2
          have dq1 : w1.cell? ⟨gd', od' + k, none⟩ = some (.int .u32 (da : Int)) := by rw [hB1.cell hgo2, ← hB.cell hgo2]; exact cd1
          have dq2 : w1.cell? ⟨gd', od' + k2, none⟩ = some (.int .u32 (db : Int)) := by rw [hB1.cell hgo2, ← hB.cell hgo2]; exact cd2
          have HRd1 : Hid (Rd w1 (some ⟨gd', od', none⟩) (u32s L.down)) := Rd.of_owns (owns_below (H3.out.kept HG.out (.inr (owns_ne H3.out HW.out (by decide)))) hB1)
          have hpr1 : p < w1.heap.size := World.block_lt_of_cell? w1 _ cq2
          have hgr1 : gd' < w1.heap.size := World.block_lt_of_cell? w1 _ dq1
          have hszb1 : wo.heap.size ≤ w1.heap.size := hB1.size
          clear hown1 hgrow hat hlt cp0 cp1 cp2 cu1 cu2 cd1 cd2
          go_wp2_with fail
          go_region_held3 (fun w' => w'.cell? ⟨p, 2, none⟩ = some (.slice (some ⟨gd', od', none⟩) L.names.length cd) ∧ w'.cell? ⟨gd', od' + k, none⟩ = some (.int .u32 (da : Int)) ∧ w'.cell? ⟨gd', od' + k2, none⟩ = some (.int .u32 (db : Int)))
            (first
              | go_keep
              | (go_split_ands
                 refine ⟨?_, ?_, ?_⟩
                 · (rw [hgrow.cell_far _ (by simp; omega) (Ne.symm n4p)]; assumption)
                 · (rw [hgrow.cell_far _ (by simp; omega) (Ne.symm n4g)]; assumption)
                 · (rw [hgrow.cell_far _ (by simp; omega) (Ne.symm n4g)]; assumption)))
            (first
              | (go_at_call 63; refine (first_any _ _ _ L.down (da &&& db) _ (by exact HRd1.out) E3.out (by omega)).mono ?_; rintro e w' ⟨rfl, rfl⟩)
              | (refine step_append_lies _ (by rfl) _ _ _ (by rfl) wo.heap.size 3 i3 _ 1 8 Try.underlying53 hi3 hz30 hz31 hz32 rfl (by omega) u4 k2 _ (by rfl) ((HO4'.out.alloc _).drew)
                  ⟨w1.heap.size, 0, none⟩ 1 1 [.int .i64 (firstI L.down (da &&& db))] (by rfl) (by rfl) (World.news_of_block (cs := #[.int .i64 (firstI L.down (da &&& db))]) (t := 3) (fr := (0, 0)) (heap_alloc_new w1 _)) (by simp [Value.oneCell'])
                  (by omega) (by unfold maxLen; omega) (by omega) (by simp; omega) (w1.heap.size + 1) (by simp) ?_; intro gh cap2 w2 hown2 hgrow hat2 hlt2'))
          have hB2 : Below wo.heap.size wo w2 := ((hB1.alloc hszb1 _).drew).grown hgrow (by simp; omega) (fun q hq => (HO4.out.lt q hq).1)
          have HX : Hid (w2.ownsRow wo.heap.size 3 1 (.slice (some ⟨gg, 0, none⟩) (k2 + 1) cap) (k2 + 1) (i64s ((joinRow L.up k).take (k2 + 1)))) := by
            rw [hJ.out]
            refine ((H1'.out.alloc (.cells #[Value.int .i64 (firstI L.down (da &&& db))] 3)).drew).kept hgrow (.inr ?_)
            show some gg ≠ _
            rcases HAT.out with h | h
            · rcases HA34.out with h2 | h2
              · rw [h2] at h; cases h
              · rw [← h]; exact h2
            · intro h2
              have := (HO4.out.lt gg h2.symm).2; omega
          have HY : Hid (w2.ownsRow wo.heap.size 3 1 (.slice (some ⟨gh, 0, none⟩) (k2 + 1) cap2) (k2 + 1) (i64s ((joinRow L.down k).take (k2 + 1)))) := by
            rw [hM.out]; exact hown2
          have HZ : Hid (apart (.slice (some ⟨gg, 0, none⟩) (k2 + 1) cap) (.slice (some ⟨gh, 0, none⟩) (k2 + 1) cap2)) := by
            refine .inr ?_
            show some gg ≠ some gh
            intro h
            injection h with h
            rcases hat2 with h3 | h3
            · rcases HAT.out with h4 | h4
              · rcases HA34.out with h2 | h2
                · rw [h2] at h4; cases h4
                · rw [h4, h3, h] at h2; exact h2 rfl
              · have := (HO4.out.lt gh h3).2; omega
            · have := HLT.out; omega
          clear hown2 hgrow hat2 hlt2'
          go_wp2
          go_roundw
          case rel => exact ⟨k2 + 1, by omega, by go_num, HX, HY, HZ, hB2⟩
          case measure => simp [intOf]; omega
        · have cj : wr.cell? ⟨p, 6, none⟩ = some vj := by rw [hB.cell hpo]; simp [World.cell?, HP.out]
          obtain rfl : k2 = L.names.length := by omega
          obtain ⟨a3, q3, rfl, _, _, _⟩ := owns_form HO3.out
          obtain ⟨a4, q4, rfl, _, _, _⟩ := owns_form HO4.out
          obtain ⟨rj, HOJ0, HRJ⟩ := HJ.out
          obtain ⟨rm, HOM0, HRM⟩ := HM.out
          have lj : ((joinTab L.up).take k).length = k := by simp [joinTab, E2.out]; omega
          have lm : ((joinTab L.down).take k).length = k := by simp [joinTab, E3.out]; omega
          rw [lj] at HOJ0; rw [lm] at HOM0
          have HOJ := Lib.hid (owns_below HOJ0 hB); have HOM := Lib.hid (owns_below HOM0 hB)
          clear HOJ0 HOM0 lj lm
          have HRJ' := Lib.hid HRJ; have HRM' := Lib.hid HRM; clear HRJ HRM
          have NJ : vj.ownBlock ≠ some p := owns_ne HOJ.out (hB.block p hpo ▸ HP.out) (by decide)
          have NM : vm.ownBlock ≠ some p := owns_ne HOM.out (hB.block p hpo ▸ HP.out) (by decide)
          have hpr : p < wr.heap.size := by omega
          have cm : wr.cell? ⟨p, 7, none⟩ = some vm := by rw [hB.cell hpo]; simp [World.cell?, HP.out]
          go_wp2_with fail
          refine wp_region_noPanic ?_
          refine wp_region_G (S10 p vj vm) (by kernel_rfl) ?_
          have HS : S10 p vj vm (Array.replicate 22 false) wr.drew := ⟨fun _ => cj, fun _ => cm⟩
          refine G_pure (i := 0) (oi := ⟨some 69, _, _, _, _, _⟩) rfl (by kernel_rfl) (by kernel_rfl) (by kernel_rfl) (fun _ _ _ h => h) (fun _ _ => by simp [S10]) (Or.inl ⟨by rfl, fun w _ => by go_simp; try rfl⟩) HS ?_
          simp only [Act.put, List.setIfInBounds_toArray, List.set_cons_zero, List.set_cons_succ]
          replace HS := S10_set 0 (by decide) (by decide) HS
          refine G_pure (i := 1) (oi := ⟨some 70, _, _, _, _, _⟩) rfl (by kernel_rfl) (by kernel_rfl) (by kernel_rfl) (fun _ _ _ h => h) (fun _ _ => by simp [S10]) (Or.inl ⟨by rfl, fun w _ => by go_simp; try rfl⟩) HS ?_
          simp only [Act.put, List.setIfInBounds_toArray, List.set_cons_zero, List.set_cons_succ]
          replace HS := S10_set 1 (by decide) (by decide) HS
          refine G_pure (i := 2) (oi := ⟨some 71, _, _, _, _, _⟩) rfl (by kernel_rfl) (by kernel_rfl) (by kernel_rfl) (fun _ _ _ h => h) (fun _ _ => by simp [S10]) (Or.inl ⟨by rfl, fun w _ => by go_simp; try rfl⟩) HS ?_
          simp only [Act.put, List.setIfInBounds_toArray, List.set_cons_zero, List.set_cons_succ]
          replace HS := S10_set 2 (by decide) (by decide) HS
          refine G_pure (i := 3) (oi := ⟨some 72, _, _, _, _, _⟩) rfl (by kernel_rfl) (by kernel_rfl) (by kernel_rfl) (fun _ _ _ h => h) (fun _ _ => by simp [S10]) (Or.inl ⟨by rfl, fun w _ => by go_simp; try rfl⟩) HS ?_
          simp only [Act.put, List.setIfInBounds_toArray, List.set_cons_zero, List.set_cons_succ]
          replace HS := S10_set 3 (by decide) (by decide) HS
          refine G_pure (i := 4) (oi := ⟨some 73, _, _, _, _, _⟩) rfl (by kernel_rfl) (by kernel_rfl) (by kernel_rfl) (fun _ _ _ h => h) (fun _ _ => by simp [S10]) (Or.inl ⟨by rfl, fun w _ => by go_simp; try rfl⟩) HS ?_
          simp only [Act.put, List.setIfInBounds_toArray, List.set_cons_zero, List.set_cons_succ]
          replace HS := S10_set 4 (by decide) (by decide) HS
          refine G_load 8 (i := 5) (oi := ⟨some 74, _, _, _, _, _⟩) (fun w' => w'.cell? ⟨p, 6, none⟩ = some vj) rfl (by kernel_rfl) (by kernel_rfl) (by kernel_rfl) (fun _ _ _ h => h) (fun _ _ => by simp [S10]) (by kernel_rfl) (by kernel_rfl) (fun _ _ hl hs => by simp [S10, hl] at hs; simp [hs]) (Or.inl ⟨by rfl, fun w hw => by go_simp; try rfl⟩) HS ?_
          simp only [Act.put, List.setIfInBounds_toArray, List.set_cons_zero, List.set_cons_succ]
          replace HS := S10_set 5 (by decide) (by decide) HS
          refine G_pure (i := 6) (oi := ⟨some 75, _, _, _, _, _⟩) rfl (by kernel_rfl) (by kernel_rfl) (by kernel_rfl) (fun _ _ _ h => h) (fun _ _ => by simp [S10]) (Or.inl ⟨by rfl, fun w _ => by go_simp; try rfl⟩) HS ?_
          simp only [Act.put, List.setIfInBounds_toArray, List.set_cons_zero, List.set_cons_succ]
          replace HS := S10_set 6 (by decide) (by decide) HS
          refine G_pure (i := 9) (oi := ⟨some 78, _, _, _, _, _⟩) rfl (by kernel_rfl) (by kernel_rfl) (by kernel_rfl) (fun _ _ _ h => h) (fun _ _ => by simp [S10]) (Or.inl ⟨by rfl, fun w _ => by go_simp; try rfl⟩) HS ?_
          simp only [Act.put, List.setIfInBounds_toArray, List.set_cons_zero, List.set_cons_succ]
          replace HS := S10_set 9 (by decide) (by decide) HS
          refine G_pure (i := 10) (oi := ⟨some 79, _, _, _, _, _⟩) rfl (by kernel_rfl) (by kernel_rfl) (by kernel_rfl) (fun _ _ _ h => h) (fun _ _ => by simp [S10]) (Or.inl ⟨by rfl, fun w _ => by go_simp; try rfl⟩) HS ?_
          simp only [Act.put, List.setIfInBounds_toArray, List.set_cons_zero, List.set_cons_succ]
          replace HS := S10_set 10 (by decide) (by decide) HS
          refine G_pure (i := 11) (oi := ⟨some 80, _, _, _, _, _⟩) rfl (by kernel_rfl) (by kernel_rfl) (by kernel_rfl) (fun _ _ _ h => h) (fun _ _ => by simp [S10]) (Or.inl ⟨by rfl, fun w _ => by go_simp; try rfl⟩) HS ?_
          simp only [Act.put, List.setIfInBounds_toArray, List.set_cons_zero, List.set_cons_succ]
          replace HS := S10_set 11 (by decide) (by decide) HS
          refine G_load 15 (i := 12) (oi := ⟨some 81, _, _, _, _, _⟩) (fun w' => w'.cell? ⟨p, 7, none⟩ = some vm) rfl (by kernel_rfl) (by kernel_rfl) (by kernel_rfl) (fun _ _ _ h => h) (fun _ _ => by simp [S10]) (by kernel_rfl) (by kernel_rfl) (fun _ _ hl hs => by simp [S10, hl] at hs; simp [hs]) (Or.inl ⟨by rfl, fun w hw => by go_simp; try rfl⟩) HS ?_
          simp only [Act.put, List.setIfInBounds_toArray, List.set_cons_zero, List.set_cons_succ]
          replace HS := S10_set 12 (by decide) (by decide) HS
          refine G_pure (i := 13) (oi := ⟨some 82, _, _, _, _, _⟩) rfl (by kernel_rfl) (by kernel_rfl) (by kernel_rfl) (fun _ _ _ h => h) (fun _ _ => by simp [S10]) (Or.inl ⟨by rfl, fun w _ => by go_simp; try rfl⟩) HS ?_
          simp only [Act.put, List.setIfInBounds_toArray, List.set_cons_zero, List.set_cons_succ]
          replace HS := S10_set 13 (by decide) (by decide) HS
          refine G_ready [7, 14] (by kernel_rfl) (by simp) ?_
          refine AllG.cons (o := ⟨some 76, _, _, _, _, _⟩) rfl (fun K hK => ?_) (AllG.cons (o := ⟨some 83, _, _, _, _, _⟩) rfl (fun K hK => ?_) AllG.nil)
          · go_simp
            refine hK.out _ _ ⟨fun _ => cell_keep cj, fun _ => cell_keep cm⟩ ?_
            clear hK K
            try simp only [Act.put, List.setIfInBounds_toArray, List.set_cons_zero, List.set_cons_succ]
            refine G_ready [8, 14] (by kernel_rfl) (by simp) ?_
            refine AllG.cons (o := ⟨some 77, _, _, _, _, _⟩) rfl (fun K hK => ?_) (AllG.cons (o := ⟨some 83, _, _, _, _, _⟩) rfl (fun K hK => ?_) AllG.nil)
            · refine step_append_lies _ (by rfl) _ _ _ (by rfl) 0 53 j3 _ 1 24 Try.underlying48 hj3 hy30 hy31 hy32 rfl (by omega) vj k _ (by rfl) ((HOJ.out.alloc _).drew)
                  ⟨wr.heap.size, 0, none⟩ 1 1 [.slice a3 L.names.length q3] (by rfl) (by rfl) (World.news_of_block (cs := #[.slice a3 L.names.length q3]) (t := 53) (fr := (0, 0)) ?nb) (by simp [Value.oneCell'])
                  (by omega) (by unfold maxLen; omega) (by omega) (by simp) (wr.heap.size + 1) (by simp) ?_
              case nb => exact heap_alloc_new wr _
              intro gg cap w1 hown1 hgrow hat hlt'
              have cm1 : w1.cell? ⟨p, 7, none⟩ = some vm := by rw [hgrow.cell_far _ (by simp; omega) (Ne.symm NJ)]; exact cell_keep cm
              refine hK.out _ _ ⟨fun h => absurd h (by decide), fun _ => cm1⟩ ?_
              clear hK K
              try simp only [Act.put, List.setIfInBounds_toArray, List.set_cons_zero, List.set_cons_succ]
              have hs1 := hgrow.size
              have hx1 : wr.heap.size + 1 ≤ w1.heap.size := by simpa using hs1
              have hom1 : w1.ownsRow 0 53 1 vm k rm := ((HOM.out.alloc _).drew).kept hgrow (apart_symm HA.out)
              have HOM1 := Lib.hid hom1; have HG1 := Lib.hid hgrow; have HOW1 := Lib.hid hown1; have HAT := Lib.hid hat; clear hom1 hgrow hown1 hat hs1
              refine G_ready [14] (by kernel_rfl) (by simp) ?_
              refine AllG.cons (o := ⟨some 83, _, _, _, _, _⟩) rfl (fun K hK => ?_) AllG.nil
              go_simp
              refine hK.out _ _ ⟨fun h => absurd h (by decide), fun _ => cell_keep cm1⟩ ?_
              clear hK K
              try simp only [Act.put, List.setIfInBounds_toArray, List.set_cons_zero, List.set_cons_succ]
              refine G_ready [15] (by kernel_rfl) (by simp) ?_
              refine AllG.cons (o := ⟨some 84, _, _, _, _, _⟩) rfl (fun K hK => ?_) AllG.nil
              refine step_append_lies _ (by rfl) _ _ _ (by rfl) 0 53 j3 _ 1 24 Try.underlying48 hj3 hy30 hy31 hy32 rfl (by omega) vm k _ (by rfl) (HOM1.out.alloc _)
                  ⟨w1.heap.size, 0, none⟩ 1 1 [.slice a4 L.names.length q4] (by rfl) (by rfl) (World.news_of_block (cs := #[.slice a4 L.names.length q4]) (t := 53) (fr := (0, 0)) ?nb) (by simp [Value.oneCell'])
                  (by omega) (by unfold maxLen; omega) (by omega) (by simp) (w1.heap.size + 1) (by simp) ?_
              case nb => exact heap_alloc_new w1 _
              intro gh cap2 w2 hown2 hgrow2 hat2 hlt2'
              have FIN : Fin10 wr w2 vj vm (.slice (some ⟨gg, 0, none⟩) (k + 1) cap) (.slice (some ⟨gh, 0, none⟩) (k + 1) cap2) k (rj ++ [.slice a3 L.names.length q3]) (rm ++ [.slice a4 L.names.length q4]) :=
                Fin10.mk2 (W1 := (wr.alloc (.cells #[.slice a3 L.names.length q3] 53)).drew) (W2 := w1.alloc (.cells #[.slice a4 L.names.length q4] 53))  HOJ.out HOM.out HA.out (((Below.refl _ _).alloc (Nat.le_refl _) _).drew) HG1.out HOW1.out HAT.out (by omega) ((Below.refl _ _).alloc (Nat.le_refl _) _) hgrow2 hown2 hat2 (by omega)
              clear hown2 hgrow2 hat2 hlt2' HG1 HOW1 HAT
              have HX := FIN.stored p hpo hB HP.out NJ NM
              have z6 : w2.cell? ⟨p, 6, none⟩ = some vj := HX.1
              have z7 : w2.cell? ⟨p, 7, none⟩ = some vm := HX.2.1
              have y6 := HX.2.2.1; have y7 := HX.2.2.2
              clear HX
              have HFIN := Lib.hid (fin_rel FIN hpo hB HP.out NJ NM HOJ.out HOM.out HRJ'.out HRM'.out HO3.out HO4.out HG.out HNJ.out HNM.out E2.out E3.out hk hlt)
              clear FIN
              refine hK.out _ _ ⟨fun h => absurd h (by decide), fun h => absurd h (by decide)⟩ ?_
              clear hK K
              try simp only [Act.put, List.setIfInBounds_toArray, List.set_cons_zero, List.set_cons_succ]
              have HS : ∀ w', S10 p vj vm (Array.replicate 22 true) w' := fun _ => ⟨fun h => absurd h (by decide), fun h => absurd h (by decide)⟩
              refine G_pure (i := 16) (oi := ⟨some 85, _, _, _, _, _⟩) rfl (by kernel_rfl) (by kernel_rfl) (by kernel_rfl) (fun _ _ _ h => h) (fun _ _ => by simp [S10]) (Or.inl ⟨by rfl, fun w _ => by go_simp; try rfl⟩) ⟨fun h => absurd h (by decide), fun h => absurd h (by decide)⟩ ?_
              try simp only [Act.put, List.setIfInBounds_toArray, List.set_cons_zero, List.set_cons_succ]
              refine G_pure (i := 17) (oi := ⟨some 86, _, _, _, _, _⟩) rfl (by kernel_rfl) (by kernel_rfl) (by kernel_rfl) (fun _ _ _ h => h) (fun _ _ => by simp [S10]) (Or.inl ⟨by rfl, fun w _ => by go_simp; try rfl⟩) ⟨fun h => absurd h (by decide), fun h => absurd h (by decide)⟩ ?_
              try simp only [Act.put, List.setIfInBounds_toArray, List.set_cons_zero, List.set_cons_succ]
              refine G_ready [18] (by kernel_rfl) (by simp) ?_
              refine AllG.cons (o := ⟨none, _, _, _, _, _⟩) rfl (fun K hK => ?_) AllG.nil
              go_simp
              refine hK.out _ _ ⟨fun h => absurd h (by decide), fun h => absurd h (by decide)⟩ ?_
              clear hK K
              try simp only [Act.put, List.setIfInBounds_toArray, List.set_cons_zero, List.set_cons_succ]
              refine G_pure (i := 19) (oi := ⟨some 87, _, _, _, _, _⟩) rfl (by kernel_rfl) (by kernel_rfl) (by kernel_rfl) (fun _ _ _ h => h) (fun _ _ => by simp [S10]) (Or.inl ⟨by rfl, fun w _ => by go_simp; try rfl⟩) ⟨fun h => absurd h (by decide), fun h => absurd h (by decide)⟩ ?_
              try simp only [Act.put, List.setIfInBounds_toArray, List.set_cons_zero, List.set_cons_succ]
              refine G_pure (i := 20) (oi := ⟨some 88, _, _, _, _, _⟩) rfl (by kernel_rfl) (by kernel_rfl) (by kernel_rfl) (fun _ _ _ h => h) (fun _ _ => by simp [S10]) (Or.inl ⟨by rfl, fun w _ => by go_simp; try rfl⟩) ⟨fun h => absurd h (by decide), fun h => absurd h (by decide)⟩ ?_
              try simp only [Act.put, List.setIfInBounds_toArray, List.set_cons_zero, List.set_cons_succ]
              refine G_ready [21] (by kernel_rfl) (by simp) ?_
              refine AllG.cons (o := ⟨none, _, _, _, _, _⟩) rfl (fun K hK => ?_) AllG.nil
              go_simp
              refine hK.out _ _ ⟨fun h => absurd h (by decide), fun h => absurd h (by decide)⟩ ?_
              clear hK K
              try simp only [Act.put, List.setIfInBounds_toArray, List.set_cons_zero, List.set_cons_succ]
              refine G_done (by kernel_rfl) (NoPanic.normal ?_) _
              go_wp2
              go_roundw
              case rel => exact ⟨k + 1, _, _, by omega, by go_num, HFIN.out.1, HFIN.out.2.1, HFIN.out.2.2.1, HFIN.out.2.2.2.1, HFIN.out.2.2.2.2.1, HFIN.out.2.2.2.2.2.1, HFIN.out.2.2.2.2.2.2⟩
              case measure => simp [intOf]; omega
            · go_simp
              refine hK.out _ _ ⟨fun _ => cell_keep (cell_keep cj), fun _ => cell_keep (cell_keep cm)⟩ ?_
              clear hK K
              try simp only [Act.put, List.setIfInBounds_toArray, List.set_cons_zero, List.set_cons_succ]
              refine G_ready [8] (by kernel_rfl) (by simp) ?_
              refine AllG.cons (o := ⟨some 77, _, _, _, _, _⟩) rfl (fun K hK => ?_) AllG.nil
              refine step_append_lies _ (by rfl) _ _ _ (by rfl) 0 53 j3 _ 1 24 Try.underlying48 hj3 hy30 hy31 hy32 rfl (by omega) vj k _ (by rfl) (((HOJ.out.alloc _).alloc _).drew)
                  ⟨wr.heap.size, 0, none⟩ 1 1 [.slice a3 L.names.length q3] (by rfl) (by rfl) (World.news_of_block (cs := #[.slice a3 L.names.length q3]) (t := 53) (fr := (0, 0)) ?nb) (by simp [Value.oneCell'])
                  (by omega) (by unfold maxLen; omega) (by omega) (by simp) (wr.heap.size + 2) (by simp) ?_
              case nb => exact heap_first wr _ _
              intro gg cap w1 hown1 hgrow hat hlt'
              have cm1 : w1.cell? ⟨p, 7, none⟩ = some vm := by rw [hgrow.cell_far _ (by simp; omega) (Ne.symm NJ)]; exact cell_keep (cell_keep cm)
              refine hK.out _ _ ⟨fun h => absurd h (by decide), fun _ => cm1⟩ ?_
              clear hK K
              try simp only [Act.put, List.setIfInBounds_toArray, List.set_cons_zero, List.set_cons_succ]
              have hs1 := hgrow.size
              have hx1 : wr.heap.size + 2 ≤ w1.heap.size := by simpa using hs1
              have hom1 : w1.ownsRow 0 53 1 vm k rm := (((HOM.out.alloc _).alloc _).drew).kept hgrow (apart_symm HA.out)
              have hb4 : w1.heap[wr.heap.size + 1]? = some (.cells #[.slice a4 L.names.length q4] 53) := by rw [hgrow.block _ (by simp <;> omega) (by intro e; have := (HOJ.out.lt _ e.symm).2; omega)]; exact heap_second wr _ _
              have HB4 := Lib.hid hb4; have HOM1 := Lib.hid hom1; have HG1 := Lib.hid hgrow; have HOW1 := Lib.hid hown1; have HAT := Lib.hid hat; clear hb4 hom1 hgrow hown1 hat hs1
              refine G_ready [15] (by kernel_rfl) (by simp) ?_
              refine AllG.cons (o := ⟨some 84, _, _, _, _, _⟩) rfl (fun K hK => ?_) AllG.nil
              refine step_append_lies _ (by rfl) _ _ _ (by rfl) 0 53 j3 _ 1 24 Try.underlying48 hj3 hy30 hy31 hy32 rfl (by omega) vm k _ (by rfl) (HOM1.out)
                  ⟨wr.heap.size + 1, 0, none⟩ 1 1 [.slice a4 L.names.length q4] (by rfl) (by rfl) (World.news_of_block (cs := #[.slice a4 L.names.length q4]) (t := 53) (fr := (0, 0)) ?nb) (by simp [Value.oneCell'])
                  (by omega) (by unfold maxLen; omega) (by omega) (by simp) (w1.heap.size) (by simp) ?_
              case nb => exact HB4.out
              intro gh cap2 w2 hown2 hgrow2 hat2 hlt2'
              have FIN : Fin10 wr w2 vj vm (.slice (some ⟨gg, 0, none⟩) (k + 1) cap) (.slice (some ⟨gh, 0, none⟩) (k + 1) cap2) k (rj ++ [.slice a3 L.names.length q3]) (rm ++ [.slice a4 L.names.length q4]) :=
                Fin10.mk2 (W1 := ((wr.alloc (.cells #[.slice a3 L.names.length q3] 53)).alloc (.cells #[.slice a4 L.names.length q4] 53)).drew) (W2 := w1)  HOJ.out HOM.out HA.out ((((Below.refl _ _).alloc (Nat.le_refl _) _).alloc (by simp) _).drew) HG1.out HOW1.out HAT.out (by omega) (Below.refl _ _) hgrow2 hown2 hat2 (by omega)
              clear hown2 hgrow2 hat2 hlt2' HG1 HOW1 HAT HB4
              have HX := FIN.stored p hpo hB HP.out NJ NM
              have z6 : w2.cell? ⟨p, 6, none⟩ = some vj := HX.1
              have z7 : w2.cell? ⟨p, 7, none⟩ = some vm := HX.2.1
              have y6 := HX.2.2.1; have y7 := HX.2.2.2
              clear HX
              have HFIN := Lib.hid (fin_rel FIN hpo hB HP.out NJ NM HOJ.out HOM.out HRJ'.out HRM'.out HO3.out HO4.out HG.out HNJ.out HNM.out E2.out E3.out hk hlt)
              clear FIN
              refine hK.out _ _ ⟨fun h => absurd h (by decide), fun h => absurd h (by decide)⟩ ?_
              clear hK K
              try simp only [Act.put, List.setIfInBounds_toArray, List.set_cons_zero, List.set_cons_succ]
              have HS : ∀ w', S10 p vj vm (Array.replicate 22 true) w' := fun _ => ⟨fun h => absurd h (by decide), fun h => absurd h (by decide)⟩
              refine G_pure (i := 16) (oi := ⟨some 85, _, _, _, _, _⟩) rfl (by kernel_rfl) (by kernel_rfl) (by kernel_rfl) (fun _ _ _ h => h) (fun _ _ => by simp [S10]) (Or.inl ⟨by rfl, fun w _ => by go_simp; try rfl⟩) ⟨fun h => absurd h (by decide), fun h => absurd h (by decide)⟩ ?_
              try simp only [Act.put, List.setIfInBounds_toArray, List.set_cons_zero, List.set_cons_succ]
              refine G_pure (i := 17) (oi := ⟨some 86, _, _, _, _, _⟩) rfl (by kernel_rfl) (by kernel_rfl) (by kernel_rfl) (fun _ _ _ h => h) (fun _ _ => by simp [S10]) (Or.inl ⟨by rfl, fun w _ => by go_simp; try rfl⟩) ⟨fun h => absurd h (by decide), fun h => absurd h (by decide)⟩ ?_
              try simp only [Act.put, List.setIfInBounds_toArray, List.set_cons_zero, List.set_cons_succ]
              refine G_ready [18] (by kernel_rfl) (by simp) ?_
              refine AllG.cons (o := ⟨none, _, _, _, _, _⟩) rfl (fun K hK => ?_) AllG.nil
              go_simp
              refine hK.out _ _ ⟨fun h => absurd h (by decide), fun h => absurd h (by decide)⟩ ?_
              clear hK K
              try simp only [Act.put, List.setIfInBounds_toArray, List.set_cons_zero, List.set_cons_succ]
              refine G_pure (i := 19) (oi := ⟨some 87, _, _, _, _, _⟩) rfl (by kernel_rfl) (by kernel_rfl) (by kernel_rfl) (fun _ _ _ h => h) (fun _ _ => by simp [S10]) (Or.inl ⟨by rfl, fun w _ => by go_simp; try rfl⟩) ⟨fun h => absurd h (by decide), fun h => absurd h (by decide)⟩ ?_
              try simp only [Act.put, List.setIfInBounds_toArray, List.set_cons_zero, List.set_cons_succ]
              refine G_pure (i := 20) (oi := ⟨some 88, _, _, _, _, _⟩) rfl (by kernel_rfl) (by kernel_rfl) (by kernel_rfl) (fun _ _ _ h => h) (fun _ _ => by simp [S10]) (Or.inl ⟨by rfl, fun w _ => by go_simp; try rfl⟩) ⟨fun h => absurd h (by decide), fun h => absurd h (by decide)⟩ ?_
              try simp only [Act.put, List.setIfInBounds_toArray, List.set_cons_zero, List.set_cons_succ]
              refine G_ready [21] (by kernel_rfl) (by simp) ?_
              refine AllG.cons (o := ⟨none, _, _, _, _, _⟩) rfl (fun K hK => ?_) AllG.nil
              go_simp
              refine hK.out _ _ ⟨fun h => absurd h (by decide), fun h => absurd h (by decide)⟩ ?_
              clear hK K
              try simp only [Act.put, List.setIfInBounds_toArray, List.set_cons_zero, List.set_cons_succ]
              refine G_done (by kernel_rfl) (NoPanic.normal ?_) _
              go_wp2
              go_roundw
              case rel => exact ⟨k + 1, _, _, by omega, by go_num, HFIN.out.1, HFIN.out.2.1, HFIN.out.2.2.1, HFIN.out.2.2.2.1, HFIN.out.2.2.2.2.1, HFIN.out.2.2.2.2.2.1, HFIN.out.2.2.2.2.2.2⟩
              case measure => simp [intOf]; omega
          · go_simp
            refine hK.out _ _ ⟨fun _ => cell_keep cj, fun _ => cell_keep cm⟩ ?_
            clear hK K
            try simp only [Act.put, List.setIfInBounds_toArray, List.set_cons_zero, List.set_cons_succ]
            refine G_ready [7] (by kernel_rfl) (by simp) ?_
            refine AllG.cons (o := ⟨some 76, _, _, _, _, _⟩) rfl (fun K hK => ?_) AllG.nil
            go_simp
            refine hK.out _ _ ⟨fun _ => cell_keep (cell_keep cj), fun _ => cell_keep (cell_keep cm)⟩ ?_
            clear hK K
            try simp only [Act.put, List.setIfInBounds_toArray, List.set_cons_zero, List.set_cons_succ]
            refine G_ready [8] (by kernel_rfl) (by simp) ?_
            refine AllG.cons (o := ⟨some 77, _, _, _, _, _⟩) rfl (fun K hK => ?_) AllG.nil
            refine step_append_lies _ (by rfl) _ _ _ (by rfl) 0 53 j3 _ 1 24 Try.underlying48 hj3 hy30 hy31 hy32 rfl (by omega) vj k _ (by rfl) (((HOJ.out.alloc _).alloc _).drew)
                ⟨wr.heap.size + 1, 0, none⟩ 1 1 [.slice a3 L.names.length q3] (by rfl) (by rfl) (World.news_of_block (cs := #[.slice a3 L.names.length q3]) (t := 53) (fr := (0, 0)) ?nb) (by simp [Value.oneCell'])
                (by omega) (by unfold maxLen; omega) (by omega) (by simp) (wr.heap.size + 2) (by simp) ?_
            case nb => exact heap_second wr _ _
            intro gg cap w1 hown1 hgrow hat hlt'
            have cm1 : w1.cell? ⟨p, 7, none⟩ = some vm := by rw [hgrow.cell_far _ (by simp; omega) (Ne.symm NJ)]; exact cell_keep (cell_keep cm)
            refine hK.out _ _ ⟨fun h => absurd h (by decide), fun _ => cm1⟩ ?_
            clear hK K
            try simp only [Act.put, List.setIfInBounds_toArray, List.set_cons_zero, List.set_cons_succ]
            have hs1 := hgrow.size
            have hx1 : wr.heap.size + 2 ≤ w1.heap.size := by simpa using hs1
            have hom1 : w1.ownsRow 0 53 1 vm k rm := (((HOM.out.alloc _).alloc _).drew).kept hgrow (apart_symm HA.out)
            have hb4 : w1.heap[wr.heap.size]? = some (.cells #[.slice a4 L.names.length q4] 53) := by rw [hgrow.block _ (by simp <;> omega) (by intro e; have := (HOJ.out.lt _ e.symm).2; omega)]; exact heap_first wr _ _
            have HB4 := Lib.hid hb4; have HOM1 := Lib.hid hom1; have HG1 := Lib.hid hgrow; have HOW1 := Lib.hid hown1; have HAT := Lib.hid hat; clear hb4 hom1 hgrow hown1 hat hs1
            refine G_ready [15] (by kernel_rfl) (by simp) ?_
            refine AllG.cons (o := ⟨some 84, _, _, _, _, _⟩) rfl (fun K hK => ?_) AllG.nil
            refine step_append_lies _ (by rfl) _ _ _ (by rfl) 0 53 j3 _ 1 24 Try.underlying48 hj3 hy30 hy31 hy32 rfl (by omega) vm k _ (by rfl) (HOM1.out)
                ⟨wr.heap.size, 0, none⟩ 1 1 [.slice a4 L.names.length q4] (by rfl) (by rfl) (World.news_of_block (cs := #[.slice a4 L.names.length q4]) (t := 53) (fr := (0, 0)) ?nb) (by simp [Value.oneCell'])
                (by omega) (by unfold maxLen; omega) (by omega) (by simp) (w1.heap.size) (by simp) ?_
            case nb => exact HB4.out
            intro gh cap2 w2 hown2 hgrow2 hat2 hlt2'
            have FIN : Fin10 wr w2 vj vm (.slice (some ⟨gg, 0, none⟩) (k + 1) cap) (.slice (some ⟨gh, 0, none⟩) (k + 1) cap2) k (rj ++ [.slice a3 L.names.length q3]) (rm ++ [.slice a4 L.names.length q4]) :=
              Fin10.mk2 (W1 := ((wr.alloc (.cells #[.slice a4 L.names.length q4] 53)).alloc (.cells #[.slice a3 L.names.length q3] 53)).drew) (W2 := w1)  HOJ.out HOM.out HA.out ((((Below.refl _ _).alloc (Nat.le_refl _) _).alloc (by simp) _).drew) HG1.out HOW1.out HAT.out (by omega) (Below.refl _ _) hgrow2 hown2 hat2 (by omega)
            clear hown2 hgrow2 hat2 hlt2' HG1 HOW1 HAT HB4
            have HX := FIN.stored p hpo hB HP.out NJ NM
            have z6 : w2.cell? ⟨p, 6, none⟩ = some vj := HX.1
            have z7 : w2.cell? ⟨p, 7, none⟩ = some vm := HX.2.1
            have y6 := HX.2.2.1; have y7 := HX.2.2.2
            clear HX
            have HFIN := Lib.hid (fin_rel FIN hpo hB HP.out NJ NM HOJ.out HOM.out HRJ'.out HRM'.out HO3.out HO4.out HG.out HNJ.out HNM.out E2.out E3.out hk hlt)
            clear FIN
            refine hK.out _ _ ⟨fun h => absurd h (by decide), fun h => absurd h (by decide)⟩ ?_
            clear hK K
            try simp only [Act.put, List.setIfInBounds_toArray, List.set_cons_zero, List.set_cons_succ]
            have HS : ∀ w', S10 p vj vm (Array.replicate 22 true) w' := fun _ => ⟨fun h => absurd h (by decide), fun h => absurd h (by decide)⟩
            refine G_pure (i := 16) (oi := ⟨some 85, _, _, _, _, _⟩) rfl (by kernel_rfl) (by kernel_rfl) (by kernel_rfl) (fun _ _ _ h => h) (fun _ _ => by simp [S10]) (Or.inl ⟨by rfl, fun w _ => by go_simp; try rfl⟩) ⟨fun h => absurd h (by decide), fun h => absurd h (by decide)⟩ ?_
            try simp only [Act.put, List.setIfInBounds_toArray, List.set_cons_zero, List.set_cons_succ]
            refine G_pure (i := 17) (oi := ⟨some 86, _, _, _, _, _⟩) rfl (by kernel_rfl) (by kernel_rfl) (by kernel_rfl) (fun _ _ _ h => h) (fun _ _ => by simp [S10]) (Or.inl ⟨by rfl, fun w _ => by go_simp; try rfl⟩) ⟨fun h => absurd h (by decide), fun h => absurd h (by decide)⟩ ?_
            try simp only [Act.put, List.setIfInBounds_toArray, List.set_cons_zero, List.set_cons_succ]
            refine G_ready [18] (by kernel_rfl) (by simp) ?_
            refine AllG.cons (o := ⟨none, _, _, _, _, _⟩) rfl (fun K hK => ?_) AllG.nil
            go_simp
            refine hK.out _ _ ⟨fun h => absurd h (by decide), fun h => absurd h (by decide)⟩ ?_
            clear hK K
            try simp only [Act.put, List.setIfInBounds_toArray, List.set_cons_zero, List.set_cons_succ]
            refine G_pure (i := 19) (oi := ⟨some 87, _, _, _, _, _⟩) rfl (by kernel_rfl) (by kernel_rfl) (by kernel_rfl) (fun _ _ _ h => h) (fun _ _ => by simp [S10]) (Or.inl ⟨by rfl, fun w _ => by go_simp; try rfl⟩) ⟨fun h => absurd h (by decide), fun h => absurd h (by decide)⟩ ?_
            try simp only [Act.put, List.setIfInBounds_toArray, List.set_cons_zero, List.set_cons_succ]
            refine G_pure (i := 20) (oi := ⟨some 88, _, _, _, _, _⟩) rfl (by kernel_rfl) (by kernel_rfl) (by kernel_rfl) (fun _ _ _ h => h) (fun _ _ => by simp [S10]) (Or.inl ⟨by rfl, fun w _ => by go_simp; try rfl⟩) ⟨fun h => absurd h (by decide), fun h => absurd h (by decide)⟩ ?_
            try simp only [Act.put, List.setIfInBounds_toArray, List.set_cons_zero, List.set_cons_succ]
            refine G_ready [21] (by kernel_rfl) (by simp) ?_
            refine AllG.cons (o := ⟨none, _, _, _, _, _⟩) rfl (fun K hK => ?_) AllG.nil
            go_simp
            refine hK.out _ _ ⟨fun h => absurd h (by decide), fun h => absurd h (by decide)⟩ ?_
            clear hK K
            try simp only [Act.put, List.setIfInBounds_toArray, List.set_cons_zero, List.set_cons_succ]
            refine G_done (by kernel_rfl) (NoPanic.normal ?_) _
            go_wp2
            go_roundw
            case rel => exact ⟨k + 1, _, _, by omega, by go_num, HFIN.out.1, HFIN.out.2.1, HFIN.out.2.2.1, HFIN.out.2.2.2.1, HFIN.out.2.2.2.2.1, HFIN.out.2.2.2.2.2.1, HFIN.out.2.2.2.2.2.2⟩
            case measure => simp [intOf]; omega
    · obtain rfl : k = L.names.length := by omega
      have HFE : Hid (Tab wr vj (joinTab L.up) ∧ Tab wr vm (joinTab L.down)) := by
        have h1 := HJ.out; have h2 := HM.out
        rw [List.take_of_length_le (by simp [joinTab, E2.out])] at h1
        rw [List.take_of_length_le (by simp [joinTab, E3.out])] at h2
        exact ⟨h1, h2⟩
      go_wp2_with fail
      go_end0
      exact ⟨rfl, HG.out, _, _, HP.out, HFE.out.1, HFE.out.2⟩
end Go.Proofs.Ytkgkhakjodlpgaa
