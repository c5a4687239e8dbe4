/- The state of comp.found's closure in memory: what each store, append and cut does to it. -/
import Derived.Test.YtkgkhakjodlpgaaExtA
import Derived.Test.YtkgkhakjodlpgaaCa1
import Derived.Test.YtkgkhakjodlpgaaPFound
import Derived.Test.YtkgkhakjodlpgaaWApart
import Derived.Test.YtkgkhakjodlpgaaWKept
import Derived.WalkKit
import Derived.OneCell
import Derived.Lib.Hide
namespace Go.Proofs.Ytkgkhakjodlpgaa.Ext
open Go.RowKit Go.Proofs.YtkgkhakjodlpgaaW.PrintWords

abbrev kI : Kd Int := Kd.int .i64
abbrev kL : Kd (List Int) := Kd.slice 3 kI

def visitV (B : Nat) : Value := .func (.func 87) #[] #[.pointer (some ⟨B + 9, 0, none⟩), .pointer (some ⟨B + 4, 0, none⟩), .pointer (some ⟨B + 6, 0, none⟩), .pointer (some ⟨B + 2, 0, none⟩), .pointer (some ⟨B + 8, 0, none⟩), .pointer (some ⟨B, 0, none⟩), .pointer (some ⟨B + 10, 0, none⟩), .pointer (some ⟨B + 1, 0, none⟩)]

def one (v : Value) (t : Nat) : Obj := .cells #[v] t (0, 0)
def intsO (l : List Int) : Obj := .cells (l.map (Value.int .i64)).toArray 3 (0, 0)
def boolsO (l : List Bool) : Obj := .cells (l.map Value.bool).toArray 4 (0, 0)

/-- The blocks that the closure may write: its variables, the stack's row and the outcome's. -/
def SV (B : Nat) (vs vo : Value) (k : Nat) : Prop := (B ≤ k ∧ k ≤ B + 10) ∨ vs.ownBlock = some k ∨ vo.ownBlock = some k

structure VW (w0 : World) (A : Option Addr) (n c : Nat) (w : World) (T : TS) (vs vo : Value) : Prop where
  bel : Below w0.heap.size w0 w
  hx : w.heap[w0.heap.size]? = some (one (.slice A n c) 48)
  hn : w.heap[w0.heap.size + 4]? = some (one (.slice (some ⟨w0.heap.size + 3, 0, none⟩) n n) 53)
  hl : w.heap[w0.heap.size + 6]? = some (one (.slice (some ⟨w0.heap.size + 5, 0, none⟩) n n) 53)
  ho : w.heap[w0.heap.size + 8]? = some (one (.slice (some ⟨w0.heap.size + 7, 0, none⟩) n n) 85)
  hv : w.heap[w0.heap.size + 10]? = some (one (visitV w0.heap.size) 98)
  hc : w.heap[w0.heap.size + 9]? = some (one (.int .i64 T.count) 3)
  dn : w.heap[w0.heap.size + 3]? = some (intsO T.number)
  dl : w.heap[w0.heap.size + 5]? = some (intsO T.low)
  dm : w.heap[w0.heap.size + 7]? = some (boolsO T.on)
  ln : T.number.length = n
  ll : T.low.length = n
  lm : T.on.length = n
  hs : w.heap[w0.heap.size + 2]? = some (one vs 53)
  ht : w.heap[w0.heap.size + 1]? = some (one vo 48)
  st : kI.R 3 w (w0.heap.size + 11) (fun _ => True) vs T.stack
  ou : ∃ P : Nat → Prop, Kd.S kL 53 w (w0.heap.size + 11) P vo T.out ∧ ∀ k, vs.ownBlock = some k → ¬ P k

structure StepV (B : Nat) (w : World) (vs vo : Value) (w' : World) (vs' vo' : Value) : Prop where
  bel : Below B w w'
  kept : Kept w w' (SV B vs vo)
  next : ∀ k, SV B vs' vo' k → SV B vs vo k ∨ w.heap.size ≤ k

theorem StepV.refl (B : Nat) (w : World) (vs vo : Value) : StepV B w vs vo w vs vo := ⟨Below.refl _ _, Kept.refl _ _, fun _ h => .inl h⟩
theorem StepV.trans {B : Nat} {w w1 w2 : World} {vs vo vs1 vo1 vs2 vo2 : Value} (h : StepV B w vs vo w1 vs1 vo1) (h2 : StepV B w1 vs1 vo1 w2 vs2 vo2) : StepV B w vs vo w2 vs2 vo2 :=
  ⟨h.bel.trans h2.bel, h.kept.then_ h2.kept h.next, fun k hk => by
    rcases h2.next k hk with h3 | h3
    · exact h.next k h3
    · exact .inr (Nat.le_trans h.kept.1 h3)⟩

/-- A row from a base on, where nothing from there on has turned. -/
theorem R_high {α : Type} {d : Kd α} {e base : Nat} {ok : Nat → Prop} {w w1 : World} {v : Value} {xs : List α} (h : d.R e w base ok v xs) (hm : ∀ k, base ≤ k → k < w.heap.size → ok k → w1.heap[k]? = w.heap[k]?) : d.R e w1 base ok v xs :=
  Kd.R_mono (Kd.R_move (Kd.R_bound h) (fun k hk => hm k hk.2.1 hk.2.2.1 hk.1)) (fun _ hk => hk.1)
theorem S_high {α : Type} {d : Kd α} {e base : Nat} {ok : Nat → Prop} {w w1 : World} {v : Value} {xs : List α} (h : Kd.S d e w base ok v xs) (hm : ∀ k, base ≤ k → k < w.heap.size → ok k → w1.heap[k]? = w.heap[k]?) : Kd.S d e w1 base ok v xs :=
  Kd.S_mono (Kd.S_move (Kd.S_bound h) (fun k hk => hm k hk.2.1 hk.2.2.1 hk.1)) (fun _ hk => hk.1)

variable {w0 w w' : World} {A : Option Addr} {n c : Nat} {T : TS} {vs vo : Value}

theorem VW.size (h : VW w0 A n c w T vs vo) : w0.heap.size + 10 < w.heap.size := (Array.getElem?_eq_some_iff.1 h.hv).1

/-- A data block or the count has turned. -/
theorem VW.data (h : VW w0 A n c w T vs vo) (T' : TS) (hb : Below w0.heap.size w w') (same : ∀ k, k < w.heap.size → k ≠ w0.heap.size + 9 → k ≠ w0.heap.size + 3 → k ≠ w0.heap.size + 5 → k ≠ w0.heap.size + 7 → w'.heap[k]? = w.heap[k]?)
    (hc : w'.heap[w0.heap.size + 9]? = some (one (.int .i64 T'.count) 3)) (dn : w'.heap[w0.heap.size + 3]? = some (intsO T'.number)) (dl : w'.heap[w0.heap.size + 5]? = some (intsO T'.low)) (dm : w'.heap[w0.heap.size + 7]? = some (boolsO T'.on))
    (ln : T'.number.length = n) (ll : T'.low.length = n) (lm : T'.on.length = n) (es : T'.stack = T.stack) (eo : T'.out = T.out) : VW w0 A n c w' T' vs vo ∧ StepV w0.heap.size w vs vo w' vs vo := by
  have hz := h.size
  have sm : ∀ k, w0.heap.size + 11 ≤ k → k < w.heap.size → w'.heap[k]? = w.heap[k]? := fun k h1 h2 => same k h2 (by omega) (by omega) (by omega) (by omega)
  refine ⟨⟨h.bel.trans hb, ?_, ?_, ?_, ?_, ?_, hc, dn, dl, dm, ln, ll, lm, ?_, ?_, ?_, ?_⟩, ⟨hb, ⟨hb.size, fun k hk hn => same k hk ?_ ?_ ?_ ?_⟩, fun k hk => .inl hk⟩⟩
  · rw [same _ (by omega) (by omega) (by omega) (by omega) (by omega)]; exact h.hx
  · rw [same _ (by omega) (by omega) (by omega) (by omega) (by omega)]; exact h.hn
  · rw [same _ (by omega) (by omega) (by omega) (by omega) (by omega)]; exact h.hl
  · rw [same _ (by omega) (by omega) (by omega) (by omega) (by omega)]; exact h.ho
  · rw [same _ (by omega) (by omega) (by omega) (by omega) (by omega)]; exact h.hv
  · rw [same _ (by omega) (by omega) (by omega) (by omega) (by omega)]; exact h.hs
  · rw [same _ (by omega) (by omega) (by omega) (by omega) (by omega)]; exact h.ht
  · rw [es]; exact R_high h.st (fun k h1 h2 _ => sm k h1 h2)
  · rw [eo]; obtain ⟨P, h1, h2⟩ := h.ou; exact ⟨P, S_high h1 (fun k h1 h2 _ => sm k h1 h2), h2⟩
  all_goals (intro e; subst e; exact hn (.inl (by omega)))

theorem below_set {B : Nat} (w : World) (p : Addr) (v : Value) (h : B ≤ p.block) : Below B w (w.setCell p v) := (Below.refl B w).setCell h v

theorem one_set {w : World} {b : Nat} {u v : Value} {t : Nat} (h : w.heap[b]? = some (one u t)) : (w.setCell ⟨b, 0, none⟩ v).heap[b]? = some (one v t) := one_setCell h

theorem ints_set {w : World} {b : Nat} {l : List Int} (h : w.heap[b]? = some (intsO l)) (j : Nat) (x : Int) : (w.setCell ⟨b, j, none⟩ (.int .i64 x)).heap[b]? = some (intsO (l.set j x)) := by
  simp only [World.setCell, Array.getElem?_modify, if_true, h, Option.map_some, intsO, List.map_set, List.setIfInBounds_toArray]; rfl
theorem bools_set {w : World} {b : Nat} {l : List Bool} (h : w.heap[b]? = some (boolsO l)) (j : Nat) (x : Bool) : (w.setCell ⟨b, j, none⟩ (.bool x)).heap[b]? = some (boolsO (l.set j x)) := by
  simp only [World.setCell, Array.getElem?_modify, if_true, h, Option.map_some, boolsO, List.map_set, List.setIfInBounds_toArray]; rfl

theorem far (w : World) (p : Addr) (v : Value) {k : Nat} {o : Option Obj} (hne : k ≠ p.block) (h : w.heap[k]? = o) : (w.setCell p v).heap[k]? = o := (Below.heap_setCell w p v k hne).trans h

theorem VW.setCount (h : VW w0 A n c w T vs vo) (x : Int) : VW w0 A n c (w.setCell ⟨w0.heap.size + 9, 0, none⟩ (.int .i64 x)) { T with count := x } vs vo ∧ StepV w0.heap.size w vs vo (w.setCell ⟨w0.heap.size + 9, 0, none⟩ (.int .i64 x)) vs vo :=
  h.data _ (below_set _ _ _ (by show _ ≤ w0.heap.size + 9; omega)) (fun k _ h1 _ _ _ => Below.heap_setCell _ _ _ _ h1) (one_set h.hc) (far _ _ _ (by show _ ≠ w0.heap.size + 9; omega) h.dn) (far _ _ _ (by show _ ≠ w0.heap.size + 9; omega) h.dl) (far _ _ _ (by show _ ≠ w0.heap.size + 9; omega) h.dm) h.ln h.ll h.lm rfl rfl
theorem VW.setNumber (h : VW w0 A n c w T vs vo) (j : Nat) (x : Int) : VW w0 A n c (w.setCell ⟨w0.heap.size + 3, j, none⟩ (.int .i64 x)) { T with number := T.number.set j x } vs vo ∧ StepV w0.heap.size w vs vo (w.setCell ⟨w0.heap.size + 3, j, none⟩ (.int .i64 x)) vs vo :=
  h.data _ (below_set _ _ _ (by show _ ≤ w0.heap.size + 3; omega)) (fun k _ _ h1 _ _ => Below.heap_setCell _ _ _ _ h1) (far _ _ _ (by show _ ≠ w0.heap.size + 3; omega) h.hc) (ints_set h.dn j x) (far _ _ _ (by show _ ≠ w0.heap.size + 3; omega) h.dl) (far _ _ _ (by show _ ≠ w0.heap.size + 3; omega) h.dm) (by rw [List.length_set]; exact h.ln) h.ll h.lm rfl rfl
theorem VW.setLow (h : VW w0 A n c w T vs vo) (j : Nat) (x : Int) : VW w0 A n c (w.setCell ⟨w0.heap.size + 5, j, none⟩ (.int .i64 x)) { T with low := T.low.set j x } vs vo ∧ StepV w0.heap.size w vs vo (w.setCell ⟨w0.heap.size + 5, j, none⟩ (.int .i64 x)) vs vo :=
  h.data _ (below_set _ _ _ (by show _ ≤ w0.heap.size + 5; omega)) (fun k _ _ _ h1 _ => Below.heap_setCell _ _ _ _ h1) (far _ _ _ (by show _ ≠ w0.heap.size + 5; omega) h.hc) (far _ _ _ (by show _ ≠ w0.heap.size + 5; omega) h.dn) (ints_set h.dl j x) (far _ _ _ (by show _ ≠ w0.heap.size + 5; omega) h.dm) h.ln (by rw [List.length_set]; exact h.ll) h.lm rfl rfl
theorem VW.setOn (h : VW w0 A n c w T vs vo) (j : Nat) (x : Bool) : VW w0 A n c (w.setCell ⟨w0.heap.size + 7, j, none⟩ (.bool x)) { T with on := T.on.set j x } vs vo ∧ StepV w0.heap.size w vs vo (w.setCell ⟨w0.heap.size + 7, j, none⟩ (.bool x)) vs vo :=
  h.data _ (below_set _ _ _ (by show _ ≤ w0.heap.size + 7; omega)) (fun k _ _ _ _ h1 => Below.heap_setCell _ _ _ _ h1) (far _ _ _ (by show _ ≠ w0.heap.size + 7; omega) h.hc) (far _ _ _ (by show _ ≠ w0.heap.size + 7; omega) h.dn) (far _ _ _ (by show _ ≠ w0.heap.size + 7; omega) h.dl) (bools_set h.dm j x) h.ln h.ll (by rw [List.length_set]; exact h.lm) rfl rfl

/-- Memory has been made, or orders drawn: all that was there stands. -/
theorem VW.below (h : VW w0 A n c w T vs vo) (hb : Below w.heap.size w w') : VW w0 A n c w' T vs vo ∧ StepV w0.heap.size w vs vo w' vs vo := by
  have hz := h.size
  have hb' : Below w0.heap.size w w' := hb.mono (by omega)
  exact h.data T hb' (fun k hk _ _ _ _ => hb.block k hk) ((hb.block _ (by omega)).trans h.hc) ((hb.block _ (by omega)).trans h.dn) ((hb.block _ (by omega)).trans h.dl) ((hb.block _ (by omega)).trans h.dm) h.ln h.ll h.lm rfl rfl

/-- The stack's variable and its row have turned. -/
theorem VW.stack (h : VW w0 A n c w T vs vo) (vs' : Value) (l : List Int) (hb : Below w0.heap.size w w') (same : ∀ k, k < w.heap.size → k ≠ w0.heap.size + 2 → vs.ownBlock ≠ some k → w'.heap[k]? = w.heap[k]?)
    (hs : w'.heap[w0.heap.size + 2]? = some (one vs' 53)) (st : kI.R 3 w' (w0.heap.size + 11) (fun _ => True) vs' l) (hat : vs'.ownBlock = vs.ownBlock ∨ ∃ b, vs'.ownBlock = some b ∧ w.heap.size ≤ b) :
    VW w0 A n c w' { T with stack := l } vs' vo ∧ StepV w0.heap.size w vs vo w' vs' vo := by
  have hz := h.size
  have hv : ∀ k, vs.ownBlock = some k → w0.heap.size + 11 ≤ k := fun k hk => own_base (Kd.own_of_R h.st) k hk
  have s1 : ∀ i, i ≤ 10 → i ≠ 2 → w'.heap[w0.heap.size + i]? = w.heap[w0.heap.size + i]? := fun i h1 h2 => same _ (by omega) (by omega) (fun e => by have := hv _ e; omega)
  refine ⟨⟨h.bel.trans hb, ?_, ?_, ?_, ?_, ?_, ?_, ?_, ?_, ?_, h.ln, h.ll, h.lm, hs, ?_, st, ?_⟩, ⟨hb, ⟨hb.size, fun k hk hn => same k hk ?_ ?_⟩, fun k hk => ?_⟩⟩
  · exact (s1 0 (by omega) (by omega)).trans h.hx
  · exact (s1 4 (by omega) (by omega)).trans h.hn
  · exact (s1 6 (by omega) (by omega)).trans h.hl
  · exact (s1 8 (by omega) (by omega)).trans h.ho
  · exact (s1 10 (by omega) (by omega)).trans h.hv
  · exact (s1 9 (by omega) (by omega)).trans h.hc
  · exact (s1 3 (by omega) (by omega)).trans h.dn
  · exact (s1 5 (by omega) (by omega)).trans h.dl
  · exact (s1 7 (by omega) (by omega)).trans h.dm
  · exact (s1 1 (by omega) (by omega)).trans h.ht
  · obtain ⟨P, h1, h2⟩ := h.ou
    refine ⟨fun k => P k ∧ k < w.heap.size, Kd.S_mono (Kd.S_move (Kd.S_bound h1) (fun k hk => same k hk.2.2.1 (by have := hk.2.1; omega) (fun e => h2 k e hk.1))) (fun k hk => ⟨hk.1, hk.2.2.1⟩), fun k hk hP => ?_⟩
    rcases hat with hat | ⟨b, hb1, hb2⟩
    · exact h2 k (hat ▸ hk) hP.1
    · rw [hb1] at hk; injection hk with hk; have := hP.2; omega
  · intro e; subst e; exact hn (.inl (by omega))
  · intro e; exact hn (.inr (.inl e))
  · rcases hk with hk | hk | hk
    · exact .inl (.inl hk)
    · rcases hat with hat | ⟨b, hb1, hb2⟩
      · exact .inl (.inr (.inl (hat ▸ hk)))
      · rw [hb1] at hk; injection hk with hk; exact .inr (by omega)
    · exact .inl (.inr (.inr hk))

/-- The outcome's variable and its row have turned. -/
theorem VW.outc (h : VW w0 A n c w T vs vo) (vo' : Value) (l : List (List Int)) (hb : Below w0.heap.size w w') (same : ∀ k, k < w.heap.size → k ≠ w0.heap.size + 1 → vo.ownBlock ≠ some k → w'.heap[k]? = w.heap[k]?)
    (ht : w'.heap[w0.heap.size + 1]? = some (one vo' 48)) (ou : ∃ P : Nat → Prop, Kd.S kL 53 w' (w0.heap.size + 11) P vo' l ∧ ∀ k, vs.ownBlock = some k → ¬ P k) (hat : vo'.ownBlock = vo.ownBlock ∨ ∃ b, vo'.ownBlock = some b ∧ w.heap.size ≤ b) :
    VW w0 A n c w' { T with out := l } vs vo' ∧ StepV w0.heap.size w vs vo w' vs vo' := by
  have hz := h.size
  obtain ⟨P, h1, h2⟩ := h.ou
  have hR := Kd.S_R h1
  have hv : ∀ k, vo.ownBlock = some k → w0.heap.size + 11 ≤ k := fun k hk => Kd.R_base hR k hk
  have s1 : ∀ i, i ≤ 10 → i ≠ 1 → w'.heap[w0.heap.size + i]? = w.heap[w0.heap.size + i]? := fun i h1 h2 => same _ (by omega) (by omega) (fun e => by have := hv _ e; omega)
  refine ⟨⟨h.bel.trans hb, ?_, ?_, ?_, ?_, ?_, ?_, ?_, ?_, ?_, h.ln, h.ll, h.lm, ?_, ht, ?_, ou⟩, ⟨hb, ⟨hb.size, fun k hk hn => same k hk ?_ ?_⟩, fun k hk => ?_⟩⟩
  · exact (s1 0 (by omega) (by omega)).trans h.hx
  · exact (s1 4 (by omega) (by omega)).trans h.hn
  · exact (s1 6 (by omega) (by omega)).trans h.hl
  · exact (s1 8 (by omega) (by omega)).trans h.ho
  · exact (s1 10 (by omega) (by omega)).trans h.hv
  · exact (s1 9 (by omega) (by omega)).trans h.hc
  · exact (s1 3 (by omega) (by omega)).trans h.dn
  · exact (s1 5 (by omega) (by omega)).trans h.dl
  · exact (s1 7 (by omega) (by omega)).trans h.dm
  · exact (s1 2 (by omega) (by omega)).trans h.hs
  · have hne : vs.ownBlock = none ∨ vs.ownBlock ≠ vo.ownBlock := by
      cases hvs : vs.ownBlock with
      | none => exact .inl rfl
      | some k =>
        right
        intro e
        exact h2 k hvs (hR.1 k e.symm)
    refine Kd.R_mono (Kd.R_move (Kd.R_bound (Kd.R_tight rfl h.st)) (fun k hk => same k hk.2.2.1 (by have := hk.2.1; omega) (fun e => ?_))) (fun _ _ => trivial)
    rcases hne with h3 | h3
    · have := hk.1; rw [h3] at this; cases this
    · exact h3 (by rw [e]; exact hk.1.symm)
  · intro e; subst e; exact hn (.inl (by omega))
  · intro e; exact hn (.inr (.inr e))
  · rcases hk with hk | hk | hk
    · exact .inl (.inl hk)
    · exact .inl (.inr (.inl hk))
    · rcases hat with hat | ⟨b, hb1, hb2⟩
      · exact .inl (.inr (.inr (hat ▸ hk)))
      · rw [hb1] at hk; injection hk with hk; exact .inr (by omega)

theorem VW.sv_lt (h : VW w0 A n c w T vs vo) {k : Nat} (hk : SV w0.heap.size vs vo k) : k < w.heap.size := by
  have hz := h.size
  rcases hk with hk | hk | hk
  · omega
  · exact own_lt (Kd.own_of_R h.st) k hk
  · obtain ⟨P, h1, _⟩ := h.ou; exact Kd.R_lt (Kd.S_R h1) k hk

/-- A row that the closure doesn't write. -/
theorem row_step {B base : Nat} {v vs' vo' : Value} {ks : List Int} (h : kI.R 3 w base (fun q => ¬ SV B vs vo q) v ks) (s : StepV B w vs vo w' vs' vo') : kI.R 3 w' base (fun q => ¬ SV B vs' vo' q) v ks :=
  Kd.R_mono (Kd.R_move (Kd.R_bound h) (fun k hk => s.kept.2 k hk.2.2.1 hk.1)) (fun k hk h2 => (s.next k h2).elim hk.1 (fun h3 => by have := hk.2.2.1; omega))

theorem row_new {v : Value} {ks : List Int} (h : VW w0 A n c w T vs vo) (hr : kI.R 3 w' w.heap.size (fun _ => True) v ks) : kI.R 3 w' w.heap.size (fun q => ¬ SV w0.heap.size vs vo q) v ks :=
  Kd.R_mono (Kd.R_bound hr) (fun k hk h2 => by have := h.sv_lt h2; have := hk.2.1; omega)

theorem row_cell {base k cap j : Nat} {ok : Nat → Prop} {Ak : Option Addr} {ks : List Int} (h : kI.R 3 w base ok (.slice Ak k cap) ks) (hj : j < ks.length) : ∃ g, Ak = some ⟨g, 0, none⟩ ∧ w.cell? ⟨g, j, none⟩ = some (.int .i64 (rd ks (j : Int))) := by
  rcases R_form h with ⟨_, rfl⟩ | ⟨g, cap', cur, e, hh, h3, h4, h5, h6⟩
  · simp at hj
  · injection e with e1 _ _
    refine ⟨g, e1, ?_⟩
    have h7 : (cur.toList.take ks.length)[j]? = some (.int .i64 ks[j]) := by rw [h6, List.getElem?_map, List.getElem?_eq_getElem hj]; rfl
    rw [List.getElem?_take, if_pos hj] at h7
    simp only [World.cell?, hh, rd, Int.toNat_natCast, List.getD_eq_getElem?_getD, List.getElem?_eq_getElem hj]
    simpa using h7

/-- What the walk reads. -/
theorem one_cell {b : Nat} {v : Value} {t : Nat} (h : w.heap[b]? = some (one v t)) : w.cell? ⟨b, 0, none⟩ = some v ∧ w.frozen? ⟨b, 0, none⟩ = false := ⟨by simp [World.cell?, h, one], by simp [World.frozen?, h, one]⟩
theorem ints_cell {b j : Nat} {l : List Int} (h : w.heap[b]? = some (intsO l)) (hj : j < l.length) : w.cell? ⟨b, j, none⟩ = some (.int .i64 (l.getD j 0)) ∧ w.frozen? ⟨b, j, none⟩ = false := by
  refine ⟨?_, by simp [World.frozen?, h, intsO]⟩
  simp only [World.cell?, h, intsO, List.getElem?_toArray, List.getElem?_map, List.getD_eq_getElem?_getD, List.getElem?_eq_getElem hj]; rfl
theorem bools_cell {b j : Nat} {l : List Bool} (h : w.heap[b]? = some (boolsO l)) (hj : j < l.length) : w.cell? ⟨b, j, none⟩ = some (.bool (l.getD j false)) ∧ w.frozen? ⟨b, j, none⟩ = false := by
  refine ⟨?_, by simp [World.frozen?, h, boolsO]⟩
  simp only [World.cell?, h, boolsO, List.getElem?_toArray, List.getElem?_map, List.getD_eq_getElem?_getD, List.getElem?_eq_getElem hj]; rfl

/-- The stack has grown by an append, and is stored back. -/
theorem VW.push (h : VW w0 A n c w T vs vo) {w3 : World} {v1 : Value} {l : List Int} (ho : kI.R 3 w3 (w0.heap.size + 11) (fun _ => True) v1 l) (hb : Below (w0.heap.size + 11) w w3) (hg : w.grownBy w3 vs.ownBlock) (hat : v1.ownBlock = vs.ownBlock ∨ ∃ b, v1.ownBlock = some b ∧ w.heap.size ≤ b) :
    (VW w0 A n c (w3.setCell ⟨w0.heap.size + 2, 0, none⟩ v1) { T with stack := l } v1 vo ∧ StepV w0.heap.size w vs vo (w3.setCell ⟨w0.heap.size + 2, 0, none⟩ v1) v1 vo) ∧ w3.cell? ⟨w0.heap.size + 2, 0, none⟩ = some vs ∧ w3.frozen? ⟨w0.heap.size + 2, 0, none⟩ = false := by
  have hz := h.size
  have hv : ∀ k, vs.ownBlock = some k → w0.heap.size + 11 ≤ k := fun k hk => own_base (Kd.own_of_R h.st) k hk
  have h2 : w3.heap[w0.heap.size + 2]? = some (one vs 53) := (hg.block _ (by omega) (fun e => by have := hv _ e.symm; omega)).trans h.hs
  refine ⟨h.stack v1 l ((hb.mono (by omega)).trans (below_set _ _ _ (by show _ ≤ w0.heap.size + 2; omega))) (fun k hk h1 h3 => (Below.heap_setCell _ _ _ _ h1).trans (hg.block k hk (fun e => h3 e.symm))) (one_set h2) (R_high ho (fun k hk _ _ => Below.heap_setCell _ _ _ _ (by show k ≠ w0.heap.size + 2; omega))) hat, one_cell h2⟩

theorem VW.pushOut (h : VW w0 A n c w T vs vo) {w3 : World} {v1 : Value} {l : List (List Int)} (ho : ∃ P : Nat → Prop, Kd.S kL 53 w3 (w0.heap.size + 11) P v1 l ∧ ∀ k, vs.ownBlock = some k → ¬ P k) (hb : Below (w0.heap.size + 11) w w3) (hg : w.grownBy w3 vo.ownBlock) (hat : v1.ownBlock = vo.ownBlock ∨ ∃ b, v1.ownBlock = some b ∧ w.heap.size ≤ b) :
    (VW w0 A n c (w3.setCell ⟨w0.heap.size + 1, 0, none⟩ v1) { T with out := l } vs v1 ∧ StepV w0.heap.size w vs vo (w3.setCell ⟨w0.heap.size + 1, 0, none⟩ v1) vs v1) ∧ w3.cell? ⟨w0.heap.size + 1, 0, none⟩ = some vo ∧ w3.frozen? ⟨w0.heap.size + 1, 0, none⟩ = false := by
  have hz := h.size
  have hv : ∀ k, vo.ownBlock = some k → w0.heap.size + 11 ≤ k := fun k hk => by obtain ⟨P, h1, _⟩ := h.ou; exact Kd.R_base (Kd.S_R h1) k hk
  have h2 : w3.heap[w0.heap.size + 1]? = some (one vo 48) := (hg.block _ (by omega) (fun e => by have := hv _ e.symm; omega)).trans h.ht
  obtain ⟨P, h4, h5⟩ := ho
  refine ⟨h.outc v1 l ((hb.mono (by omega)).trans (below_set _ _ _ (by show _ ≤ w0.heap.size + 1; omega))) (fun k hk h1 h3 => (Below.heap_setCell _ _ _ _ h1).trans (hg.block k hk (fun e => h3 e.symm))) (one_set h2) ⟨P, S_high h4 (fun k hk _ _ => Below.heap_setCell _ _ _ _ (by show k ≠ w0.heap.size + 1; omega)), h5⟩ hat, one_cell h2⟩

/-- The stack is cut. -/
theorem VW.cutStack (h : VW w0 A n c w T vs vo) {A1 : Option Addr} {n1 c1 : Nat} (hv : vs = .slice A1 n1 c1) (m : Nat) (hm : m ≤ T.stack.length) :
    VW w0 A n c (w.setCell ⟨w0.heap.size + 2, 0, none⟩ (.slice A1 m c1)) { T with stack := T.stack.take m } (.slice A1 m c1) vo ∧ StepV w0.heap.size w vs vo (w.setCell ⟨w0.heap.size + 2, 0, none⟩ (.slice A1 m c1)) (.slice A1 m c1) vo := by
  have hz := h.size
  subst hv
  have e : (Value.slice A1 m c1).ownBlock = (Value.slice A1 n1 c1).ownBlock := by cases A1 <;> rfl
  exact h.stack _ _ (below_set _ _ _ (by show _ ≤ w0.heap.size + 2; omega)) (fun k _ h1 _ => Below.heap_setCell _ _ _ _ h1) (one_set h.hs) (R_high (Kd.R_take h.st hm) (fun k hk _ _ => Below.heap_setCell _ _ _ _ (by show k ≠ w0.heap.size + 2; omega))) (.inl e)

theorem idxOf_mem {l : List Int} {m : Int} (h : m ∈ l) : Lib.idxOf l m = ((l.idxOf m : Nat) : Int) := by
  have hl := List.idxOf_lt_length_of_mem h
  have := Lib.idxFrom_hit m l (l.idxOf m) 0 hl (by rw [List.getD_eq_getElem?_getD, List.getElem?_eq_getElem hl]; exact List.getElem_idxOf hl) (fun j hj e => by
    have hjl : j < l.length := by omega
    rw [List.getD_eq_getElem?_getD, List.getElem?_eq_getElem hjl] at e
    have h2 := List.not_of_lt_findIdx (p := (· == m)) (xs := l) (i := j) hj
    simp at h2
    exact h2 e)
  rw [Lib.idxOf, this, Nat.zero_add]

theorem index_row {base k cap : Nat} {ok : Nat → Prop} {As : Option Addr} {l : List Int} {m : Int} (h : kI.R 3 w base ok (.slice As k cap) l) (hm : m ∈ l) :
    Calls Try.prog 88 #[.slice As l.length cap, .int .i64 m] w fun e w' => e = .returned (.int .i64 ((l.idxOf m : Nat) : Int)) ∧ w = w' := by
  have hl := List.length_pos_of_mem hm
  obtain ⟨g, rfl, _⟩ := row_cell h hl
  have hb : l.length ≤ 9223372036854775807 := by
    rcases R_form h with ⟨_, rfl⟩ | ⟨_, _, _, _, _, h3, h4, _⟩
    · simp
    · unfold maxLen at h4; omega
  have := Try.slices_Index_int g 0 l.length cap l m w (Nat.le_refl _) hb (fun j hj => by
    obtain ⟨g', e, hc⟩ := row_cell h hj
    injection e with e; injection e with e1 _ _
    rw [Nat.zero_add, e1, hc]; simp [rd])
  refine this.mono ?_
  rintro e w' ⟨rfl, rfl⟩
  rw [List.take_length, idxOf_mem hm]
  exact ⟨rfl, rfl⟩

theorem drop_C {base k cap f : Nat} {ok : Nat → Prop} {As : Option Addr} {l : List Int} (h : kI.R 3 w base ok (.slice As k cap) l) (hf : f < l.length) :
    ∃ g, As = some ⟨g, 0, none⟩ ∧ kI.C w (some ⟨g, f, none⟩) (l.drop f).length (l.drop f) ∧ l.length ≤ cap := by
  obtain ⟨g, rfl, _⟩ := row_cell h hf
  have hb : l.length ≤ 9223372036854775807 ∧ l.length ≤ cap := by
    rcases R_form h with ⟨_, rfl⟩ | ⟨_, _, _, e, _, h3, h4, _⟩
    · simp at hf
    · injection e with _ _ e; unfold maxLen at h4; omega
  refine ⟨g, rfl, ⟨rfl, by simp; omega, fun _ => ⟨_, rfl, fun j p hj => ⟨[.int .i64 p], rfl, rfl, fun i u hu => ?_⟩⟩⟩, hb.2⟩
  have hj' : f + j < l.length := by
    have := (List.getElem?_eq_some_iff.1 hj).1
    simp at this; omega
  obtain ⟨g', e, hc⟩ := row_cell h hj'
  injection e with e; injection e with e1 _ _
  rw [List.getElem?_drop, List.getElem?_eq_getElem hj'] at hj
  injection hj with hj
  match i, hu with
  | 0, hu =>
    have hu : Value.int .i64 p = u := by simpa using hu
    subst hu
    show w.cell? ((⟨g, f, none⟩ : Addr).add (j * 1 + 0)) = _
    rw [Nat.mul_one, Nat.add_zero, add_plain2, e1, hc]
    unfold rd
    rw [Int.toNat_natCast, List.getD_eq_getElem?_getD, List.getElem?_eq_getElem hj', Option.getD_some, hj]
  | i + 1, hu => simp at hu

/-- The outcome's rows lie below a bound, and apart from the stack's row. -/
def OutLow (B : Nat) (w : World) (vo : Value) (out : List (List Int)) (vs : Value) (N : Nat) : Prop :=
  ∃ P : Nat → Prop, Kd.S kL 53 w (B + 11) P vo out ∧ (∀ k, vs.ownBlock = some k → ¬ P k) ∧ ∀ k, P k → k < N

theorem VW.low (h : VW w0 A n c w T vs vo) : OutLow w0.heap.size w vo T.out vs w.heap.size := by
  obtain ⟨P, h1, h2⟩ := h.ou
  exact ⟨_, Kd.S_bound h1, fun k hk hp => h2 k hk hp.1, fun k hk => hk.2.2.1⟩
theorem OutLow.below {B N : Nat} {out : List (List Int)} (h : OutLow B w vo out vs N) (hb : Below w.heap.size w w') : OutLow B w' vo out vs N := by
  obtain ⟨P, h1, h2⟩ := h
  exact ⟨P, Kd.S_below h1 hb, h2⟩
theorem OutLow.set {B N : Nat} {out : List (List Int)} (h : OutLow B w vo out vs N) (p : Addr) (hp : p.block ≤ B + 10) (v : Value) : OutLow B (w.setCell p v) vo out vs N := by
  obtain ⟨P, h1, h2⟩ := h
  exact ⟨P, S_high h1 (fun k hk _ _ => Below.heap_setCell _ _ _ _ (by omega)), h2⟩
theorem OutLow.cut {B N : Nat} {out : List (List Int)} {A1 : Option Addr} {n1 c1 : Nat} (h : OutLow B w vo out (.slice A1 n1 c1) N) (m : Nat) : OutLow B w vo out (.slice A1 m c1) N := by
  obtain ⟨P, h1, h2, h3⟩ := h
  have e : (Value.slice A1 m c1).ownBlock = (Value.slice A1 n1 c1).ownBlock := by cases A1 <;> rfl
  exact ⟨P, h1, fun k hk => h2 k (e ▸ hk), h3⟩
theorem OutLow.kept {B N : Nat} {out : List (List Int)} {S : Nat → Prop} (h : OutLow B w vo out vs N) (hk : Kept w w' S) (hS : ∀ q, S q → N ≤ q) : OutLow B w' vo out vs N := by
  obtain ⟨P, h1, h2, h3⟩ := h
  exact ⟨P, Kd.S_kept h1 hk (fun k hp hs => by have := h3 k hp; have := hS k hs; omega), h2, h3⟩

theorem R_up {base base' : Nat} {ok : Nat → Prop} {v : Value} {l : List Int} (h : kI.R 3 w base ok v l) (h2 : ∀ k, v.ownBlock = some k → base' ≤ k) : kI.R 3 w base' ok v l := by
  have h0 := h.1
  have ho := Kd.own_of_R h
  refine Kd.R_of_own ?_ h0
  obtain ⟨e, h3⟩ := ho
  refine ⟨e, ?_⟩
  rcases h3 with h3 | ⟨g, cap, cur, e1, h4, h5⟩
  · exact .inl h3
  · exact .inr ⟨g, cap, cur, e1, h2 g (by rw [e1]; rfl), h5⟩

theorem below_two {B : Nat} {w0 w w' : World} (h1 : Below B w0 w) (h2 : Below B w0 w') (hs : w.heap.size ≤ w'.heap.size) : Below B w w' :=
  ⟨h2.os.trans h1.os.symm, h2.tape.trans h1.tape.symm, h2.output.trans h1.output.symm, hs, fun k hk => (h2.block k hk).trans (h1.block k hk).symm⟩

/-- A row that the closure has made of late is sorted: the state stands. -/
theorem VW.sorted (h : VW w0 A n c w T vs vo) {N : Nat} {S : Nat → Prop} (hl : OutLow w0.heap.size w vo T.out vs N) (hN : w0.heap.size + 11 ≤ N) (hb : Below w0.heap.size w0 w') (hk : Kept w w' S) (hS : ∀ q, S q → N ≤ q ∧ ¬ SV w0.heap.size vs vo q) : VW w0 A n c w' T vs vo := by
  have hz := h.size
  have s1 : ∀ i, i ≤ 10 → w'.heap[w0.heap.size + i]? = w.heap[w0.heap.size + i]? := fun i h1 => hk.2 _ (by omega) (fun hs => by have := (hS _ hs).1; omega)
  obtain ⟨P, q1, q2, q3⟩ := hl.kept hk (fun q hq => (hS q hq).1)
  refine ⟨hb, ?_, ?_, ?_, ?_, ?_, ?_, ?_, ?_, ?_, h.ln, h.ll, h.lm, ?_, ?_, ?_, ⟨P, q1, q2⟩⟩
  · exact (s1 0 (by omega)).trans h.hx
  · exact (s1 4 (by omega)).trans h.hn
  · exact (s1 6 (by omega)).trans h.hl
  · exact (s1 8 (by omega)).trans h.ho
  · exact (s1 10 (by omega)).trans h.hv
  · exact (s1 9 (by omega)).trans h.hc
  · exact (s1 3 (by omega)).trans h.dn
  · exact (s1 5 (by omega)).trans h.dl
  · exact (s1 7 (by omega)).trans h.dm
  · exact (s1 2 (by omega)).trans h.hs
  · exact (s1 1 (by omega)).trans h.ht
  · exact Kd.R_mono (Kd.R_kept (Kd.R_tight rfl h.st) hk (fun k he hs => (hS k hs).2 (.inr (.inl he.symm)))) (fun _ _ => trivial)
end Go.Proofs.Ytkgkhakjodlpgaa.Ext
