/- Channels: the keys of the map, sorted. -/
import Derived.Test.YtckpffkofeoinaaGreatDoorWds
import Derived.Test.YtckpffkofeoinaaGreatDoorIter
import Derived.StillTailTactics
namespace Go.Proofs.YtckpffkofeoinaaGreatDoor
open Go.RowKit Go.Maps

/-- The channels, rising. -/
def chansB (r : RS) : List (List UInt8) := (r.of.map (·.1.data.toList)).mergeSort Go.leB
def chansL (r : RS) : List ByteArray := (chansB r).map mkB

theorem ofAt_isSome {l : List (ByteArray × Nat)} {c : ByteArray} : (ofAt l c).isSome = true ↔ c ∈ l.map (·.1) := by
  rcases h : ofAt l c with _ | n
  · simp only [Option.isSome_none, Bool.false_eq_true, false_iff]
    exact ofAt_none.1 h
  · simp only [Option.isSome_some, true_iff]
    exact Classical.byContradiction fun hn => by rw [ofAt_none.2 hn] at h; cases h

theorem keys_nodup {l : List (ByteArray × Nat)} (h : (l.map (·.1)).Nodup) : (l.map (·.1.data.toList)).Nodup := by
  rw [List.Nodup, List.pairwise_map] at h ⊢
  exact h.imp fun hne e => hne (data_inj e)

theorem keys_perm {w : World} {b n : Nat} {D : DataW Unit} {l : List (ByteArray × Nat)} (hown : w.ownsMap Tryz.prog 9 elemI b n D) (hD : ∀ c, has D (keyL c) = (ofAt l c).isSome) (hnd : (l.map (·.1)).Nodup) :
    (l.map (·.1.data.toList)).Perm (strKeys D) ∧ Maps.size D = l.length := by
  obtain ⟨es, rfl, hpw, _⟩ := hown.entries klaw
  obtain ⟨es', hD', hko⟩ := hown.keysOf
  obtain rfl : es = es' := by simpa using hD'
  have hp := perm_strKeys (es := es) hpw (fun p hp => by obtain ⟨v, hv⟩ := hko p hp; obtain ⟨x, _, hx, _⟩ := Maps.keyOf_str Tryz.underlying9 hv; exact ⟨x, hx⟩) (keys_nodup hnd) (fun x => by
    have h1 := hD (mkB x)
    rw [show keyL (mkB x) = .string x by unfold keyL; rw [data_mkB]] at h1
    rw [h1, ofAt_isSome, List.mem_map, List.mem_map]
    constructor
    · rintro ⟨q, hq, e⟩; exact ⟨q, hq, by rw [← e, mkB_data]⟩
    · rintro ⟨q, hq, e⟩; exact ⟨q, hq, by rw [e, data_mkB]⟩)
  refine ⟨hp, ?_⟩
  have h2 := hp.length_eq
  have h3 : (strKeys (.map es : DataW Unit)).length = es.length := by simp [strKeys]
  rw [h3, List.length_map] at h2
  exact h2.symm

theorem enc_mk (x : List UInt8) : encStr x = .string (mkB x) := rfl

set_option maxHeartbeats 1000000 in
set_option maxRecDepth 100000 in
theorem channels_any (p : Nat) (r : RS) (w : World) (h : Pol w p r) (hnd : (r.of.map (·.1)).Nodup) (hsz : r.of.length ≤ 1000000) :
    Calls Tryz.prog 12 #[.pointer (some ⟨p, 0, none⟩)] w fun e w' => ∃ v', e = .returned v' ∧ Hid (w'.ownsRow w.heap.size 9 1 v' (chansL r).length ((chansL r).map Value.string)) ∧ Below w.heap.size w w' := by
  obtain ⟨l, b, h1, _, ⟨D, h3, h4⟩, _⟩ := h
  have c1 : w.cell? ⟨p, 1, none⟩ = some (.map (some b)) := by simp [World.cell?, h1]
  obtain ⟨hp, hs⟩ := keys_perm h3 (fun c => (h4 c).1) hnd
  have hfin : ∀ ss : List (List UInt8), ss.Perm (strKeys D) → (ss.mergeSort (fun x y => decide (x ≤ y))).map encStr = (chansL r).map Value.string ∧ ss.length = (chansL r).length := fun ss hss => by
    have e1 : ss.mergeSort (fun x y => decide (x ≤ y)) = chansB r := mergeSort_of_perm (hss.trans hp.symm)
    refine ⟨?_, ?_⟩
    · rw [e1]; unfold chansL; rw [List.map_map]; rfl
    · rw [← List.length_mergeSort (le := fun x y => decide (x ≤ y)) ss, e1]; simp [chansL]
  have HF := Lib.hid hfin
  have HS : Hid (CallsIn Fence.wide 5 Tryz.prog 27 #[.func (.func 57) #[] #[.pointer (some ⟨w.heap.size, 0, none⟩)]] (w.alloc (.cells #[.map (some b)] 47)) fun e w' => ∃ (v : Value) (ss : List (List UInt8)), e = .returned v ∧ ss.Perm (strKeys D) ∧
      w'.ownsRow (w.alloc (.cells #[.map (some b)] 47)).heap.size 9 1 v ss.length ((ss.mergeSort (fun x y => decide (x ≤ y))).map encStr) ∧ (v = .slice none 0 0 ↔ ss = []) ∧ Below (w.alloc (.cells #[.map (some b)] 47)).heap.size (w.alloc (.cells #[.map (some b)] 47)) w') :=
    Tryz.slices_Sorted_keys_27_28 b _ D elemI w h3 (by rw [hs]; unfold maxLen; omega) (by rw [hs]; omega)
  clear hfin hs hp h3 h4 h1 hnd
  refine (callsIn_wide (n := 6)).1 ?_
  have hfK : Fence.wide.fn 28 := trivial
  have hfS : Fence.wide.fn 27 := trivial
  refine callsIn_of_wp Tryz.func12 rfl trivial ?_ rfl
  simp only [Tryz.ntmps12, List.size_toArray, List.length_cons, List.length_nil, Nat.reduceAdd, Nat.reduceSub, Array.replicate_succ, Array.replicate_zero, List.push_toArray, List.append_toArray, List.nil_append, List.cons_append]
  gi_wp2_with (first
    | (gi_at_call 28; refine (Tryz.maps_Keys_28 _ _).mono ?_; rintro e w' ⟨rfl, rfl⟩)
    | (gi_at_call 27; refine HS.out.mono ?_; rintro e w' ⟨v, ss, rfl, hS, hrow, hnil, hb⟩; have HSS := Lib.hid hS; have HR := Lib.hid hrow; have HB := Lib.hid hb; clear hS hrow hnil hb))
  go_ret
  obtain ⟨e1, e2⟩ := HF.out ss HSS.out
  have hrow := HR.out
  rw [e1, e2] at hrow
  exact ⟨v, rfl, owns_base hrow (by simp), ((Below.refl _ w).alloc (Nat.le_refl _) _).trans (HB.out.mono (by simp))⟩
end Go.Proofs.YtckpffkofeoinaaGreatDoor

/- The reader as it lies in memory. -/
namespace Go.Proofs.YtckpffkofeoinaaGreatDoor
open Go.RowKit Go.Maps

/-- The reader r lies in block p, its map in block b; its rows lie from block 'base' on. -/
def RdSt (base p b : Nat) (r : RS) (w : World) : Prop :=
  ∃ vn vb, w.heap[p]? = some (.cells #[vn, vb, .map (some b)] 50 (0, 0)) ∧ w.ownsRow base 9 1 vn r.names.length (r.names.map Value.string) ∧
    w.ownsRow base 107 2 vb r.below.length (strs2 r.below) ∧ OfIs w b r.of ∧ p < base ∧ b < base ∧ p ≠ b ∧ base ≤ w.heap.size

/-- Of the blocks below 'base' only p and b may have turned. -/
structure Turn (base p b : Nat) (w w' : World) : Prop where
  os : w'.os = w.os
  tape : w'.tape = w.tape
  output : w'.output = w.output
  size : w.heap.size ≤ w'.heap.size
  block : ∀ k, k < base → k ≠ p → k ≠ b → w'.heap[k]? = w.heap[k]?

theorem Turn.of_below {base p b B : Nat} {w w' : World} (h : Below B w w') (hb : base ≤ B) : Turn base p b w w' := ⟨h.os, h.tape, h.output, h.size, fun k hk _ _ => h.block k (by omega)⟩
theorem Turn.trans {base p b : Nat} {w w' w'' : World} (h : Turn base p b w w') (h' : Turn base p b w' w'') : Turn base p b w w'' :=
  ⟨h'.os.trans h.os, h'.tape.trans h.tape, h'.output.trans h.output, Nat.le_trans h.size h'.size, fun k a b c => (h'.block k a b c).trans (h.block k a b c)⟩

theorem RdSt.below {base p b : Nat} {r : RS} {w w' : World} (h : RdSt base p b r w) (hb : Below w.heap.size w w') : RdSt base p b r w' := by
  obtain ⟨vn, vb, h1, h2, h3, h4, h5, h6, h7, h8⟩ := h
  exact ⟨vn, vb, by rw [hb.block p (lt_of_block h1)]; exact h1, owns_below h2 hb, owns_below h3 hb, h4.below hb, h5, h6, h7, Nat.le_trans h8 hb.size⟩

theorem RdSt.base_le {base p b : Nat} {r : RS} {w : World} (h : RdSt base p b r w) : base ≤ w.heap.size := by
  obtain ⟨vn, vb, h1, h2, h3, h4, h5, h6, h7, h8⟩ := h; exact h8

theorem own_ne_of_base {w : World} {base e size n q : Nat} {v : Value} {xs : List Value} (h : w.ownsRow base e size v n xs) (hq : q < base) : v.ownBlock ≠ some q := fun he => by
  obtain ⟨_, ⟨rfl, rfl⟩ | ⟨g, cap, cur, rfl, hb, _⟩⟩ := h
  · simp [Value.ownBlock] at he
  · simp [Value.ownBlock] at he; omega

/-- Two rows of different element types are two blocks. -/
theorem owns_apart {w : World} {base base' e e' size size' n m : Nat} {v u : Value} {xs ys : List Value} (h : w.ownsRow base e size v n xs) (h' : w.ownsRow base' e' size' u m ys) (he : e ≠ e') : u.ownBlock = none ∨ u.ownBlock ≠ v.ownBlock := by
  obtain ⟨_, ⟨rfl, rfl⟩ | ⟨g, cap, cur, rfl, hb, hh, _⟩⟩ := h
  · rcases Classical.em (u.ownBlock = none) with e | e
    · exact .inl e
    · exact .inr (by simpa [Value.ownBlock] using e)
  · exact .inr (by simpa [Value.ownBlock] using owns_ne h' hh he)

theorem set_first {w : World} {p : Nat} {x y z u : Value} {T : Nat} (h : w.heap[p]? = some (.cells #[x, y, z] T (0, 0))) : (w.setCell ⟨p, 0, none⟩ u).heap[p]? = some (.cells #[u, y, z] T (0, 0)) := by
  rw [World.setCell, Array.getElem?_modify, h]; simp
theorem set_second {w : World} {p : Nat} {x y z u : Value} {T : Nat} (h : w.heap[p]? = some (.cells #[x, y, z] T (0, 0))) : (w.setCell ⟨p, 1, none⟩ u).heap[p]? = some (.cells #[x, u, z] T (0, 0)) := by
  rw [World.setCell, Array.getElem?_modify, h]; simp

theorem owns_set {w : World} {base e size n q : Nat} {v u : Value} {xs : List Value} (h : w.ownsRow base e size v n xs) (hq : q < base) (o : Nat) : (w.setCell ⟨q, o, none⟩ u).ownsRow base e size v n xs := by
  obtain ⟨h0, h | ⟨g, cap, cur, rfl, hb, hh, r⟩⟩ := h
  · exact ⟨h0, .inl h⟩
  · exact ⟨h0, .inr ⟨g, cap, cur, rfl, hb, by rw [Below.heap_setCell _ _ _ _ (by simp; omega)]; exact hh, r⟩⟩

theorem OfIs.set {w : World} {b q : Nat} {l : List (ByteArray × Nat)} (h : OfIs w b l) (hq : b ≠ q) (o : Nat) (u : Value) : OfIs (w.setCell ⟨q, o, none⟩ u) b l := by
  obtain ⟨D, h1, h2⟩ := h
  exact ⟨D, h1.setCell hq u, h2⟩

theorem heap_alloc_lt {w : World} {o : Obj} {q : Nat} {x : Obj} (h : w.heap[q]? = some x) : (w.alloc o).heap[q]? = some x := by
  rw [Below.heap_alloc _ _ _ (lt_of_block h)]; exact h

theorem field_keep {base e size n p T : Nat} {w1 w2 : World} {o : Obj} {cs : Array Value} {v : Value} {xs : List Value} (h1 : w1.heap[p]? = some (.cells cs T (0, 0))) (h2 : w1.ownsRow base e size v n xs) (h5 : p < base) (hg : (w1.alloc o).grownBy w2 v.ownBlock) : w2.heap[p]? = some (.cells cs T (0, 0)) := by
  rw [hg.block p (by have := lt_of_block h1; simp; omega) (fun e => own_ne_of_base h2 h5 e.symm)]; exact heap_alloc_lt h1
theorem cell_in {w : World} {p T : Nat} {x y z : Value} (h : w.heap[p]? = some (.cells #[x, y, z] T (0, 0))) : w.cell? ⟨p, 0, none⟩ = some x ∧ w.cell? ⟨p, 1, none⟩ = some y ∧ w.cell? ⟨p, 2, none⟩ = some z ∧ w.frozen? ⟨p, 0, none⟩ = false ∧ w.frozen? ⟨p, 1, none⟩ = false := by
  simp [World.cell?, World.frozen?, h]

/-- A name more. -/
theorem RdSt.named {base p b : Nat} {r : RS} {w1 w2 : World} {o : Obj} {vn vb v' : Value} {x : ByteArray} (h1 : w1.heap[p]? = some (.cells #[vn, vb, .map (some b)] 50 (0, 0)))
    (h2 : w1.ownsRow base 9 1 vn r.names.length (r.names.map Value.string)) (h3 : w1.ownsRow base 107 2 vb r.below.length (strs2 r.below)) (h4 : OfIs w1 b r.of) (h5 : p < base) (h6 : b < base) (h7 : p ≠ b) (h8 : base ≤ w1.heap.size)
    (ho : w2.ownsRow base 9 1 v' (r.names.length + 1) (r.names.map Value.string ++ [.string x])) (hg : (w1.alloc o).grownBy w2 vn.ownBlock) :
    RdSt base p b { r with names := r.names ++ [x] } (w2.setCell ⟨p, 0, none⟩ v') ∧ Turn base p b w1 (w2.setCell ⟨p, 0, none⟩ v') := by
  have hp2 : w2.heap[p]? = some (.cells #[vn, vb, .map (some b)] 50 (0, 0)) := by
    rw [hg.block p (by have := lt_of_block h1; simp; omega) (fun e => own_ne_of_base h2 h5 e.symm)]; exact heap_alloc_lt h1
  have hb2 : w2.ownsRow base 107 2 vb r.below.length (strs2 r.below) := (h3.alloc o).kept hg (owns_apart (h2.alloc o) (h3.alloc o) (by decide))
  have ho2 : OfIs w2 b r.of := (h4.kept (World.grownBy_alloc w1 o none) (by simp)).kept hg (fun e => own_ne_of_base h2 h6 e.symm)
  have hs : base ≤ w2.heap.size := by have := hg.size; simp at this; omega
  refine ⟨⟨v', vb, set_first hp2, by simpa using owns_set ho h5 0, owns_set hb2 h5 0, ho2.set (Ne.symm h7) 0 _, h5, h6, h7, by simpa [World.setCell] using hs⟩, ⟨hg.os, hg.tape, hg.output, by have := hg.size; simp [World.setCell] at this ⊢; omega, fun k hk hkp _ => ?_⟩⟩
  rw [Below.heap_setCell _ _ _ _ hkp, hg.block k (by simp; omega) (fun e => own_ne_of_base h2 hk e.symm), Below.heap_alloc _ _ _ (by omega)]

/-- A pair more. -/
theorem RdSt.paired {base p b : Nat} {r : RS} {w1 w2 : World} {o : Obj} {vn vb v' : Value} {x y : ByteArray} (h1 : w1.heap[p]? = some (.cells #[vn, vb, .map (some b)] 50 (0, 0)))
    (h2 : w1.ownsRow base 9 1 vn r.names.length (r.names.map Value.string)) (h3 : w1.ownsRow base 107 2 vb r.below.length (strs2 r.below)) (h4 : OfIs w1 b r.of) (h5 : p < base) (h6 : b < base) (h7 : p ≠ b) (h8 : base ≤ w1.heap.size)
    (ho : w2.ownsRow base 107 2 v' (r.below.length + 1) (strs2 r.below ++ [.string x, .string y])) (hg : (w1.alloc o).grownBy w2 vb.ownBlock) :
    RdSt base p b { r with below := r.below ++ [(x, y)] } (w2.setCell ⟨p, 1, none⟩ v') ∧ Turn base p b w1 (w2.setCell ⟨p, 1, none⟩ v') := by
  have hp2 : w2.heap[p]? = some (.cells #[vn, vb, .map (some b)] 50 (0, 0)) := by
    rw [hg.block p (by have := lt_of_block h1; simp; omega) (fun e => own_ne_of_base h3 h5 e.symm)]; exact heap_alloc_lt h1
  have hb2 : w2.ownsRow base 9 1 vn r.names.length (r.names.map Value.string) := (h2.alloc o).kept hg (owns_apart (h3.alloc o) (h2.alloc o) (by decide))
  have ho2 : OfIs w2 b r.of := (h4.kept (World.grownBy_alloc w1 o none) (by simp)).kept hg (fun e => own_ne_of_base h3 h6 e.symm)
  have hs : base ≤ w2.heap.size := by have := hg.size; simp at this; omega
  refine ⟨⟨vn, v', set_second hp2, owns_set hb2 h5 1, ?_, ho2.set (Ne.symm h7) 1 _, h5, h6, h7, by simpa [World.setCell] using hs⟩, ⟨hg.os, hg.tape, hg.output, by have := hg.size; simp [World.setCell] at this ⊢; omega, fun k hk hkp _ => ?_⟩⟩
  · have e : strs2 (r.below ++ [(x, y)]) = strs2 r.below ++ [.string x, .string y] := by simp [strs2]
    show World.ownsRow _ base 107 2 v' (r.below ++ [(x, y)]).length (strs2 (r.below ++ [(x, y)]))
    rw [e, List.length_append]
    exact owns_set ho h5 1
  · rw [Below.heap_setCell _ _ _ _ hkp, hg.block k (by simp; omega) (fun e => own_ne_of_base h3 hk e.symm), Below.heap_alloc _ _ _ (by omega)]

/-- A channel more. -/
theorem RdSt.channel {base p b : Nat} {r : RS} {w1 w2 : World} {vn vb : Value} {x : ByteArray} {n : Nat} (h1 : w1.heap[p]? = some (.cells #[vn, vb, .map (some b)] 50 (0, 0)))
    (h2 : w1.ownsRow base 9 1 vn r.names.length (r.names.map Value.string)) (h3 : w1.ownsRow base 107 2 vb r.below.length (strs2 r.below)) (h5 : p < base) (h6 : b < base) (h7 : p ≠ b) (h8 : base ≤ w1.heap.size)
    (ho : OfIs w2 b ((x, n) :: r.of)) (hg : w1.grownBy w2 (some b)) :
    RdSt base p b { r with of := (x, n) :: r.of } w2 ∧ Turn base p b w1 w2 := by
  refine ⟨⟨vn, vb, by rw [hg.block p (lt_of_block h1) (by simpa using h7)]; exact h1, h2.kept hg (.inr (own_ne_of_base h2 h6)), h3.kept hg (.inr (own_ne_of_base h3 h6)), ho, h5, h6, h7, Nat.le_trans h8 hg.size⟩, ⟨hg.os, hg.tape, hg.output, hg.size, fun k hk _ hkb => hg.block k (by omega) (by simpa using hkb)⟩⟩
end Go.Proofs.YtckpffkofeoinaaGreatDoor

/- (*reader).line: 'level'. -/
namespace Go.Proofs.YtckpffkofeoinaaGreatDoor
open Go.RowKit Go.Maps

theorem info_str : (Tryz.prog.info? 9).map (fun i => (i.zero, i.size, i.bytes)) = some (some (.string ⟨#[]⟩), 1, 16) := by kernel_rfl
theorem info_prs : (Tryz.prog.info? 107).map (fun i => (i.zero, i.size, i.bytes)) = some (some (.agg #[.string ⟨#[]⟩, .string ⟨#[]⟩]), 2, 32) := by kernel_rfl

/-- What line does: the error, and the reader behind it. -/
def LinePost (base p b : Nat) (w : World) (q : Int × RS) (e : Ending) (w' : World) : Prop := e = .returned (.int .i64 q.1) ∧ RdSt base p b q.2 w' ∧ Turn base p b w w'

theorem LinePost.same {base p b : Nat} {r : RS} {w w' : World} (h : RdSt base p b r w) (hb : Below w.heap.size w w') (c : Int) {e : Ending} (he : e = .returned (.int .i64 c)) : LinePost base p b w (c, r) e w' :=
  ⟨he, h.below hb, Turn.of_below hb h.base_le⟩

set_option maxRecDepth 100000 in
set_option maxHeartbeats 4000000 in
theorem line_level (base p b A c : Nat) (r : RS) (x : ByteArray) (w : World) (hx : x.size ≤ 140737488351232) (hS : RdSt base p b r w) (hr : r.names.length ≤ 100000)
    (c0 : w.cell? ⟨A, 0, none⟩ = some (.string ⟨#[108, 101, 118, 101, 108]⟩)) (c1 : w.cell? ⟨A, 1, none⟩ = some (.string x)) :
    Calls Tryz.prog 19 #[.pointer (some ⟨p, 0, none⟩), .slice (some ⟨A, 0, none⟩) 2 c] w fun e w' => LinePost base p b w (levelF r [bLevel, x]) e w' := by
  have HS := Lib.hid hS; clear hS
  have hq : levelF r [bLevel, x] = if nameOk x.data.toList = false then (3, r) else if Lib.containsS r.names x = true then (4, r) else (0, { r with names := r.names ++ [x] }) := rfl
  have HN : Hid (∀ w : World, Calls Tryz.prog 40 #[.string x] w fun e w' => e = .returned (.bool (nameOk x.data.toList)) ∧ Below w.heap.size w w') := fun w => name_any x w hx
  cases hn : nameOk x.data.toList with
  | false =>
    rw [hn] at HN
    rw [hq, if_pos hn]
    clear hn hq
    go_enter Tryz.func19, Tryz.ntmps19
    go_wp2_with (go_at_call 40; refine (HN.out _).mono ?_; rintro e w1 ⟨rfl, hb1⟩; have HB1 := Lib.hid hb1; clear hb1)
    go_ret
    exact LinePost.same HS.out HB1.out 3 rfl
  | true =>
    rw [hn] at HN
    rw [hq, if_neg (by rw [hn]; simp)]
    clear hn hq
    cases hc : Lib.containsS r.names x with
    | true =>
      rw [if_pos rfl]
      have HC := Lib.hid hc; clear hc
      go_enter Tryz.func19, Tryz.ntmps19
      go_wp2_with (go_at_call 40; refine (HN.out _).mono ?_; rintro e w1 ⟨rfl, hb1⟩; have HB1 := Lib.hid hb1; have d1 := (hb1.cell (World.block_lt_of_cell? w _ c1)).trans c1; clear hb1 c0 c1)
      have HS1 := Lib.hid (HS.out.below HB1.out)
      have HS2 := HS1.out
      obtain ⟨vn, vb, h1, h2, h3, h4, h5, h6, h7, h8⟩ := HS2
      obtain ⟨an, cn, rfl, hn1, hn2, hn3⟩ := owns_form h2
      have cp : w1.cell? ⟨p, 0, none⟩ = some (.slice an r.names.length cn) := by simp [World.cell?, h1]
      have HR := Lib.hid hn3
      clear h1 h2 h3 h4 h5 h6 h7 h8 hn3
      go_quiet ((go_at_call 41; exact Calls.quiet_of_same ((con_str _ _ _ r.names x _ (HR.out.drewN _) rfl (by omega)).mono fun e w' h => ⟨h.1.trans (by rw [HC.out]), h.2⟩)))
      go_wp2
      go_ret
      exact LinePost.same HS.out (below_drewN HB1.out _) 4 rfl
    | false =>
      rw [if_neg (by simp)]
      have HC := Lib.hid hc; clear hc
      go_enter Tryz.func19, Tryz.ntmps19
      go_wp2_with (go_at_call 40; refine (HN.out _).mono ?_; rintro e w1 ⟨rfl, hb1⟩; have HB1 := Lib.hid hb1; have d1 := (hb1.cell (World.block_lt_of_cell? w _ c1)).trans c1; clear hb1 c0 c1)
      have HS1 := Lib.hid (HS.out.below HB1.out)
      have HS2 := HS1.out
      obtain ⟨vn, vb, h1, h2, h3, h4, h5, h6, h7, h8⟩ := HS2
      have HO := Lib.hid h2
      obtain ⟨an, cn, rfl, hn1, hn2, hn3⟩ := owns_form h2
      have cp : w1.cell? ⟨p, 0, none⟩ = some (.slice an r.names.length cn) := by simp [World.cell?, h1]
      have HR := Lib.hid hn3
      have H1 := Lib.hid h1; have H3 := Lib.hid h3; have H4 := Lib.hid h4
      clear h1 h2 h3 h4 hn3
      go_quiet ((go_at_call 41; exact Calls.quiet_of_same ((con_str _ _ _ r.names x _ (HR.out.drewN _) rfl (by omega)).mono fun e w' h => ⟨h.1.trans (by rw [HC.out]), h.2⟩)))
      have HBQ : Hid (Below w.heap.size w (w1.drewN nq)) := below_drewN HB1.out _
      have HOQ : Hid ((w1.drewN nq).ownsRow base 9 1 (.slice an r.names.length cn) r.names.length (r.names.map Value.string)) := HO
      have H1Q : Hid ((w1.drewN nq).heap[p]? = some (.cells #[.slice an r.names.length cn, vb, .map (some b)] 50 (0, 0))) := H1
      have H3Q : Hid ((w1.drewN nq).ownsRow base 107 2 vb r.below.length (strs2 r.below)) := H3
      have H4Q : Hid (OfIs (w1.drewN nq) b r.of) := H4
      have H8Q : Hid (base ≤ (w1.drewN nq).heap.size) := h8
      change (w1.drewN nq).cell? _ = _ at d1 cp
      clear HO HB1 H1 H3 H4 h8 HR HS1
      generalize w1.drewN nq = wq at *
      obtain ⟨i3, hi3, hz30, hz31, hz32⟩ := info_parts info_str
      go_upto_region 7 with fail
      have hsz := HBQ.out.size
      have hsz2 := H8Q.out
      have cpa := (cell_in (heap_alloc_lt (o := .cells #[.string x] 9) H1Q.out)).1
      go_region_law (refine step_append_lies _ rfl (.tmp 35) (.tmp 39) 33 rfl base 9 i3 _ 1 16 Tryz.underlying33 hi3 hz30 hz31 hz32 rfl (by decide) (.slice an r.names.length cn) r.names.length _ (by simp [Act.eval]) (World.ownsRow.alloc (w := wq.drew) HOQ.out _) ⟨wq.heap.size, 0, none⟩ 1 1 [.string x] (by simp [Act.eval]) rfl (World.news_of_block (cs := #[.string x]) (t := 9) (fr := (0, 0)) (heap_alloc_new wq.drew _)) (by simp [Value.oneCell']) (by decide) (by unfold maxLen; omega) (by omega) (by simp; omega) _ rfl ?_; intro gg cap w3 hown1 hgrow hat hltg; have hp3 := Lib.hid (field_keep (w1 := wq.drew) H1Q.out HOQ.out h5 hgrow); obtain ⟨cp3, _, _, fp3, _⟩ := cell_in hp3.out)
      all_goals
        have hfin := Lib.hid (RdSt.named (w1 := wq.drew) (o := .cells #[.string x] 9) H1Q.out HOQ.out H3Q.out H4Q.out h5 h6 h7 H8Q.out hown1 hgrow)
        clear hown1 hgrow hat hltg
        go_wp2
        go_ret
        have hturn : Turn base p b w wq.drew := Turn.of_below HBQ.out.drew HS.out.base_le
        exact ⟨rfl, hfin.out.1, hturn.trans hfin.out.2⟩
end Go.Proofs.YtckpffkofeoinaaGreatDoor

/- (*reader).line: 'below', and lines of no form. -/
namespace Go.Proofs.YtckpffkofeoinaaGreatDoor
open Go.RowKit Go.Maps

set_option maxRecDepth 100000 in
set_option maxHeartbeats 4000000 in
theorem line_below (base p b A c : Nat) (r : RS) (x y : ByteArray) (w : World) (hS : RdSt base p b r w) (hr : r.names.length ≤ 100000) (hr2 : r.below.length ≤ 100000)
    (c0 : w.cell? ⟨A, 0, none⟩ = some (.string ⟨#[98, 101, 108, 111, 119]⟩)) (c1 : w.cell? ⟨A, 1, none⟩ = some (.string x)) (c2 : w.cell? ⟨A, 2, none⟩ = some (.string y)) :
    Calls Tryz.prog 19 #[.pointer (some ⟨p, 0, none⟩), .slice (some ⟨A, 0, none⟩) 3 c] w fun e w' => LinePost base p b w (belowF r [bBelow, x, y]) e w' := by
  have HS := Lib.hid hS
  have hq : belowF r [bBelow, x, y] = if Lib.containsS r.names x = false then (3, r) else if Lib.containsS r.names y = false then (3, r) else (0, { r with below := r.below ++ [(x, y)] }) := rfl
  obtain ⟨vn, vb, h1, h2, h3, h4, h5, h6, h7, h8⟩ := hS
  have HO := Lib.hid h2
  obtain ⟨an, cn, rfl, hn1, hn2, hn3⟩ := owns_form h2
  obtain ⟨ab, cb, rfl, hb1, hb2, hb3⟩ := owns_form h3
  obtain ⟨cp0, cp1, _, _, _⟩ := cell_in h1
  have HX : Hid (∀ (k : Nat), Calls Tryz.prog 41 #[.slice an r.names.length cn, .string x] (w.drewN k) fun e w' => e = .returned (.bool (Lib.containsS r.names x)) ∧ w' = w.drewN k) := fun k => con_str _ _ _ r.names x _ (hn3.drewN _) rfl (by omega)
  have HY : Hid (∀ (k : Nat), Calls Tryz.prog 41 #[.slice an r.names.length cn, .string y] (w.drewN k) fun e w' => e = .returned (.bool (Lib.containsS r.names y)) ∧ w' = w.drewN k) := fun k => con_str _ _ _ r.names y _ (hn3.drewN _) rfl (by omega)
  have H1 := Lib.hid h1; have H3 := Lib.hid h3; have H4 := Lib.hid h4; have H8 := Lib.hid h8
  clear h1 h2 h3 h4 h8 hn3 hb3
  cases hc : Lib.containsS r.names x with
  | false =>
    rw [hq, if_pos hc]
    rw [hc] at HX
    clear hc hq HY
    go_enter Tryz.func19, Tryz.ntmps19
    go_wp2
    go_quiet ((go_at_call 41; exact Calls.quiet_of_same (HX.out _)))
    go_wp2
    go_ret
    exact LinePost.same HS.out (below_drewN (Below.refl _ _) _) 3 rfl
  | true =>
    rw [hq, if_neg (by rw [hc]; simp)]
    rw [hc] at HX
    clear hc hq
    cases hc : Lib.containsS r.names y with
    | false =>
      rw [if_pos rfl]
      rw [hc] at HY
      clear hc
      go_enter Tryz.func19, Tryz.ntmps19
      go_wp2
      go_quiet ((go_at_call 41; first | exact Calls.quiet_of_same (HX.out _) | exact Calls.quiet_of_same (HY.out _)))
      go_wp2
      go_ret
      exact LinePost.same HS.out (below_drewN (Below.refl _ _) _) 3 rfl
    | true =>
      rw [if_neg (by simp)]
      rw [hc] at HY
      clear hc
      go_enter Tryz.func19, Tryz.ntmps19
      go_wp2
      go_quiet ((go_at_call 41; first | exact Calls.quiet_of_same (HX.out _) | exact Calls.quiet_of_same (HY.out _)))
      have HBQ : Hid (Below w.heap.size w (w.drewN nq)) := below_drewN (Below.refl _ _) _
      have HOQ : Hid ((w.drewN nq).ownsRow base 9 1 (.slice an r.names.length cn) r.names.length (r.names.map Value.string)) := HO
      have H1Q : Hid ((w.drewN nq).heap[p]? = some (.cells #[.slice an r.names.length cn, .slice ab r.below.length cb, .map (some b)] 50 (0, 0))) := H1
      have H3Q : Hid ((w.drewN nq).ownsRow base 107 2 (.slice ab r.below.length cb) r.below.length (strs2 r.below)) := H3
      have H4Q : Hid (OfIs (w.drewN nq) b r.of) := H4
      have H8Q : Hid (base ≤ (w.drewN nq).heap.size) := H8
      change (w.drewN nq).cell? _ = _ at c0 c1 c2 cp0 cp1
      clear HO H1 H3 H4 H8 HX HY
      generalize w.drewN nq = wq at *
      obtain ⟨i3, hi3, hz30, hz31, hz32⟩ := info_parts info_prs
      go_upto_region 11 with fail
      have hsz2 := H8Q.out
      have cpa := (cell_in (heap_alloc_lt (o := .cells #[.string x, .string y] 107) H1Q.out)).2.1
      go_region_law (refine step_append_lies _ rfl (.tmp 77) (.tmp 85) 48 rfl base 107 i3 _ 2 32 Tryz.underlying48 hi3 hz30 hz31 hz32 rfl (by decide) (.slice ab r.below.length cb) r.below.length _ (by simp [Act.eval]) (World.ownsRow.alloc (w := wq.drew) H3Q.out _) ⟨wq.heap.size, 0, none⟩ 1 1 [.string x, .string y] (by simp [Act.eval]) rfl (World.news_of_block (cs := #[.string x, .string y]) (t := 107) (fr := (0, 0)) (heap_alloc_new wq.drew _)) (by simp [Value.oneCell']) (by decide) (by unfold maxLen; omega) (by omega) (by simp; omega) _ rfl ?_; intro gg cap w3 hown1 hgrow hat hltg; have hp3 := Lib.hid (field_keep (w1 := wq.drew) H1Q.out H3Q.out h5 hgrow); obtain ⟨_, cp3, _, _, fp3⟩ := cell_in hp3.out)
      all_goals
        have hfin := Lib.hid (RdSt.paired (w1 := wq.drew) (o := .cells #[.string x, .string y] 107) H1Q.out HOQ.out H3Q.out H4Q.out h5 h6 h7 H8Q.out hown1 hgrow)
        clear hown1 hgrow hat hltg
        go_wp2
        go_ret
        have hturn : Turn base p b w wq.drew := Turn.of_below HBQ.out.drew HS.out.base_le
        exact ⟨rfl, hfin.out.1, hturn.trans hfin.out.2⟩

set_option maxRecDepth 100000 in
theorem line_two (base p b A c : Nat) (r : RS) (x0 : ByteArray) (w : World) (hS : RdSt base p b r w) (hx : (x0.toList == [108, 101, 118, 101, 108]) = false)
    (c0 : w.cell? ⟨A, 0, none⟩ = some (.string x0)) :
    Calls Tryz.prog 19 #[.pointer (some ⟨p, 0, none⟩), .slice (some ⟨A, 0, none⟩) 2 c] w fun e w' => LinePost base p b w (2, r) e w' := by
  have HS := Lib.hid hS; clear hS
  go_enter Tryz.func19, Tryz.ntmps19
  go_wp2
  go_ret
  exact LinePost.same HS.out (Below.refl _ _) 2 rfl

set_option maxRecDepth 100000 in
theorem line_three (base p b A c : Nat) (r : RS) (x0 : ByteArray) (w : World) (hS : RdSt base p b r w) (hx : (x0.toList == [98, 101, 108, 111, 119]) = false) (hy : (x0.toList == [99, 104, 97, 110, 110, 101, 108]) = false)
    (c0 : w.cell? ⟨A, 0, none⟩ = some (.string x0)) :
    Calls Tryz.prog 19 #[.pointer (some ⟨p, 0, none⟩), .slice (some ⟨A, 0, none⟩) 3 c] w fun e w' => LinePost base p b w (2, r) e w' := by
  have HS := Lib.hid hS; clear hS
  go_enter Tryz.func19, Tryz.ntmps19
  go_wp2
  go_ret
  exact LinePost.same HS.out (Below.refl _ _) 2 rfl

set_option maxRecDepth 100000 in
theorem line_many (base p b A c n : Nat) (r : RS) (w : World) (hS : RdSt base p b r w) (hx : ¬ (n : Int) = 2) (hy : ¬ (n : Int) = 3) :
    Calls Tryz.prog 19 #[.pointer (some ⟨p, 0, none⟩), .slice (some ⟨A, 0, none⟩) n c] w fun e w' => LinePost base p b w (2, r) e w' := by
  have HS := Lib.hid hS; clear hS
  go_enter Tryz.func19, Tryz.ntmps19
  go_wp2
  go_ret
  exact LinePost.same HS.out (Below.refl _ _) 2 rfl
end Go.Proofs.YtckpffkofeoinaaGreatDoor

/- (*reader).line: 'channel'. -/
namespace Go.Proofs.YtckpffkofeoinaaGreatDoor
open Go.RowKit Go.Maps

theorem idx_ge (names : List ByteArray) (s : ByteArray) : -1 ≤ Lib.idxOfS names s := by
  have key : ∀ (l : List ByteArray) (i : Nat), -1 ≤ Lib.idxFromS l s i := by
    intro l
    induction l with
    | nil => intro i; show (-1 : Int) ≤ -1; omega
    | cons x l ih =>
      intro i
      by_cases e : x = s
      · rw [Lib.idxFromS_hit s (x :: l) 0 i (by simp) (by simpa using e) (by omega)]; omega
      · have h2 : Lib.idxFromS (x :: l) s i = Lib.idxFromS l s (i + 1) := by simp [Lib.idxFromS, e]
        rw [h2]; exact ih _
  exact key names 0

set_option maxRecDepth 100000 in
theorem look_run {w : World} {b : Nat} {l : List (ByteArray × Nat)} (h : OfIs w b l) {c : ByteArray} (hc : c.size ≤ maxLen) :
    (Instr.lookup 47 (.map (some b)) (.string c) true).run Tryz.prog w = .ok (.tuple #[.int .i64 (((ofAt l c).getD 0 : Nat) : Int), .bool (ofAt l c).isSome]) w := by
  obtain ⟨D, h1, h2⟩ := h
  obtain ⟨v, ps, hrun, hv⟩ := h1.look_ok klaw Tryz.underlying47 (zeroI w) (plainElem_int Tryz.underlying3 (by decide)) (keyL_of hc)
  obtain ⟨cc, rfl, he, _⟩ := plainElem_int_inv Tryz.underlying3 hv
  have e2 := congrArg Prod.fst he
  rw [show (D.atKey (keyL c) (.lit (.int .i64 0)), ps).1 = D.atKey (keyL c) (.lit (.int .i64 0)) from rfl, (h2 c).2] at e2
  injection e2 with e2
  injection e2 with _ e2
  rw [hrun, (h2 c).1, ← e2]

set_option maxRecDepth 100000 in
set_option maxHeartbeats 4000000 in
theorem line_chan (base p b A c : Nat) (r : RS) (x y : ByteArray) (w : World) (hx : x.size ≤ 140737488351232) (hM : MaxL w) (hS : RdSt base p b r w) (hr : r.names.length ≤ 100000) (hr3 : r.of.length ≤ 100000)
    (c0 : w.cell? ⟨A, 0, none⟩ = some (.string ⟨#[99, 104, 97, 110, 110, 101, 108]⟩)) (c1 : w.cell? ⟨A, 1, none⟩ = some (.string x)) (c2 : w.cell? ⟨A, 2, none⟩ = some (.string y)) :
    Calls Tryz.prog 19 #[.pointer (some ⟨p, 0, none⟩), .slice (some ⟨A, 0, none⟩) 3 c] w fun e w' => LinePost base p b w (chanF r [bChannel, x, y]) e w' := by
  have HS := Lib.hid hS
  have hq : chanF r [bChannel, x, y] = if identOk x.data.toList = false then (3, r) else if Lib.idxOfS r.names y < 0 then (3, r) else
    if (ofAt r.of x).isSome = true then (4, r) else (0, { r with of := (x, (Lib.idxOfS r.names y).toNat) :: r.of }) := rfl
  obtain ⟨vn, vb, h1, h2, h3, h4, h5, h6, h7, h8⟩ := hS
  obtain ⟨an, cn, rfl, hn1, hn2, hn3⟩ := owns_form h2
  obtain ⟨cp0, _, _, _, _⟩ := cell_in h1
  have hlt := idx_lt r.names y
  have hge : -1 ≤ Lib.idxOfS r.names y := idx_ge _ _
  have HY : Hid (∀ (k : Nat), Calls Tryz.prog 42 #[.slice an r.names.length cn, .string y] (w.drewN k) fun e w' => e = .returned (.int .i64 (Lib.idxOfS r.names y)) ∧ w' = w.drewN k) := fun k => idx_str _ _ _ r.names y _ (hn3.drewN _) rfl (by omega)
  have HI : Hid (∀ k : Nat, Calls Tryz.prog 43 #[.string x] (w.drewN k) fun e w' => e = .returned (.bool (identOk x.data.toList)) ∧ Below (w.drewN k).heap.size (w.drewN k) w') := fun k => ident_any x _ hx (hM.below (below_drewN (Below.refl _ _) k))
  have hxm : x.size ≤ maxLen := by unfold maxLen; omega
  have HK := Lib.hid (keyL_of (c := x) hxm)
  clear h1 h2 h3 h4 h5 h6 h7 h8 hn3 hM
  cases hi : identOk x.data.toList with
  | false =>
    rw [hq, if_pos hi]
    rw [hi] at HI
    clear hi hq
    generalize Lib.idxOfS r.names y = z at *
    go_enter Tryz.func19, Tryz.ntmps19
    go_wp2
    go_quiet ((go_at_call 42; exact Calls.quiet_of_same (HY.out _)))
    have d1 : (w.drewN nq).cell? ⟨A, 1, none⟩ = some (.string x) := c1
    go_wp2_with (go_at_call 43; refine (HI.out _).mono ?_; rintro e w1 ⟨rfl, hb1⟩; have HB1 := Lib.hid hb1; clear hb1)
    go_ret
    exact LinePost.same HS.out ((below_drewN (Below.refl _ _) _).trans HB1.out) 3 rfl
  | true =>
    rw [hq, if_neg (by rw [hi]; simp)]
    rw [hi] at HI
    clear hi hq
    by_cases hz : Lib.idxOfS r.names y < 0
    · rw [if_pos hz]
      generalize Lib.idxOfS r.names y = z at *
      go_enter Tryz.func19, Tryz.ntmps19
      go_wp2
      go_quiet ((go_at_call 42; exact Calls.quiet_of_same (HY.out _)))
      have d1 : (w.drewN nq).cell? ⟨A, 1, none⟩ = some (.string x) := c1
      go_wp2_with (go_at_call 43; refine (HI.out _).mono ?_; rintro e w1 ⟨rfl, hb1⟩; have HB1 := Lib.hid hb1; clear hb1)
      go_ret
      exact LinePost.same HS.out ((below_drewN (Below.refl _ _) _).trans HB1.out) 3 rfl
    · rw [if_neg hz]
      obtain ⟨z, hzz⟩ : ∃ z : Nat, Lib.idxOfS r.names y = (z : Int) := ⟨(Lib.idxOfS r.names y).toNat, by omega⟩
      rw [hzz] at HY hlt hge hz ⊢
      rw [Int.toNat_natCast]
      clear hzz hge
      cases ho : (ofAt r.of x).isSome with
      | true =>
        rw [if_pos rfl]
        have HOS := Lib.hid ho; clear ho
        go_enter Tryz.func19, Tryz.ntmps19
        go_wp2
        go_quiet ((go_at_call 42; exact Calls.quiet_of_same (HY.out _)))
        have d1 : (w.drewN nq).cell? ⟨A, 1, none⟩ = some (.string x) := c1
        go_wp2_with (go_at_call 43; refine (HI.out _).mono ?_; rintro e w1 ⟨rfl, hb1⟩; have HB1 := Lib.hid hb1; have d2 := (hb1.cell (World.block_lt_of_cell? _ _ d1)).trans d1; clear hb1 d1 c0 c1 c2 cp0)
        have HBW := Lib.hid ((below_drewN (Below.refl _ w) nq).trans HB1.out)
        have HS2 := (HS.out.below HBW.out)
        obtain ⟨vn', vb', h1, h2, h3, h4, h6⟩ := HS2
        obtain ⟨_, _, cp2, _, _⟩ := cell_in h1
        have hlk : ∀ k : Nat, _ := fun k => look_run (h4.below (below_drewN (Below.refl _ w1) k)) hxm
        rw [HOS.out] at hlk
        generalize (ofAt r.of x).getD 0 = g0 at hlk
        clear h1 h2 h3 h4 h6
        go_quiet (fail)
        go_wp2
        go_ret
        exact LinePost.same HS.out (below_drewN HBW.out _) 4 rfl
      | false =>
        rw [if_neg (by simp)]
        have HOS := Lib.hid ho; clear ho
        go_enter Tryz.func19, Tryz.ntmps19
        go_wp2
        go_quiet ((go_at_call 42; exact Calls.quiet_of_same (HY.out _)))
        have d1 : (w.drewN nq).cell? ⟨A, 1, none⟩ = some (.string x) := c1
        go_wp2_with (go_at_call 43; refine (HI.out _).mono ?_; rintro e w1 ⟨rfl, hb1⟩; have HB1 := Lib.hid hb1; have d2 := (hb1.cell (World.block_lt_of_cell? _ _ d1)).trans d1; clear hb1 d1 c0 c1 c2 cp0)
        have HBW := Lib.hid ((below_drewN (Below.refl _ w) nq).trans HB1.out)
        have HS2 := (HS.out.below HBW.out)
        obtain ⟨vn', vb', h1, h2, h3, h4, h6⟩ := HS2
        obtain ⟨_, _, cp2, _, _⟩ := cell_in h1
        have hlk : ∀ k : Nat, _ := fun k => look_run (h4.below (below_drewN (Below.refl _ w1) k)) hxm
        rw [HOS.out] at hlk
        generalize (ofAt r.of x).getD 0 = g0 at hlk
        have H1 := Lib.hid h1; have H2 := Lib.hid h2; have H3 := Lib.hid h3; have H4 := Lib.hid h4; have H6 := Lib.hid h6
        clear h1 h2 h3 h4 h6
        go_quiet (fail)
        have H1Q : Hid ((w1.drewN nq).heap[p]? = some (.cells #[vn', vb', .map (some b)] 50 (0, 0))) := H1
        have H2Q : Hid ((w1.drewN nq).ownsRow base 9 1 vn' r.names.length (r.names.map Value.string)) := H2
        have H3Q : Hid ((w1.drewN nq).ownsRow base 107 2 vb' r.below.length (strs2 r.below)) := H3
        have H4Q : Hid (OfIs (w1.drewN nq) b r.of) := H4
        have H6Q : Hid (p < base ∧ b < base ∧ p ≠ b ∧ base ≤ (w1.drewN nq).heap.size) := H6
        have HBQ : Hid (Below w.heap.size w (w1.drewN nq)) := below_drewN HBW.out _
        change (w1.drewN nq).cell? _ = _ at d2 cp2
        clear H1 H2 H3 H4 H6 HBW hlk HB1
        generalize w1.drewN nq = wq at *
        obtain ⟨D, h4, h5⟩ := H4Q.out
        have HO := Lib.hid h4; have HALL := Lib.hid h5
        clear h4 h5
        go_upto_region 19 with fail
        go_still_tail 8, (by kernel_rfl)
        change wpList _ _ _ _ _ wq.drew
        have HOD : Hid (wq.drew.ownsMap Tryz.prog 9 elemI b r.of.length D) := HO
        go_wp2_with (at_mapUpdate; refine wpList_mapUpdate_own _ rfl _ _ _ 47 rfl 9 3 klaw Tryz.underlying47 _ b _ D rfl HOD.out (by unfold maxLen; omega) _ _ _ rfl rfl HK.out _ [] (plainElem_int Tryz.underlying3 (WalkArith.wf_i64 (by omega))) ?_; intro w2 hown2 hgrow2; have HOF := Lib.hid (OfIs.put HALL.out HO.out.isMap hown2); have HGR := Lib.hid hgrow2; clear hown2 hgrow2)
        go_ret
        obtain ⟨h5, h6, h7, h8⟩ := H6Q.out
        have hfin := RdSt.channel (w1 := wq.drew) H1Q.out H2Q.out H3Q.out h5 h6 h7 h8 HOF.out HGR.out
        have hturn : Turn base p b w wq.drew := Turn.of_below HBQ.out.drew HS.out.base_le
        exact ⟨rfl, hfin.1, hturn.trans hfin.2⟩
end Go.Proofs.YtckpffkofeoinaaGreatDoor

/- (*reader).line: whole. -/
namespace Go.Proofs.YtckpffkofeoinaaGreatDoor
open Go.RowKit Go.Maps

theorem text_ne {x : ByteArray} {l : List UInt8} (h : ¬ x = ⟨l.toArray⟩) : (x.toList == l) = false := by
  rw [beq_eq_false_iff_ne]
  intro e
  apply h
  rw [ByteArray.toList_eq] at e
  cases x
  simp at e ⊢
  rw [← e]

theorem line_any (base p b A n : Nat) (r : RS) (ws : List ByteArray) (w : World) (hn : ws.length = n) (hR : Rd w (some ⟨A, 0, none⟩) (ws.map Value.string)) (hx : ∀ x ∈ ws, x.size ≤ 140737488351232) (hM : MaxL w) (hS : RdSt base p b r w)
    (hr : r.names.length ≤ 100000) (hr2 : r.below.length ≤ 100000) (hr3 : r.of.length ≤ 100000) :
    Calls Tryz.prog 19 #[.pointer (some ⟨p, 0, none⟩), .slice (some ⟨A, 0, none⟩) n n] w fun e w' => LinePost base p b w (lineF r ws) e w' := by
  subst hn
  have hat : ∀ (i : Nat) (x : ByteArray), ws[i]? = some x → w.cell? ⟨A, i, none⟩ = some (.string x) := fun i x hi => by
    rcases hR with h | ⟨b', o, h1, h2⟩
    · simp at h; subst h; simp at hi
    · cases h1
      have := h2 i (.string x) (by simp [hi])
      rwa [Nat.zero_add] at this
  by_cases h2 : ws.length = 2
  · obtain ⟨x0, x1, rfl⟩ : ∃ x0 x1, ws = [x0, x1] := by
      match ws, h2 with
      | [x0, x1], _ => exact ⟨x0, x1, rfl⟩
    have c0 := hat 0 x0 rfl
    have c1 := hat 1 x1 rfl
    by_cases h3 : x0 = bLevel
    · subst h3
      exact line_level base p b A 2 r x1 w (hx _ (by simp)) hS hr c0 c1
    · have e : lineF r [x0, x1] = (2, r) := by unfold lineF; rw [if_pos h2, if_neg (show ¬ w0 [x0, x1] = bLevel from h3)]
      rw [e]
      exact line_two base p b A 2 r x0 w hS (text_ne h3) c0
  · by_cases h3 : ws.length = 3
    · obtain ⟨x0, x1, x2, rfl⟩ : ∃ x0 x1 x2, ws = [x0, x1, x2] := by
        match ws, h3 with
        | [x0, x1, x2], _ => exact ⟨x0, x1, x2, rfl⟩
      have c0 := hat 0 x0 rfl
      have c1 := hat 1 x1 rfl
      have c2 := hat 2 x2 rfl
      by_cases h4 : x0 = bBelow
      · subst h4
        have e : lineF r [bBelow, x1, x2] = belowF r [bBelow, x1, x2] := by unfold lineF; rw [if_neg h2, if_pos h3, if_pos (show w0 [bBelow, x1, x2] = bBelow from rfl)]
        rw [e]
        exact line_below base p b A 3 r x1 x2 w hS hr hr2 c0 c1 c2
      · by_cases h5 : x0 = bChannel
        · subst h5
          have e : lineF r [bChannel, x1, x2] = chanF r [bChannel, x1, x2] := by unfold lineF; rw [if_neg h2, if_pos h3, if_neg (show ¬ w0 [bChannel, x1, x2] = bBelow from h4), if_pos (show w0 [bChannel, x1, x2] = bChannel from rfl)]
          rw [e]
          exact line_chan base p b A 3 r x1 x2 w (hx _ (by simp)) hM hS hr hr3 c0 c1 c2
        · have e : lineF r [x0, x1, x2] = (2, r) := by unfold lineF; rw [if_neg h2, if_pos h3, if_neg (show ¬ w0 [x0, x1, x2] = bBelow from h4), if_neg (show ¬ w0 [x0, x1, x2] = bChannel from h5)]
          rw [e]
          exact line_three base p b A 3 r x0 w hS (text_ne h4) (text_ne h5) c0
    · have e : lineF r ws = (2, r) := by unfold lineF; rw [if_neg h2, if_neg h3]
      rw [e]
      exact line_many base p b A ws.length ws.length r w hS (by omega) (by omega)
end Go.Proofs.YtckpffkofeoinaaGreatDoor
