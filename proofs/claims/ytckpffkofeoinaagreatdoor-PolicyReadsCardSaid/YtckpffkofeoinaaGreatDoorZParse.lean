/- The document's Parse: what is read behind each line. -/
import Derived.Test.YtckpffkofeoinaaGreatDoorZLine
import Derived.Test.YtckpffkofeoinaaGreatDoorZPol
import Derived.Test.YtckpffkofeoinaaGreatDoorPols
namespace Go.Proofs.YtckpffkofeoinaaGreatDoor
open Go.RowKit Go.Maps Go.Proofs.YtckpffkofeoinaaGreatDoor.Lr

/-- The lines from byte a on. -/
def linesAt (s : ByteArray) (a : Nat) : List ByteArray := if a ≤ s.size then (linesL (s.data.toList.drop a)).map mkB else []

theorem linesAt_zero (s : ByteArray) : linesAt s 0 = linesF s := by unfold linesAt; rw [if_pos (Nat.zero_le _), linesF_eq]; rfl
theorem linesAt_end (s : ByteArray) : linesAt s (s.size + 1) = [] := by unfold linesAt; rw [if_neg (by omega)]

theorem dsize (s : ByteArray) : s.data.toList.length = s.size := by simp

theorem linesAt_cut {s : ByteArray} {a i : Nat} (ha : a ≤ i) (hi : i < s.size) (hc : ∀ j, a ≤ j → j < i → s.data.toList[j]? ≠ some 10) (h : s.data.toList[i]? = some 10) : linesAt s a = s.extract a i :: linesAt s (i + 1) := by
  unfold linesAt
  rw [if_pos (by omega), if_pos (by omega)]
  have e : s.data.toList.drop a = (s.data.toList.drop a).take (i - a) ++ 10 :: s.data.toList.drop (i + 1) := by
    conv => lhs; rw [← List.take_append_drop (i - a) (s.data.toList.drop a)]
    congr 1
    rw [List.drop_drop, show a + (i - a) = i by omega]
    obtain ⟨h1, h2⟩ := List.getElem?_eq_some_iff.1 h
    rw [List.drop_eq_getElem_cons h1, h2]
  rw [e, linesL_cut _ ?_, List.map_cons]
  · congr 1
    exact data_inj (by rw [data_mkB, Lib.extract_data])
  · intro c hm
    obtain ⟨j, hj, rfl⟩ := List.mem_iff_getElem.1 hm
    rw [List.length_take, List.length_drop] at hj
    rw [List.getElem_take, List.getElem_drop]
    intro e
    exact hc (a + j) (by omega) (by omega) (by rw [List.getElem?_eq_getElem (by rw [dsize]; omega), e])

theorem linesAt_last {s : ByteArray} {a : Nat} (ha : a ≤ s.size) (hc : ∀ j, a ≤ j → j < s.size → s.data.toList[j]? ≠ some 10) : linesAt s a = s.extract a s.size :: linesAt s (s.size + 1) := by
  rw [linesAt_end]
  unfold linesAt
  rw [if_pos ha, linesL_none, List.map_singleton]
  · congr 1
    exact data_inj (by rw [data_mkB, Lib.extract_to_end])
  · intro c hm
    obtain ⟨j, hj, rfl⟩ := List.mem_iff_getElem.1 hm
    rw [List.length_drop, dsize] at hj
    rw [List.getElem_drop]
    intro e
    exact hc (a + j) (by omega) (by omega) (by rw [List.getElem?_eq_getElem (by rw [dsize]; omega), e])

theorem RS.Ok.up {r : RS} {m k k' : Nat} (h : r.Ok m k) (hk : k ≤ k') : r.Ok m k' := ⟨h.short, by have := h.names; omega, by have := h.below; omega, by have := h.of; omega, h.at_⟩
theorem chansL_len (r : RS) : (chansL r).length = r.of.length := by rw [(chansL_perm r).length_eq, List.length_map]

/-- At byte i: the lines ahead of a are read, and from a to i there is no end of a line. -/
structure RLoop (w W : World) (s : ByteArray) (base p a i : Nat) (r : RS) (wr : World) : Prop where
  st : DSt base p r wr
  turn : Turn base p p W wr
  bel : Below w.heap.size w W
  far : w.heap.size ≤ p ∧ w.heap.size ≤ base
  ok : r.Ok s.size a
  clean : ∀ j, a ≤ j → j < i → s.data.toList[j]? ≠ some 10
  rest : readF s = linesTo r a (linesAt s a)

theorem RLoop.below {w W : World} {s : ByteArray} {base p a i : Nat} {r : RS} {wr : World} (h : RLoop w W s base p a i r wr) : Below w.heap.size w wr :=
  h.turn.bel h.bel h.far.1 h.far.1 h.far.2

/-- The line that ends at byte i. -/
theorem RLoop.line {w W : World} {s : ByteArray} {base p a i : Nat} {r : RS} {wr : World} (h : RLoop w W s base p a i r wr) (ha : a ≤ i) (hi : i ≤ s.size) (hb : i = s.size ∨ s.data.toList[i]? = some 10) : linesAt s a = s.extract a i :: linesAt s (i + 1) := by
  rcases hb with rfl | hb
  · exact linesAt_last ha h.clean
  · exact linesAt_cut ha (by have := (List.getElem?_eq_some_iff.1 hb).1; rw [dsize] at this; exact this) h.clean hb

theorem RLoop.more {w W : World} {s : ByteArray} {base p a i : Nat} {r : RS} {wr : World} (h : RLoop w W s base p a i r wr) (hi : s.data.toList[i]? ≠ some 10) : RLoop w W s base p a (i + 1) r wr :=
  ⟨h.st, h.turn, h.bel, h.far, h.ok, fun j h1 h2 => by
    rcases Nat.lt_succ_iff_lt_or_eq.1 h2 with h3 | rfl
    · exact h.clean j h1 h3
    · exact hi, h.rest⟩

theorem ext_size {s : ByteArray} {a i : Nat} (ha : a ≤ i) (hi : i ≤ s.size) : (s.extract a i).size = i - a := by simp; omega

theorem RLoop.skip {w W : World} {s : ByteArray} {base p a i : Nat} {r : RS} {wr w' : World} (h : RLoop w W s base p a i r wr) (ha : a ≤ i) (hi : i ≤ s.size) (hb : i = s.size ∨ s.data.toList[i]? = some 10) (h0 : (wordsF (s.extract a i)).length = 0) (hw : Below wr.heap.size wr w') :
    RLoop w W s base p (i + 1) (i + 1) r w' := by
  refine ⟨h.st.below hw, h.turn.trans (Turn.of_below hw h.st.base_le), h.bel, h.far, h.ok.up (by omega), fun j h1 h2 => absurd h2 (by omega), ?_⟩
  rw [h.rest, h.line ha hi hb, linesTo, if_pos h0, ext_size ha hi, show a + (i - a + 1) = i + 1 by omega]

theorem RLoop.next {w W : World} {s : ByteArray} {base p a i : Nat} {r : RS} {wr w1 w' : World} (h : RLoop w W s base p a i r wr) (ha : a ≤ i) (hi : i ≤ s.size) (hb : i = s.size ∨ s.data.toList[i]? = some 10) (h0 : ¬ (wordsF (s.extract a i)).length = 0) (hz : (lineF r (wordsF (s.extract a i))).1 = 0)
    (hw : Below wr.heap.size wr w1) (hs : DSt base p (lineF r (wordsF (s.extract a i))).2 w') (ht : Turn base p p w1 w') :
    RLoop w W s base p (i + 1) (i + 1) (lineF r (wordsF (s.extract a i))).2 w' := by
  refine ⟨hs, (h.turn.trans (Turn.of_below hw h.st.base_le)).trans ht, h.bel, h.far, (h.ok.step fun x hx => Nat.le_trans (words_le hx) (by rw [ext_size ha hi]; omega)).up (by omega), fun j h1 h2 => absurd h2 (by omega), ?_⟩
  rw [h.rest, h.line ha hi hb, linesTo, if_neg h0, if_pos hz, ext_size ha hi, show a + (i - a + 1) = i + 1 by omega]

theorem RLoop.wrong {w W : World} {s : ByteArray} {base p a i : Nat} {r : RS} {wr : World} (h : RLoop w W s base p a i r wr) (ha : a ≤ i) (hi : i ≤ s.size) (hb : i = s.size ∨ s.data.toList[i]? = some 10) (h0 : ¬ (wordsF (s.extract a i)).length = 0) (hz : ¬ (lineF r (wordsF (s.extract a i))).1 = 0) (hlong : ¬ 20000 < s.size) :
    parseE s = ((lineF r (wordsF (s.extract a i))).1, (a : Int)) := by
  have e : readF s = ((lineF r (wordsF (s.extract a i))).1, a, r) := by rw [h.rest, h.line ha hi hb, linesTo, if_neg h0, if_neg hz]
  unfold parseE
  rw [if_neg hlong, e, if_pos hz]

theorem RLoop.last {w W : World} {s : ByteArray} {base p i : Nat} {r : RS} {wr : World} (h : RLoop w W s base p (s.size + 1) i r wr) (hlong : ¬ 20000 < s.size) :
    (readF s).2.2 = r ∧ parseE s = if newE r.names r.below ≠ 0 then (newE r.names r.below, (s.size : Int)) else (0, 0) := by
  have e : readF s = (0, s.size + 1, r) := by rw [h.rest, linesAt_end, linesTo]
  refine ⟨by rw [e], ?_⟩
  unfold parseE
  rw [if_neg hlong, e, if_neg (by simp)]

/-- What Parse hands back. -/
def RParsePost (s : ByteArray) (w : World) (e : Ending) (w' : World) : Prop :=
  Below w.heap.size w w' ∧ ((parseE s = (0, 0) ∧ ∃ p, e = .returned (.tuple #[.pointer (some ⟨p, 0, none⟩), .int .i64 0, .int .i64 0]) ∧ DPol w' p (readF s).2.2) ∨
    ((parseE s).1 ≠ 0 ∧ e = .returned (.tuple #[.pointer none, .int .i64 (parseE s).2, .int .i64 (parseE s).1])))

theorem RParsePost.bad {s : ByteArray} {w w' : World} {c k : Int} {e : Ending} (hb : Below w.heap.size w w') (h : parseE s = (c, k)) (hc : c ≠ 0) (he : e = .returned (.tuple #[.pointer none, .int .i64 k, .int .i64 c])) : RParsePost s w e w' :=
  ⟨hb, .inr ⟨by rw [h]; exact hc, by rw [h]; exact he⟩⟩

theorem RNewPost.yes {w w' : World} {A : Option Addr} {c : Nat} {names : List ByteArray} {pairs : List (ByteArray × ByteArray)} {e : Ending} (h : RNewPost w w' A c names pairs e) (h0 : newE names pairs = 0) :
    ∃ q, e = .returned (.tuple #[.pointer (some ⟨q, 0, none⟩), .int .i64 0]) ∧ Hid (∃ g r cap U, RLat q g r A c cap names U w' ∧ Shows names pairs U) ∧ Hid (Below w.heap.size w w') := by
  obtain ⟨hB, ⟨_, q, g, r, cap, U, he, hq, hL, hS⟩ | ⟨h1, _⟩⟩ := h
  · exact ⟨q, he, ⟨g, r, cap, U, hL, hS⟩, hB⟩
  · exact absurd h0 h1
theorem RNewPost.no {w w' : World} {A : Option Addr} {c : Nat} {names : List ByteArray} {pairs : List (ByteArray × ByteArray)} {e : Ending} {z : Int} (h : RNewPost w w' A c names pairs e) (h0 : newE names pairs = z) (hc : z ≠ 0) :
    e = .returned (.tuple #[.pointer none, .int .i64 z]) ∧ Hid (Below w.heap.size w w') := by
  obtain ⟨hB, ⟨h1, _⟩ | ⟨_, he⟩⟩ := h
  · exact absurd (h0.symm.trans h1) hc
  · exact ⟨by rw [he, h0]; rfl, hB⟩
end Go.Proofs.YtckpffkofeoinaaGreatDoor
