/- Lines and words of a policy's text, as lists; what lines do one behind another. -/
import Derived.Test.YtckpffkofeoinaaDoorPPol
import Derived.Test.YtckpffkofeoinaaDoorPLines
namespace Go.Proofs.YtckpffkofeoinaaDoor

def mkB (l : List UInt8) : ByteArray := ⟨l.toArray⟩
theorem mkB_data (b : ByteArray) : mkB b.data.toList = b := by cases b; simp [mkB]
theorem data_mkB (l : List UInt8) : (mkB l).data.toList = l := by simp [mkB]
theorem mkB_inj {a b : List UInt8} (h : mkB a = mkB b) : a = b := by rw [← data_mkB a, h, data_mkB]
theorem data_inj {a b : ByteArray} (h : a.data.toList = b.data.toList) : a = b := by rw [← mkB_data a, h, mkB_data]
theorem mkB_size (l : List UInt8) : (mkB l).size = l.length := by simp [mkB, ByteArray.size]
theorem map_data_mkB (l : List (List UInt8)) : (l.map mkB).map (·.data.toList) = l := by
  rw [List.map_map]; conv => rhs; rw [← List.map_id l]
  exact List.map_congr_left fun x _ => data_mkB x
theorem map_mkB_data (l : List ByteArray) : (l.map (·.data.toList)).map mkB = l := by
  rw [List.map_map]; conv => rhs; rw [← List.map_id l]
  exact List.map_congr_left fun x _ => mkB_data x

theorem linesF_eq (s : ByteArray) : linesF s = (linesL s.data.toList).map mkB := by
  have h := Lib.splitB_data ⟨#[10]⟩ 0 (Lib.countB s ⟨#[10]⟩) s
  have h2 := splitK_lines (Lib.countB s ⟨#[10]⟩) s.data.toList rfl
  rw [← map_mkB_data (linesF s)]
  congr 1
  exact h.trans h2

theorem headF_eq (l : ByteArray) : headF l = mkB (headL l.data.toList) := by
  unfold headF mkB
  rw [cut_head]

theorem wordsF_eq (l : ByteArray) : wordsF l = (wordsL l.data.toList).map mkB := by
  rw [← map_mkB_data (wordsF l)]
  congr 1
  have h := fields_data (headF l)
  unfold wordsF
  show (Lib.goFieldsP blankN (headF l)).map (·.data.toList) = _
  rw [h, headF_eq, data_mkB]
  exact (wordsGo_head l.data.toList []).symm

/-! ### lines one behind another -/
theorem linesTo_append : ∀ (a b : List ByteArray) (r : RS) (k : Nat), linesTo r k (a ++ b) = if (linesTo r k a).1 = 0 then linesTo (linesTo r k a).2.2 (linesTo r k a).2.1 b else linesTo r k a
  | [], b, r, k => by simp [linesTo]
  | l :: a, b, r, k => by
    rw [List.cons_append, linesTo, linesTo]
    by_cases h0 : (wordsF l).length = 0
    · rw [if_pos h0, if_pos h0]; exact linesTo_append a b _ _
    · rw [if_neg h0, if_neg h0]
      by_cases h1 : (lineF r (wordsF l)).1 = 0
      · rw [if_pos h1, if_pos h1]; exact linesTo_append a b _ _
      · rw [if_neg h1, if_neg h1, if_neg h1]

theorem linesTo_shift : ∀ (a : List ByteArray) (r : RS) (k d : Nat), linesTo r (k + d) a = ((linesTo r k a).1, (linesTo r k a).2.1 + d, (linesTo r k a).2.2)
  | [], r, k, d => rfl
  | l :: a, r, k, d => by
    rw [linesTo, linesTo]
    have e : k + d + (l.size + 1) = k + (l.size + 1) + d := by omega
    by_cases h0 : (wordsF l).length = 0
    · rw [if_pos h0, if_pos h0, e]; exact linesTo_shift a _ _ _
    · rw [if_neg h0, if_neg h0]
      by_cases h1 : (lineF r (wordsF l)).1 = 0
      · rw [if_pos h1, if_pos h1, e]; exact linesTo_shift a _ _ _
      · rw [if_neg h1, if_neg h1]

theorem linesTo_err : ∀ (a : List ByteArray) (r : RS) (k : Nat), (linesTo r k a).1 = 0 ∨ (linesTo r k a).1 = 2 ∨ (linesTo r k a).1 = 3 ∨ (linesTo r k a).1 = 4
  | [], r, k => .inl rfl
  | l :: a, r, k => by
    rw [linesTo]
    split
    · exact linesTo_err a _ _
    · split
      · exact linesTo_err a _ _
      · unfold lineF levelF belowF chanF
        repeat' split
        all_goals simp

/-! ### what has been read stands -/
/-- The names are names, each once; pairs are of names; channels are names, each once, at places of names. -/
structure RS.Good (r : RS) : Prop where
  ok : ∀ s ∈ r.names, okS s = true
  once : r.names.Nodup
  pairs : ∀ q ∈ r.below, q.1 ∈ r.names ∧ q.2 ∈ r.names
  chans : ∀ q ∈ r.of, identOk q.1.data.toList = true ∧ q.2 < r.names.length
  each : (r.of.map (·.1)).Nodup

theorem RS.none_good : RS.none.Good := ⟨by simp [RS.none], by simp [RS.none], by simp [RS.none], by simp [RS.none], by simp [RS.none]⟩

theorem ofAt_none : ∀ {l : List (ByteArray × Nat)} {c : ByteArray}, ofAt l c = Option.none ↔ c ∉ l.map (·.1)
  | [], c => by simp [ofAt]
  | q :: l, c => by
    unfold ofAt
    by_cases e : q.1 = c
    · rw [if_pos e]; simp [e]
    · rw [if_neg e, ofAt_none]; simp [Ne.symm e]

theorem RS.Good.step {r : RS} (h : r.Good) (w : List ByteArray) : (lineF r w).2.Good := by
  unfold lineF
  split
  · split
    · unfold levelF
      split
      · exact h
      · rename_i h1
        split
        · exact h
        · rename_i h2
          have hn : w1 w ∉ r.names := fun hm => h2 ((Lib.containsS_iff _ _).2 hm)
          refine ⟨fun s hs => ?_, ?_, fun q hq => ?_, fun q hq => ?_, h.each⟩
          · rcases List.mem_append.1 hs with hs | hs
            · exact h.ok s hs
            · simp at hs; subst hs; simpa [okS] using h1
          · exact List.nodup_append.2 ⟨h.once, by simp, fun a ha b hb => by simp at hb; subst hb; exact fun e => hn (e ▸ ha)⟩
          · have := h.pairs q hq
            exact ⟨List.mem_append_left _ this.1, List.mem_append_left _ this.2⟩
          · have := h.chans q hq
            exact ⟨this.1, by simp; omega⟩
    · exact h
  · split
    · split
      · unfold belowF
        split
        · exact h
        · rename_i h1
          split
          · exact h
          · rename_i h2
            refine ⟨h.ok, h.once, fun q hq => ?_, h.chans, h.each⟩
            rcases List.mem_append.1 hq with hq | hq
            · exact h.pairs q hq
            · simp at hq; subst hq
              exact ⟨(Lib.containsS_iff _ _).1 (by simpa using h1), (Lib.containsS_iff _ _).1 (by simpa using h2)⟩
      · split
        · unfold chanF
          split
          · exact h
          · rename_i h1
            split
            · exact h
            · rename_i h2
              split
              · exact h
              · rename_i h3
                refine ⟨h.ok, h.once, h.pairs, fun q hq => ?_, ?_⟩
                · rcases List.mem_cons.1 hq with rfl | hq
                  · have := idx_lt r.names (w2 w)
                    exact ⟨by simpa using h1, by show (Lib.idxOfS r.names (w2 w)).toNat < r.names.length; omega⟩
                  · exact h.chans q hq
                · have h4 : ofAt r.of (w1 w) = Option.none := by simpa using h3
                  exact List.nodup_cons.2 ⟨ofAt_none.1 h4, h.each⟩
        · exact h
    · exact h

theorem RS.Good.all : ∀ (ls : List ByteArray) {r : RS} {k : Nat}, r.Good → (linesTo r k ls).2.2.Good
  | [], _, _, h => h
  | l :: ls, r, k, h => by
    unfold linesTo
    split
    · exact RS.Good.all ls h
    · split
      · exact RS.Good.all ls (h.step _)
      · exact h

theorem readF_good (s : ByteArray) : (readF s).2.2.Good := RS.none_good.all _

theorem placeI_mem {names : List ByteArray} {s : ByteArray} (h : s ∈ names) : 0 ≤ placeI names s := (Lib.idxOfS_nonneg_iff _ _).2 h

/-- Of what has been read New tells nothing but that it is too much, or no lattice. -/
theorem newE_good {r : RS} (h : r.Good) : newE r.names r.below = 0 ∨ newE r.names r.below = 8 ∨ newE r.names r.below = 9 := by
  have h1 : checkE r.names = 0 ∨ checkE r.names = 8 := by
    unfold checkE
    split
    · exact .inr rfl
    · rw [if_neg (by rw [List.all_eq_true.2 h.ok]; simp), if_neg]
      · exact .inl rfl
      · intro hd
        unfold dupTo at hd
        obtain ⟨i, hi, hc⟩ := List.any_eq_true.1 hd
        have hi := List.mem_range.1 hi
        have hm := (Lib.containsS_iff _ _).1 hc
        rw [List.getD_eq_getElem?_getD, List.getElem?_eq_getElem hi] at hm
        obtain ⟨j, hj, e⟩ := List.getElem_of_mem hm
        rw [List.length_take] at hj
        rw [List.getElem_take] at e
        have := (List.getElem_inj h.once).1 e
        omega
  unfold newE
  split
  · rcases h1 with h1 | h1
    · rename_i h2; exact absurd h1 h2
    · exact .inr (.inl h1)
  · split
    · rename_i h3
      rw [List.all_eq_false] at h3
      obtain ⟨q, hq, hf⟩ := h3
      exfalso
      apply hf
      have := h.pairs q hq
      unfold pairOk
      rw [Bool.and_eq_true, decide_eq_true_eq, decide_eq_true_eq]
      exact ⟨placeI_mem this.1, placeI_mem this.2⟩
    · split
      · exact .inr (.inr rfl)
      · exact .inl rfl

/-! ### the law of lines -/
theorem parseE_short {s : ByteArray} (h : s.size ≤ 20000) : parseE s = if (readF s).1 ≠ 0 then ((readF s).1, ((readF s).2.1 : Int)) else if newE (readF s).2.2.names (readF s).2.2.below ≠ 0 then (newE (readF s).2.2.names (readF s).2.2.below, (s.size : Int)) else (0, 0) := by
  unfold parseE
  rw [if_neg (by omega)]

def bHead : ByteArray := ⟨#[35, 32, 120, 10, 32, 9, 10]⟩

theorem bHead_words : (wordsF ⟨#[35, 32, 120]⟩).length = 0 ∧ (wordsF ⟨#[32, 9]⟩).length = 0 := by constructor <;> decide +kernel

theorem lines_head (s : ByteArray) : linesF (bHead ++ s) = ⟨#[35, 32, 120]⟩ :: ⟨#[32, 9]⟩ :: linesF s := by
  rw [linesF_eq, linesF_eq]
  have e : (bHead ++ s).data.toList = [35, 32, 120] ++ 10 :: ([32, 9] ++ 10 :: s.data.toList) := by simp [bHead]
  rw [e, linesL_cut _ (by decide), linesL_cut _ (by decide)]
  rfl

theorem read_head (s : ByteArray) : readF (bHead ++ s) = ((readF s).1, (readF s).2.1 + 7, (readF s).2.2) := by
  unfold readF
  rw [lines_head, linesTo, if_pos bHead_words.1, linesTo, if_pos bHead_words.2]
  exact linesTo_shift (linesF s) RS.none 0 7

theorem lines_more (s t : ByteArray) : linesF (s ++ ⟨#[10]⟩ ++ t) = linesF s ++ linesF t := by
  rw [linesF_eq, linesF_eq, linesF_eq]
  have e : (s ++ ⟨#[10]⟩ ++ t).data.toList = s.data.toList ++ 10 :: t.data.toList := by simp
  rw [e, linesL_append, List.map_append]

theorem read_more {s : ByteArray} (t : ByteArray) (h : (readF s).1 ≠ 0) : readF (s ++ ⟨#[10]⟩ ++ t) = readF s := by
  unfold readF at *
  rw [lines_more, linesTo_append, if_neg h]

/-- PolicyLines, its plain law. -/
theorem lines_law (s t : ByteArray) (hs : s.size ≤ 1000) (ht : t.size ≤ 1000) :
    (parseE (bHead ++ s)).1 = (parseE s).1 ∧ ((parseE s).1 ≠ 0 → (parseE (bHead ++ s)).2 = (parseE s).2 + 7) ∧ (readF (bHead ++ s)).2.2 = (readF s).2.2 ∧
    ((parseE s).1 = 2 ∨ (parseE s).1 = 3 ∨ (parseE s).1 = 4 → parseE (s ++ ⟨#[10]⟩ ++ t) = parseE s) := by
  have hz : (bHead ++ s).size = s.size + 7 := by rw [ByteArray.size_append, Nat.add_comm]; rfl
  have hz2 : (s ++ ⟨#[10]⟩ ++ t).size = s.size + 1 + t.size := by rw [ByteArray.size_append, ByteArray.size_append]; rfl
  have e1 := parseE_short (s := s) (by omega)
  have e2 := parseE_short (s := bHead ++ s) (by omega)
  have e3 := parseE_short (s := s ++ ⟨#[10]⟩ ++ t) (by omega)
  rw [read_head] at e2
  simp only at e2
  refine ⟨?_, ?_, by rw [read_head], ?_⟩
  · rw [e1, e2]
    split
    · rfl
    · split <;> rfl
  · rw [e1, e2]
    split
    · intro _; simp
    · split
      · intro _; simp only; rw [hz]; omega
      · intro h; exact absurd rfl h
  · intro h
    by_cases h0 : (readF s).1 = 0
    · exfalso
      rw [e1, if_neg (by simpa using h0)] at h
      have hg := newE_good (readF_good s)
      split at h
      · simp only at h; omega
      · simp only at h; omega
    · rw [e3, read_more t h0, e1, if_pos h0, if_pos h0]
end Go.Proofs.YtckpffkofeoinaaDoor
