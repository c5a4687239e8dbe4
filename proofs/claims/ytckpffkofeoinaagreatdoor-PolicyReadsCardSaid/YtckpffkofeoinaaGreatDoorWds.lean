/- The policy of a text, as plain functions. -/
import Derived.Test.YtckpffkofeoinaaGreatDoorMid
import Derived.Lib.FieldsP
import Derived.Lib.Split
import Derived.Lib.IndexMore
import Derived.Lib.SplitLaws
import Derived.Lib.IndexLaws
import Derived.Lib.TrimU
import Derived.Lib.TrimUEq
import Derived.Lib.SpaceUEq
import Derived.Lib.ConvBytes
import Derived.Laws.BytesArg
import Derived.Maps.OwnSet
import Derived.Maps.OwnOps
namespace Go.Proofs.YtckpffkofeoinaaGreatDoor

def isBlank (n : Nat) : Bool := n == 32 || n == 9
def linesF (s : ByteArray) : List ByteArray := Lib.splitB ⟨#[10]⟩ 0 (Lib.countB s ⟨#[10]⟩) s
def headF (l : ByteArray) : ByteArray := ⟨(Lib.cut l.data.toList [35]).1.toArray⟩
def wordsF (l : ByteArray) : List ByteArray := Lib.goFieldsP isBlank (headF l)

def partsL : List UInt8 := [97, 98, 99, 100, 101, 102, 103, 104, 105, 106, 107, 108, 109, 110, 111, 112, 113, 114, 115, 116, 117, 118, 119, 120, 121, 122, 65, 66, 67, 68, 69, 70, 71, 72, 73, 74, 75, 76, 77, 78, 79, 80, 81, 82, 83, 84, 85, 86, 87, 88, 89, 90, 95, 48, 49, 50, 51, 52, 53, 54, 55, 56, 57]
def digitsL : List UInt8 := [48, 49, 50, 51, 52, 53, 54, 55, 56, 57]
def keptL : List UInt8 := [32, 118, 97, 114, 32, 112, 114, 111, 99, 32, 105, 110, 116, 32, 98, 111, 111, 108, 32, 97, 114, 114, 32, 102, 117, 110, 32, 105, 110, 32, 111, 117, 116, 32, 105, 102, 32, 101, 108, 115, 101, 32, 119, 104, 105, 108, 101] ++ [32, 99, 97, 108, 108, 32, 114, 101, 116, 117, 114, 110, 32, 116, 104, 114, 111, 119, 32, 116, 114, 121, 32, 99, 97, 116, 99, 104, 32, 110, 101, 119, 32, 108, 101, 110, 32, 116, 114, 117, 101, 32, 102, 97, 108, 115, 101, 32]

def isPart (c : UInt8) : Bool := !decide (Lib.indexByte partsL c < 0)
def keptB (l : List UInt8) : Bool := decide (l ≠ []) && (decide (Lib.indexByte l 32 < 0) && Lib.contains keptL ([32] ++ l ++ [32]))
def identOk (l : List UInt8) : Bool := decide (l ≠ []) && (decide (l.length ≤ 20) && (l.all isPart && (decide (Lib.indexByte digitsL (l.headD 0) < 0) && !keptB l)))

/-- What lines said. -/
structure RS where
  names : List ByteArray
  below : List (ByteArray × ByteArray)
  of : List (ByteArray × Nat)

def RS.none : RS := ⟨[], [], []⟩

def ofAt : List (ByteArray × Nat) → ByteArray → Option Nat
  | [], _ => .none
  | q :: l, c => if q.1 = c then some q.2 else ofAt l c

def bLevel : ByteArray := ⟨#[108, 101, 118, 101, 108]⟩
def bBelow : ByteArray := ⟨#[98, 101, 108, 111, 119]⟩
def bChannel : ByteArray := ⟨#[99, 104, 97, 110, 110, 101, 108]⟩

def w0 (w : List ByteArray) : ByteArray := w.getD 0 ByteArray.empty
def w1 (w : List ByteArray) : ByteArray := w.getD 1 ByteArray.empty
def w2 (w : List ByteArray) : ByteArray := w.getD 2 ByteArray.empty

def levelF (r : RS) (w : List ByteArray) : Int × RS :=
  if nameOk (w1 w).data.toList = false then (3, r) else if Lib.containsS r.names (w1 w) = true then (4, r) else (0, { r with names := r.names ++ [w1 w] })
def belowF (r : RS) (w : List ByteArray) : Int × RS :=
  if Lib.containsS r.names (w1 w) = false then (3, r) else if Lib.containsS r.names (w2 w) = false then (3, r) else (0, { r with below := r.below ++ [(w1 w, w2 w)] })
def chanF (r : RS) (w : List ByteArray) : Int × RS :=
  if identOk (w1 w).data.toList = false then (3, r) else if Lib.idxOfS r.names (w2 w) < 0 then (3, r) else
    if (ofAt r.of (w1 w)).isSome = true then (4, r) else (0, { r with of := (w1 w, (Lib.idxOfS r.names (w2 w)).toNat) :: r.of })
def lineF (r : RS) (w : List ByteArray) : Int × RS :=
  if w.length = 2 then (if w0 w = bLevel then levelF r w else (2, r))
  else if w.length = 3 then (if w0 w = bBelow then belowF r w else if w0 w = bChannel then chanF r w else (2, r))
  else (2, r)

/-- All lines: what is wrong, where its line begins, what was said. -/
def linesTo (r : RS) (k : Nat) : List ByteArray → Int × Nat × RS
  | [] => (0, k, r)
  | l :: ls => if (wordsF l).length = 0 then linesTo r (k + (l.size + 1)) ls
    else if (lineF r (wordsF l)).1 = 0 then linesTo (lineF r (wordsF l)).2 (k + (l.size + 1)) ls
    else ((lineF r (wordsF l)).1, k, r)

def readF (s : ByteArray) : Int × Nat × RS := linesTo RS.none 0 (linesF s)

/-- What is wrong with a text, and where. -/
def parseE (s : ByteArray) : Int × Int :=
  if 20000 < s.size then (7, 0) else if (readF s).1 ≠ 0 then ((readF s).1, (readF s).2.1)
  else if newE (readF s).2.2.names (readF s).2.2.below ≠ 0 then (newE (readF s).2.2.names (readF s).2.2.below, s.size) else (0, 0)

def shownA : ByteArray := ⟨#[108, 101, 118, 101, 108, 32, 108, 111, 119, 10, 108, 101, 118, 101, 108, 32, 104, 105, 103, 104, 10, 98, 101, 108, 111, 119, 32, 108, 111, 119, 32, 104, 105, 103, 104, 10, 99, 104, 97, 110, 110, 101, 108, 32, 120, 32, 108, 111, 119, 10]⟩
def shownB : ByteArray := ⟨#[108, 101, 118, 101, 108, 32, 108, 111, 119, 32, 35, 32, 97, 10, 10, 99, 104, 97, 110, 110, 101, 108, 32, 120, 32, 104, 105, 103, 104]⟩
def shownC : ByteArray := ⟨#[108, 101, 118, 101, 108, 32, 97, 10, 108, 101, 118, 101, 108, 32, 98]⟩

theorem shownA_e : parseE shownA = (0, 0) := by decide +kernel
theorem shownB_e : parseE shownB = (3, 15) := by decide +kernel
theorem shownC_e : parseE shownC = (9, 15) := by decide +kernel
theorem shownA_x : ofAt (readF shownA).2.2.of ⟨#[120]⟩ = some 0 := by decide +kernel
theorem shownA_b : belowB (newL (readF shownA).2.2.names (readF shownA).2.2.below) 0 0 = true := by decide +kernel

/-! ### how long pieces are -/
theorem extract_le (s : ByteArray) (a b : Nat) : (s.extract a b).size ≤ s.size := by
  rw [ByteArray.size_extract]; omega

theorem words_le {l x : ByteArray} (h : x ∈ wordsF l) : x.size ≤ l.size := by
  have h1 : (headF l).size ≤ l.size := by
    show ((Lib.cut l.data.toList [35]).1.toArray).size ≤ l.size
    unfold Lib.cut
    split
    · simp only [List.size_toArray, List.length_take]
      have : l.data.toList.length = l.size := rfl
      omega
    · simp
  unfold wordsF Lib.goFieldsP at h
  obtain ⟨q, _, rfl⟩ := List.mem_map.1 h
  exact Nat.le_trans (extract_le _ _ _) h1

theorem pieces_le (sep : ByteArray) (save : Nat) : ∀ (k : Nat) (s : ByteArray) (x : ByteArray), x ∈ Lib.splitB sep save k s → x.size ≤ s.size
  | 0, s, x, h => by
    rw [Lib.splitB_zero] at h
    simp at h; subst h; exact Nat.le_refl _
  | k + 1, s, x, h => by
    unfold Lib.splitB at h
    split at h
    · simp at h; subst h; exact Nat.le_refl _
    · rcases List.mem_cons.1 h with rfl | h
      · exact extract_le _ _ _
      · exact Nat.le_trans (pieces_le sep save k _ x h) (extract_le _ _ _)

theorem lines_le {s x : ByteArray} (h : x ∈ linesF s) : x.size ≤ s.size := pieces_le _ _ _ _ _ h

/-! ### what lines keep -/
structure RS.Ok (r : RS) (m k : Nat) : Prop where
  short : ∀ s ∈ r.names, s.size ≤ m
  names : r.names.length ≤ k
  below : r.below.length ≤ k
  of : r.of.length ≤ k
  at_ : ∀ q ∈ r.of, q.2 < r.names.length

theorem RS.none_ok (m k : Nat) : RS.none.Ok m k := ⟨by simp [RS.none], by simp [RS.none], by simp [RS.none], by simp [RS.none], by simp [RS.none]⟩

theorem idx_lt (names : List ByteArray) (s : ByteArray) : Lib.idxOfS names s < (names.length : Int) := by
  have key : ∀ (l : List ByteArray) (i : Nat), Lib.idxFromS l s i < ((i + l.length : Nat) : Int) ∨ Lib.idxFromS l s i = -1 := by
    intro l
    induction l with
    | nil => intro i; right; rfl
    | cons x l ih =>
      intro i
      by_cases e : x = s
      · left
        rw [Lib.idxFromS_hit s (x :: l) 0 i (by simp) (by simpa using e) (by omega)]
        simp; omega
      · have h1 := ih (i + 1)
        have h2 : Lib.idxFromS (x :: l) s i = Lib.idxFromS l s (i + 1) := by simp [Lib.idxFromS, e]
        rw [h2]
        simp only [List.length_cons]
        rcases h1 with h1 | h1
        · left; omega
        · exact .inr h1
  have := key names 0
  unfold Lib.idxOfS
  omega

theorem RS.Ok.step {r : RS} {m k : Nat} (h : r.Ok m k) {w : List ByteArray} (hw : ∀ x ∈ w, x.size ≤ m) : (lineF r w).2.Ok m (k + 1) := by
  have h0 : r.Ok m (k + 1) := ⟨h.short, by have := h.names; omega, by have := h.below; omega, by have := h.of; omega, h.at_⟩
  have hm : ∀ i, i < w.length → (w.getD i ByteArray.empty).size ≤ m := fun i hi => by
    rw [List.getD_eq_getElem?_getD, List.getElem?_eq_getElem hi]; exact hw _ (List.getElem_mem hi)
  unfold lineF
  split
  · rename_i h2
    split
    · unfold levelF
      split
      · exact h0
      · split
        · exact h0
        · refine ⟨fun s hs => ?_, by simp; have := h.names; omega, h0.below, h0.of, fun q hq => by have := h.at_ q hq; simp; omega⟩
          rcases List.mem_append.1 hs with hs | hs
          · exact h.short s hs
          · simp at hs; subst hs; exact hm 1 (by omega)
    · exact h0
  · split
    · split
      · unfold belowF
        split
        · exact h0
        · split
          · exact h0
          · exact ⟨h.short, h0.names, by simp; have := h.below; omega, h0.of, h.at_⟩
      · split
        · unfold chanF
          split
          · exact h0
          · split
            · exact h0
            · rename_i hi
              split
              · exact h0
              · refine ⟨h.short, h0.names, h0.below, by simp; have := h.of; omega, fun q hq => ?_⟩
                rcases List.mem_cons.1 hq with rfl | hq
                · have := idx_lt r.names (w2 w)
                  show (Lib.idxOfS r.names (w2 w)).toNat < r.names.length
                  omega
                · exact h.at_ q hq
        · exact h0
    · exact h0

theorem RS.Ok.all {m : Nat} : ∀ (ls : List ByteArray) {r : RS} {k n : Nat}, r.Ok m n → (∀ x ∈ ls, x.size ≤ m) → (linesTo r k ls).2.2.Ok m (n + ls.length)
  | [], r, k, n, h, _ => h
  | l :: ls, r, k, n, h, hl => by
    have hl' : ∀ x ∈ ls, x.size ≤ m := fun x hx => hl x (by simp [hx])
    have h1 : r.Ok m (n + (l :: ls).length) := ⟨h.short, Nat.le_trans h.names (by omega), Nat.le_trans h.below (by omega), Nat.le_trans h.of (by omega), h.at_⟩
    have h2 : (lineF r (wordsF l)).2.Ok m (n + 1) := h.step fun x hx => Nat.le_trans (words_le hx) (hl l (by simp))
    have e : n + (l :: ls).length = n + 1 + ls.length := by simp; omega
    unfold linesTo
    split
    · have := RS.Ok.all ls (k := k + (l.size + 1)) h hl'
      exact ⟨this.short, by have := this.names; simp; omega, by have := this.below; simp; omega, by have := this.of; simp; omega, this.at_⟩
    · split
      · rw [e]; exact RS.Ok.all ls h2 hl'
      · exact h1

theorem ofAt_mem : ∀ {l : List (ByteArray × Nat)} {c : ByteArray} {n : Nat}, ofAt l c = some n → (c, n) ∈ l
  | [], _, _, h => by cases h
  | q :: l, c, n, h => by
    unfold ofAt at h
    split at h
    · rename_i e
      cases h; subst e; simp
    · exact List.mem_cons_of_mem _ (ofAt_mem h)
end Go.Proofs.YtckpffkofeoinaaGreatDoor

/- Lines and words of a text as plain lists of bytes. -/
namespace Go.Proofs.YtckpffkofeoinaaGreatDoor

/-- A text cut at each byte 10. -/
def linesL : List UInt8 → List (List UInt8)
  | [] => [[]]
  | c :: l => if c = 10 then [] :: linesL l else match linesL l with
    | [] => [[c]]
    | h :: t => (c :: h) :: t

theorem linesL_cons (c : UInt8) (l : List UInt8) : linesL (c :: l) = if c = 10 then [] :: linesL l else match linesL l with
    | [] => [[c]]
    | h :: t => (c :: h) :: t := rfl

theorem linesL_ne (l : List UInt8) : linesL l ≠ [] := by
  cases l with
  | nil => simp [linesL]
  | cons c l =>
    unfold linesL
    split
    · simp
    · split <;> simp

theorem linesL_none : ∀ {a : List UInt8}, (∀ c ∈ a, c ≠ 10) → linesL a = [a]
  | [], _ => rfl
  | c :: a, h => by
    have ih := linesL_none (a := a) fun x hx => h x (by simp [hx])
    unfold linesL
    rw [if_neg (h c (by simp)), ih]

theorem linesL_cut : ∀ {a : List UInt8} (b : List UInt8), (∀ c ∈ a, c ≠ 10) → linesL (a ++ 10 :: b) = a :: linesL b
  | [], b, _ => by simp [linesL]
  | c :: a, b, h => by
    have ih := linesL_cut (a := a) b fun x hx => h x (by simp [hx])
    rw [List.cons_append]
    conv => lhs; unfold linesL
    rw [if_neg (h c (by simp)), ih]

theorem linesL_append : ∀ (a b : List UInt8), linesL (a ++ 10 :: b) = linesL a ++ linesL b
  | [], b => by simp [linesL]
  | c :: a, b => by
    have ih := linesL_append a b
    rw [List.cons_append]
    rw [linesL_cons, linesL_cons]
    by_cases h : c = 10
    · rw [if_pos h, if_pos h, ih]; rfl
    · rw [if_neg h, if_neg h, ih]
      cases e : linesL a with
      | nil => exact absurd e (linesL_ne a)
      | cons h t => rfl

theorem index10 (l : List UInt8) : Lib.index l [10] = -1 ∧ (∀ c ∈ l, c ≠ 10) ∨ ∃ i : Nat, Lib.index l [10] = i ∧ i < l.length ∧ (∀ c ∈ l.take i, c ≠ 10) ∧ l = l.take i ++ 10 :: l.drop (i + 1) := by
  induction l with
  | nil => left; exact ⟨rfl, by simp⟩
  | cons c l ih =>
    by_cases h : c = 10
    · subst h
      right
      refine ⟨0, ?_, by simp, by simp, by simp⟩
      simp [Lib.index]
    · have hp : ([10] : List UInt8).isPrefixOf (c :: l) = false := by
        simp [List.isPrefixOf]; exact fun e => h e.symm
      rcases ih with ⟨h1, h2⟩ | ⟨i, h1, h2, h3, h4⟩
      · left
        refine ⟨by rw [Lib.index, hp, h1]; rfl, ?_⟩
        intro x hx
        rcases List.mem_cons.1 hx with rfl | hx
        · exact h
        · exact h2 x hx
      · right
        refine ⟨i + 1, ?_, by simp; omega, ?_, ?_⟩
        · rw [Lib.index, hp, h1]
          have : ((i : Int) == -1) = false := by simp
          simp [this]
        · intro x hx
          rw [List.take_succ_cons] at hx
          rcases List.mem_cons.1 hx with rfl | hx
          · exact h
          · exact h3 x hx
        · rw [List.take_succ_cons, List.drop_succ_cons, List.cons_append]
          congr 1

theorem splitK_lines : ∀ (k : Nat) (l : List UInt8), Lib.count l [10] = k → Lib.splitK [10] 0 k l = linesL l
  | 0, l, h => by
    rcases index10 l with ⟨h1, h2⟩ | ⟨i, h1, h2, h3, h4⟩
    · rw [linesL_none h2]; rfl
    · rw [Lib.count_hit (by simp) h1] at h; omega
  | k + 1, l, h => by
    rcases index10 l with ⟨h1, h2⟩ | ⟨i, h1, h2, h3, h4⟩
    · rw [Lib.count_miss h1] at h; omega
    · rw [Lib.count_hit (by simp) h1] at h
      have hk : Lib.count (l.drop (i + 1)) [10] = k := by simpa using (by omega : Lib.count (l.drop (i + ([10] : List UInt8).length)) [10] = k)
      unfold Lib.splitK
      have hne : (((i : Nat) : Int) == -1) = false := by simp
      rw [h1, hne, if_neg (by simp)]
      simp only [Int.toNat_natCast, Nat.add_zero, List.length_cons, List.length_nil, Nat.zero_add]
      rw [splitK_lines k _ hk]
      conv => rhs; rw [h4]
      rw [linesL_cut _ h3]

/-! ### words -/
def blankC (c : UInt8) : Bool := c == 32 || c == 9

/-- The words of a line, a piece of one at hand. -/
def wordsGo : List UInt8 → List UInt8 → List (List UInt8)
  | cur, [] => if cur = [] then [] else [cur]
  | cur, c :: l => if c = 35 then (if cur = [] then [] else [cur]) else if blankC c then (if cur = [] then wordsGo [] l else cur :: wordsGo [] l) else wordsGo (cur ++ [c]) l
def wordsL (l : List UInt8) : List (List UInt8) := wordsGo [] l

/-- .. at blanks alone. -/
def fieldsGo : List UInt8 → List UInt8 → List (List UInt8)
  | cur, [] => if cur = [] then [] else [cur]
  | cur, c :: l => if blankC c then (if cur = [] then fieldsGo [] l else cur :: fieldsGo [] l) else fieldsGo (cur ++ [c]) l

/-- What stands ahead of the first byte 35. -/
def headL : List UInt8 → List UInt8
  | [] => []
  | c :: l => if c = 35 then [] else c :: headL l

theorem wordsGo_head : ∀ (l cur : List UInt8), wordsGo cur l = fieldsGo cur (headL l)
  | [], cur => rfl
  | c :: l, cur => by
    unfold wordsGo headL
    by_cases h : c = 35
    · rw [if_pos h, if_pos h]; rfl
    · rw [if_neg h, if_neg h]
      unfold fieldsGo
      by_cases hb : blankC c
      · rw [if_pos hb, if_pos hb, wordsGo_head l []]
      · rw [if_neg hb, if_neg hb, wordsGo_head l]

theorem cut_head : ∀ (l : List UInt8), (Lib.cut l [35]).1 = headL l := by
  have key : ∀ l : List UInt8, Lib.index l [35] = -1 ∧ headL l = l ∨ ∃ i : Nat, Lib.index l [35] = i ∧ headL l = l.take i := by
    intro l
    induction l with
    | nil => left; exact ⟨rfl, rfl⟩
    | cons c l ih =>
      by_cases h : c = 35
      · subst h
        right
        exact ⟨0, by simp [Lib.index], by simp [headL]⟩
      · have hp : ([35] : List UInt8).isPrefixOf (c :: l) = false := by
          simp [List.isPrefixOf]; exact fun e => h e.symm
        rcases ih with ⟨h1, h2⟩ | ⟨i, h1, h2⟩
        · left
          refine ⟨by rw [Lib.index, hp, h1]; rfl, by rw [headL, if_neg h, h2]⟩
        · right
          refine ⟨i + 1, ?_, by rw [headL, if_neg h, h2, List.take_succ_cons]⟩
          rw [Lib.index, hp, h1]
          have : ((i : Int) == -1) = false := by simp
          simp [this]
  intro l
  unfold Lib.cut
  rcases key l with ⟨h1, h2⟩ | ⟨i, h1, h2⟩
  · rw [h1, if_neg (by decide)]; exact h2.symm
  · rw [h1, if_pos (by omega)]; rw [h2]; simp

/-! ### the pass over runes is one over bytes -/
theorem getD_get (l : List UInt8) {i : Nat} (h : i < l.length) : l.getD i 0 = l[i] := by
  rw [List.getD_eq_getElem?_getD, List.getElem?_eq_getElem h]; rfl

theorem fieldsGo_skip : ∀ (k : Nat) (cur l : List UInt8), (∀ c ∈ l.take k, blankC c = false) → fieldsGo cur l = fieldsGo (cur ++ l.take k) (l.drop k)
  | 0, cur, l, _ => by simp
  | k + 1, cur, [], _ => by simp
  | k + 1, cur, c :: t, h => by
    rw [List.take_succ_cons] at h
    have h0 := h c (by simp)
    conv => lhs; unfold fieldsGo
    rw [h0, if_neg (by simp), fieldsGo_skip k (cur ++ [c]) t (fun x hx => h x (by simp [hx]))]
    simp

def blankN (n : Nat) : Bool := n == 32 || n == 9

theorem rune_high (n b0 b1 b2 b3 : Nat) (h : 128 ≤ b0) : 128 ≤ (Lib.decodeN n b0 b1 b2 b3).1 := by
  rcases Lib.decodeN_cases n b0 b1 b2 b3 with ⟨h1, _⟩ | ⟨_, _, _, h2, e⟩ | ⟨_, _, _, _, h2, e⟩ | ⟨h2, _⟩ | e
  · omega
  · rw [e]; exact h2
  · rw [e]; simp only; omega
  · omega
  · rw [e]; decide

/-- A rune is blank just if its first byte is, and then it is that byte; else none of its bytes is. -/
theorem rune_blank (s : ByteArray) (pos : Nat) (hp : pos < s.size) :
    (blankN (Utf8.decode s pos).1 = true ∧ (Utf8.decode s pos).2 = 1 ∧ blankC (s.data.toList.getD pos 0) = true) ∨
    (blankN (Utf8.decode s pos).1 = false ∧ ∀ c ∈ (s.data.toList.drop pos).take (Utf8.decode s pos).2, blankC c = false) := by
  have hl : s.data.toList.length = s.size := by simp
  have hsmall : ∀ c : UInt8, 128 ≤ c.toNat → blankC c = false := fun c hc => by
    unfold blankC
    have h1 : (c == 32) = false := by
      rw [beq_eq_false_iff_ne]; rintro rfl; exact absurd hc (by decide)
    have h2 : (c == 9) = false := by
      rw [beq_eq_false_iff_ne]; rintro rfl; exact absurd hc (by decide)
    rw [h1, h2]; rfl
  have hd := Lib.decode_N s pos
  generalize hb0 : s.data.toList.getD pos 0 = c0 at *
  generalize hb1 : s.data.toList.getD (pos + 1) 0 = c1 at *
  generalize hb2 : s.data.toList.getD (pos + 2) 0 = c2 at *
  generalize hb3 : s.data.toList.getD (pos + 3) 0 = c3 at *
  by_cases hlow : c0.toNat < 128
  · rw [Lib.decodeN_ascii _ _ _ _ _ hlow] at hd
    have e : blankN c0.toNat = blankC c0 := by
      unfold blankN blankC
      rw [Bool.eq_iff_iff]
      simp only [Bool.or_eq_true, beq_iff_eq]
      constructor
      · rintro (h | h)
        · left; exact UInt8.toNat_inj.1 h
        · right; exact UInt8.toNat_inj.1 h
      · rintro (h | h) <;> subst h
        · left; rfl
        · right; rfl
    rw [hd]
    cases hb : blankC c0 with
    | true => left; exact ⟨by simp only; rw [e, hb], rfl, rfl⟩
    | false =>
      right
      refine ⟨by simp only; rw [e, hb], fun c hc => ?_⟩
      simp only at hc
      rw [List.drop_eq_getElem_cons (by omega), List.take_succ_cons, List.take_zero] at hc
      have : c = c0 := by
        rw [← hb0, getD_get _ (by omega)]; simpa using hc
      rw [this]; exact hb
  · right
    have hr := rune_high (s.data.toList.length - pos) c0.toNat c1.toNat c2.toNat c3.toNat (by omega)
    have hc := Lib.decodeN_conts (s.data.toList.length - pos) c0.toNat c1.toNat c2.toNat c3.toNat
    rw [← hd] at hr hc
    obtain ⟨k1, k2, k3, k4⟩ := hc
    refine ⟨?_, fun c hc => ?_⟩
    · unfold blankN
      have h1 : ((Utf8.decode s pos).1 == 32) = false := by rw [beq_eq_false_iff_ne]; omega
      have h2 : ((Utf8.decode s pos).1 == 9) = false := by rw [beq_eq_false_iff_ne]; omega
      rw [h1, h2]; rfl
    · obtain ⟨j, hj, rfl⟩ := List.getElem_of_mem hc
      rw [List.length_take] at hj
      have hjw : j < (Utf8.decode s pos).2 := by omega
      rw [List.getElem_take, List.getElem_drop]
      apply hsmall
      have hjl : pos + j < s.data.toList.length := by
        have := hj; rw [List.length_drop] at this; omega
      have eg : s.data.toList[pos + j] = s.data.toList.getD (pos + j) 0 := (getD_get _ hjl).symm
      rw [eg]
      match j, hjw with
      | 0, _ => rw [Nat.add_zero, hb0]; omega
      | 1, h => rw [hb1]; have := k1 (by omega); omega
      | 2, h => rw [hb2]; have := k2 (by omega); omega
      | 3, h => rw [hb3]; have := k3 (by omega); omega
      | j + 4, h => omega

theorem spansB_eq (s : ByteArray) : ∀ (f pos : Nat) (st : Option Nat) (acc : List (Nat × Nat)), s.size ≤ pos + f → pos ≤ s.size → (∀ a, st = some a → a < pos) →
    acc.map (fun p => Lib.pieceU s.data.toList p.1 p.2) ++ fieldsGo (Lib.openPiece s.data.toList st pos) (s.data.toList.drop pos) = (Lib.closeSpans s (Lib.spansFromP blankN s f pos st acc)).map (fun p => Lib.pieceU s.data.toList p.1 p.2)
  | 0, pos, st, acc, h, hp, hst => by
    obtain rfl : pos = s.size := by omega
    have hd : s.data.toList.drop s.size = [] := List.drop_eq_nil_of_le (by simp)
    rw [hd]
    cases st with
    | none => simp [Lib.spansFromP, Lib.closeSpans, Lib.openPiece, fieldsGo]
    | some a =>
      have := Lib.pieceU_ne s.data.toList a s.size (hst a rfl) (by simp)
      simp [Lib.spansFromP, Lib.closeSpans, Lib.openPiece, fieldsGo, this]
  | f + 1, pos, st, acc, h, hp, hst => by
    by_cases hlt : pos < s.size
    · have hl : s.data.toList.length = s.size := by simp
      have hw := Lib.width_pos s pos
      have hwn : pos + (Utf8.decode s pos).2 ≤ s.size := by
        have := Lib.decodeN_le_n' (s.size - pos) (s.get! pos).toNat (s.get! (pos + 1)).toNat (s.get! (pos + 2)).toNat (s.get! (pos + 3)).toNat (by omega)
        rw [← Lib.decode_at] at this
        omega
      have hdrop : s.data.toList.drop pos = s.data.toList.getD pos 0 :: s.data.toList.drop (pos + 1) := by
        rw [getD_get _ (by omega)]; exact List.drop_eq_getElem_cons (by omega)
      simp only [Lib.spansFromP, if_pos hlt]
      rcases rune_blank s pos hlt with ⟨hsp, hw1, hbc⟩ | ⟨hsp, hall⟩
      · rw [hsp]
        simp only [if_true, hw1]
        rw [hdrop]
        cases st with
        | none =>
          have ih := spansB_eq s f (pos + 1) none acc (by omega) (by omega) (fun a h => by cases h)
          rw [← ih]
          simp only [Lib.openPiece]
          conv => lhs; unfold fieldsGo
          rw [if_pos hbc, if_pos rfl]
        | some a =>
          have hpn := Lib.pieceU_ne s.data.toList a pos (hst a rfl) (by omega)
          have ih := spansB_eq s f (pos + 1) none (acc ++ [(a, pos)]) (by omega) (by omega) (fun a h => by cases h)
          rw [← ih]
          simp only [Lib.openPiece]
          conv => lhs; unfold fieldsGo
          rw [if_pos hbc, if_neg hpn]
          simp
      · rw [hsp]
        simp only [Bool.false_eq_true, if_false]
        rw [fieldsGo_skip _ _ _ hall, List.drop_drop]
        cases st with
        | none =>
          have ih := spansB_eq s f (pos + (Utf8.decode s pos).2) (some pos) acc (by omega) hwn (fun a h => by cases h; omega)
          have e : ([] : List UInt8) ++ (s.data.toList.drop pos).take (Utf8.decode s pos).2 = Lib.pieceU s.data.toList pos (pos + (Utf8.decode s pos).2) := by
            unfold Lib.pieceU
            rw [List.nil_append, Nat.add_sub_cancel_left]
          simp only [Lib.openPiece] at ih ⊢
          rw [e]
          exact ih
        | some a =>
          have ih := spansB_eq s f (pos + (Utf8.decode s pos).2) (some a) acc (by omega) hwn (fun b h => by cases h; have := hst a rfl; omega)
          simp only [Lib.openPiece] at ih ⊢
          rw [Lib.pieceU_grow _ _ _ _ (Nat.le_of_lt (hst a rfl))]
          exact ih
    · obtain rfl : pos = s.size := by omega
      have hd : s.data.toList.drop s.size = [] := List.drop_eq_nil_of_le (by simp)
      rw [hd, Lib.spansFromP_end _ s _ _ _ _ hlt]
      cases st with
      | none => simp [Lib.closeSpans, Lib.openPiece, fieldsGo]
      | some a =>
        have := Lib.pieceU_ne s.data.toList a s.size (hst a rfl) (by simp)
        simp [Lib.closeSpans, Lib.openPiece, fieldsGo, this]

theorem piece_data (s : ByteArray) (a b : Nat) : (s.extract a b).data.toList = Lib.pieceU s.data.toList a b := by
  unfold Lib.pieceU
  simp [ByteArray.data_extract]

theorem fields_data (s : ByteArray) : (Lib.goFieldsP blankN s).map (·.data.toList) = fieldsGo [] s.data.toList := by
  have h := spansB_eq s s.size 0 none [] (by omega) (by omega) (fun a h => by cases h)
  simp only [Lib.openPiece, List.map_nil, List.nil_append, List.drop_zero] at h
  rw [h]
  unfold Lib.goFieldsP Lib.spansOfP
  rw [List.map_map]
  apply List.map_congr_left
  intro x _
  exact piece_data s x.1 x.2

end Go.Proofs.YtckpffkofeoinaaGreatDoor

/- Lines and words of a policy's text, as lists; what lines do one behind another. -/
namespace Go.Proofs.YtckpffkofeoinaaGreatDoor

def mkB (l : List UInt8) : ByteArray := ⟨l.toArray⟩
theorem mkB_data (b : ByteArray) : mkB b.data.toList = b := by cases b; simp [mkB]
theorem data_mkB (l : List UInt8) : (mkB l).data.toList = l := by simp [mkB]
theorem mkB_inj {a b : List UInt8} (h : mkB a = mkB b) : a = b := by rw [← data_mkB a, h, data_mkB]
theorem data_inj {a b : ByteArray} (h : a.data.toList = b.data.toList) : a = b := by rw [← mkB_data a, h, mkB_data]
theorem mkB_size (l : List UInt8) : (mkB l).size = l.length := by simp [mkB, ByteArray.size]
theorem map_data_mkB (l : List (List UInt8)) : (l.map mkB).map (·.data.toList) = l := by
  rw [List.map_map]; conv => rhs; rw [← List.map_id l]
  exact List.map_congr_left fun x _ => data_mkB x
theorem map_mkB_data (l : List ByteArray) : (l.map (·.data.toList)).map mkB = l := by
  rw [List.map_map]; conv => rhs; rw [← List.map_id l]
  exact List.map_congr_left fun x _ => mkB_data x

theorem linesF_eq (s : ByteArray) : linesF s = (linesL s.data.toList).map mkB := by
  have h := Lib.splitB_data ⟨#[10]⟩ 0 (Lib.countB s ⟨#[10]⟩) s
  have h2 := splitK_lines (Lib.countB s ⟨#[10]⟩) s.data.toList rfl
  rw [← map_mkB_data (linesF s)]
  congr 1
  exact h.trans h2

theorem headF_eq (l : ByteArray) : headF l = mkB (headL l.data.toList) := by
  unfold headF mkB
  rw [cut_head]

theorem wordsF_eq (l : ByteArray) : wordsF l = (wordsL l.data.toList).map mkB := by
  rw [← map_mkB_data (wordsF l)]
  congr 1
  have h := fields_data (headF l)
  unfold wordsF
  show (Lib.goFieldsP blankN (headF l)).map (·.data.toList) = _
  rw [h, headF_eq, data_mkB]
  exact (wordsGo_head l.data.toList []).symm

/-! ### lines one behind another -/
theorem linesTo_append : ∀ (a b : List ByteArray) (r : RS) (k : Nat), linesTo r k (a ++ b) = if (linesTo r k a).1 = 0 then linesTo (linesTo r k a).2.2 (linesTo r k a).2.1 b else linesTo r k a
  | [], b, r, k => by simp [linesTo]
  | l :: a, b, r, k => by
    rw [List.cons_append, linesTo, linesTo]
    by_cases h0 : (wordsF l).length = 0
    · rw [if_pos h0, if_pos h0]; exact linesTo_append a b _ _
    · rw [if_neg h0, if_neg h0]
      by_cases h1 : (lineF r (wordsF l)).1 = 0
      · rw [if_pos h1, if_pos h1]; exact linesTo_append a b _ _
      · rw [if_neg h1, if_neg h1, if_neg h1]

theorem linesTo_shift : ∀ (a : List ByteArray) (r : RS) (k d : Nat), linesTo r (k + d) a = ((linesTo r k a).1, (linesTo r k a).2.1 + d, (linesTo r k a).2.2)
  | [], r, k, d => rfl
  | l :: a, r, k, d => by
    rw [linesTo, linesTo]
    have e : k + d + (l.size + 1) = k + (l.size + 1) + d := by omega
    by_cases h0 : (wordsF l).length = 0
    · rw [if_pos h0, if_pos h0, e]; exact linesTo_shift a _ _ _
    · rw [if_neg h0, if_neg h0]
      by_cases h1 : (lineF r (wordsF l)).1 = 0
      · rw [if_pos h1, if_pos h1, e]; exact linesTo_shift a _ _ _
      · rw [if_neg h1, if_neg h1]

theorem linesTo_err : ∀ (a : List ByteArray) (r : RS) (k : Nat), (linesTo r k a).1 = 0 ∨ (linesTo r k a).1 = 2 ∨ (linesTo r k a).1 = 3 ∨ (linesTo r k a).1 = 4
  | [], r, k => .inl rfl
  | l :: a, r, k => by
    rw [linesTo]
    split
    · exact linesTo_err a _ _
    · split
      · exact linesTo_err a _ _
      · unfold lineF levelF belowF chanF
        repeat' split
        all_goals simp

/-! ### what has been read stands -/
/-- The names are names, each once; pairs are of names; channels are names, each once, at places of names. -/
structure RS.Good (r : RS) : Prop where
  ok : ∀ s ∈ r.names, okS s = true
  once : r.names.Nodup
  pairs : ∀ q ∈ r.below, q.1 ∈ r.names ∧ q.2 ∈ r.names
  chans : ∀ q ∈ r.of, identOk q.1.data.toList = true ∧ q.2 < r.names.length
  each : (r.of.map (·.1)).Nodup

theorem RS.none_good : RS.none.Good := ⟨by simp [RS.none], by simp [RS.none], by simp [RS.none], by simp [RS.none], by simp [RS.none]⟩

theorem ofAt_none : ∀ {l : List (ByteArray × Nat)} {c : ByteArray}, ofAt l c = Option.none ↔ c ∉ l.map (·.1)
  | [], c => by simp [ofAt]
  | q :: l, c => by
    unfold ofAt
    by_cases e : q.1 = c
    · rw [if_pos e]; simp [e]
    · rw [if_neg e, ofAt_none]; simp [Ne.symm e]

theorem RS.Good.step {r : RS} (h : r.Good) (w : List ByteArray) : (lineF r w).2.Good := by
  unfold lineF
  split
  · split
    · unfold levelF
      split
      · exact h
      · rename_i h1
        split
        · exact h
        · rename_i h2
          have hn : w1 w ∉ r.names := fun hm => h2 ((Lib.containsS_iff _ _).2 hm)
          refine ⟨fun s hs => ?_, ?_, fun q hq => ?_, fun q hq => ?_, h.each⟩
          · rcases List.mem_append.1 hs with hs | hs
            · exact h.ok s hs
            · simp at hs; subst hs; simpa [okS] using h1
          · exact List.nodup_append.2 ⟨h.once, by simp, fun a ha b hb => by simp at hb; subst hb; exact fun e => hn (e ▸ ha)⟩
          · have := h.pairs q hq
            exact ⟨List.mem_append_left _ this.1, List.mem_append_left _ this.2⟩
          · have := h.chans q hq
            exact ⟨this.1, by simp; omega⟩
    · exact h
  · split
    · split
      · unfold belowF
        split
        · exact h
        · rename_i h1
          split
          · exact h
          · rename_i h2
            refine ⟨h.ok, h.once, fun q hq => ?_, h.chans, h.each⟩
            rcases List.mem_append.1 hq with hq | hq
            · exact h.pairs q hq
            · simp at hq; subst hq
              exact ⟨(Lib.containsS_iff _ _).1 (by simpa using h1), (Lib.containsS_iff _ _).1 (by simpa using h2)⟩
      · split
        · unfold chanF
          split
          · exact h
          · rename_i h1
            split
            · exact h
            · rename_i h2
              split
              · exact h
              · rename_i h3
                refine ⟨h.ok, h.once, h.pairs, fun q hq => ?_, ?_⟩
                · rcases List.mem_cons.1 hq with rfl | hq
                  · have := idx_lt r.names (w2 w)
                    exact ⟨by simpa using h1, by show (Lib.idxOfS r.names (w2 w)).toNat < r.names.length; omega⟩
                  · exact h.chans q hq
                · have h4 : ofAt r.of (w1 w) = Option.none := by simpa using h3
                  exact List.nodup_cons.2 ⟨ofAt_none.1 h4, h.each⟩
        · exact h
    · exact h

theorem RS.Good.all : ∀ (ls : List ByteArray) {r : RS} {k : Nat}, r.Good → (linesTo r k ls).2.2.Good
  | [], _, _, h => h
  | l :: ls, r, k, h => by
    unfold linesTo
    split
    · exact RS.Good.all ls h
    · split
      · exact RS.Good.all ls (h.step _)
      · exact h

theorem readF_good (s : ByteArray) : (readF s).2.2.Good := RS.none_good.all _

theorem placeI_mem {names : List ByteArray} {s : ByteArray} (h : s ∈ names) : 0 ≤ placeI names s := (Lib.idxOfS_nonneg_iff _ _).2 h

/-- Of what has been read New tells nothing but that it is too much, or no lattice. -/
theorem newE_good {r : RS} (h : r.Good) : newE r.names r.below = 0 ∨ newE r.names r.below = 8 ∨ newE r.names r.below = 9 := by
  have h1 : checkE r.names = 0 ∨ checkE r.names = 8 := by
    unfold checkE
    split
    · exact .inr rfl
    · rw [if_neg (by rw [List.all_eq_true.2 h.ok]; simp), if_neg]
      · exact .inl rfl
      · intro hd
        unfold dupTo at hd
        obtain ⟨i, hi, hc⟩ := List.any_eq_true.1 hd
        have hi := List.mem_range.1 hi
        have hm := (Lib.containsS_iff _ _).1 hc
        rw [List.getD_eq_getElem?_getD, List.getElem?_eq_getElem hi] at hm
        obtain ⟨j, hj, e⟩ := List.getElem_of_mem hm
        rw [List.length_take] at hj
        rw [List.getElem_take] at e
        have := (List.getElem_inj h.once).1 e
        omega
  unfold newE
  split
  · rcases h1 with h1 | h1
    · rename_i h2; exact absurd h1 h2
    · exact .inr (.inl h1)
  · split
    · rename_i h3
      rw [List.all_eq_false] at h3
      obtain ⟨q, hq, hf⟩ := h3
      exfalso
      apply hf
      have := h.pairs q hq
      unfold pairOk
      rw [Bool.and_eq_true, decide_eq_true_eq, decide_eq_true_eq]
      exact ⟨placeI_mem this.1, placeI_mem this.2⟩
    · split
      · exact .inr (.inr rfl)
      · exact .inl rfl

/-! ### the law of lines -/
theorem parseE_short {s : ByteArray} (h : s.size ≤ 20000) : parseE s = if (readF s).1 ≠ 0 then ((readF s).1, ((readF s).2.1 : Int)) else if newE (readF s).2.2.names (readF s).2.2.below ≠ 0 then (newE (readF s).2.2.names (readF s).2.2.below, (s.size : Int)) else (0, 0) := by
  unfold parseE
  rw [if_neg (by omega)]

def bHead : ByteArray := ⟨#[35, 32, 120, 10, 32, 9, 10]⟩

theorem bHead_words : (wordsF ⟨#[35, 32, 120]⟩).length = 0 ∧ (wordsF ⟨#[32, 9]⟩).length = 0 := by constructor <;> decide +kernel

theorem lines_head (s : ByteArray) : linesF (bHead ++ s) = ⟨#[35, 32, 120]⟩ :: ⟨#[32, 9]⟩ :: linesF s := by
  rw [linesF_eq, linesF_eq]
  have e : (bHead ++ s).data.toList = [35, 32, 120] ++ 10 :: ([32, 9] ++ 10 :: s.data.toList) := by simp [bHead]
  rw [e, linesL_cut _ (by decide), linesL_cut _ (by decide)]
  rfl

theorem read_head (s : ByteArray) : readF (bHead ++ s) = ((readF s).1, (readF s).2.1 + 7, (readF s).2.2) := by
  unfold readF
  rw [lines_head, linesTo, if_pos bHead_words.1, linesTo, if_pos bHead_words.2]
  exact linesTo_shift (linesF s) RS.none 0 7

theorem lines_more (s t : ByteArray) : linesF (s ++ ⟨#[10]⟩ ++ t) = linesF s ++ linesF t := by
  rw [linesF_eq, linesF_eq, linesF_eq]
  have e : (s ++ ⟨#[10]⟩ ++ t).data.toList = s.data.toList ++ 10 :: t.data.toList := by simp
  rw [e, linesL_append, List.map_append]

theorem read_more {s : ByteArray} (t : ByteArray) (h : (readF s).1 ≠ 0) : readF (s ++ ⟨#[10]⟩ ++ t) = readF s := by
  unfold readF at *
  rw [lines_more, linesTo_append, if_neg h]

/-- PolicyLines, its plain law. -/
theorem lines_law (s t : ByteArray) (hs : s.size ≤ 1000) (ht : t.size ≤ 1000) :
    (parseE (bHead ++ s)).1 = (parseE s).1 ∧ ((parseE s).1 ≠ 0 → (parseE (bHead ++ s)).2 = (parseE s).2 + 7) ∧ (readF (bHead ++ s)).2.2 = (readF s).2.2 ∧
    ((parseE s).1 = 2 ∨ (parseE s).1 = 3 ∨ (parseE s).1 = 4 → parseE (s ++ ⟨#[10]⟩ ++ t) = parseE s) := by
  have hz : (bHead ++ s).size = s.size + 7 := by rw [ByteArray.size_append, Nat.add_comm]; rfl
  have hz2 : (s ++ ⟨#[10]⟩ ++ t).size = s.size + 1 + t.size := by rw [ByteArray.size_append, ByteArray.size_append]; rfl
  have e1 := parseE_short (s := s) (by omega)
  have e2 := parseE_short (s := bHead ++ s) (by omega)
  have e3 := parseE_short (s := s ++ ⟨#[10]⟩ ++ t) (by omega)
  rw [read_head] at e2
  simp only at e2
  refine ⟨?_, ?_, by rw [read_head], ?_⟩
  · rw [e1, e2]
    split
    · rfl
    · split <;> rfl
  · rw [e1, e2]
    split
    · intro _; simp
    · split
      · intro _; simp only; rw [hz]; omega
      · intro h; exact absurd rfl h
  · intro h
    by_cases h0 : (readF s).1 = 0
    · exfalso
      rw [e1, if_neg (by simpa using h0)] at h
      have hg := newE_good (readF_good s)
      split at h
      · simp only at h; omega
      · simp only at h; omega
    · rw [e3, read_more t h0, e1, if_pos h0, if_pos h0]
end Go.Proofs.YtckpffkofeoinaaGreatDoor

/- token.Ident. -/
namespace Go.Proofs.YtckpffkofeoinaaGreatDoor
open Go.RowKit

/-- The cell of internal/bytealg.MaxLen holds some number. -/
def MaxL (w : World) : Prop := ∃ m, w.cell? ⟨0, 0, none⟩ = some (.int .i64 m)
theorem MaxL.below {w w' : World} (h : MaxL w) (hb : Below w.heap.size w w') : MaxL w' := by
  obtain ⟨m, hm⟩ := h
  exact ⟨m, by rw [hb.cell (World.block_lt_of_cell? w _ hm)]; exact hm⟩

set_option maxRecDepth 100000 in
theorem partF_any (b : Nat) (ps : ByteArray) (c : UInt8) (w : World) (hb : w.cell? ⟨b, 0, none⟩ = some (.string ps)) :
    Calls Tryz.prog 87 #[.int .u8 c.toNat, .pointer (some ⟨b, 0, none⟩)] w fun e w' => e = .returned (.bool (decide (Lib.indexByte ps.data.toList c < 0))) ∧ w = w' := by
  have hs : ∀ w : World, Calls Tryz.prog 64 #[.string ps, .int .u8 c.toNat] w fun e w' => e = .returned (.int .i64 (Lib.indexByte ps.data.toList c)) ∧ w' = w := fun w => by
    have h := Tryz.strings_IndexByte ps c.toNat w
    have e : (c.toNat : Int).toNat.toUInt8 = c := by simp
    rw [e] at h; exact h
  go_enter Tryz.func87, Tryz.ntmps87
  go_wp2_with (go_at_call 64; refine (hs _).mono ?_; rintro e w' ⟨rfl, rfl⟩)
  go_ret
  exact ⟨ret_bool rfl, rfl⟩

set_option maxRecDepth 100000 in
theorem idxP_byte (A : Option Addr) (c n b : Nat) (ps : ByteArray) (p : UInt8 → Bool) (hp : ∀ c, p c = !decide (Lib.indexByte ps.data.toList c < 0)) (zs : List UInt8) (w : World) (hb : w.cell? ⟨b, 0, none⟩ = some (.string ps)) (hn : zs.length = n) (hr : Rd w A (zs.map fun (z : UInt8) => Value.int .u8 z.toNat)) (hl : zs.length ≤ 140737488355328) :
    Calls Tryz.prog 86 #[.slice A n c, .func (.func 87) #[] #[.pointer (some ⟨b, 0, none⟩)]] w fun e w' => (∃ i : Int, e = .returned (.int .i64 i) ∧ decide (i ≥ 0) = !zs.all p) ∧ w = w' := by
  subst hn
  go_enter Tryz.func86, Tryz.ntmps86
  have HR := Lib.hid hr; have HB := Lib.hid hb; have HP := Lib.hid hp; clear hr hb hp
  go_wp2
  go_loop [8] (fun i => ∃ k : Nat, k ≤ zs.length ∧ i = .int .i64 k ∧ (zs.take k).all p = true) (fun i => zs.length - (intOf i).toNat)
  case atStart => exact ⟨0, Nat.zero_le _, rfl, by simp⟩
  case round =>
    obtain ⟨k, hk, rfl, hall⟩ := hrel
    have HA := Lib.hid hall; clear hall
    by_cases hlt : k < zs.length
    · obtain ⟨b, o, hA, hc⟩ := HR.out.at (j := k) (v := Value.int .u8 zs[k].toNat) (by simp [hlt])
      subst hA
      have hq := HP.out zs[k]
      by_cases hs : p zs[k] = true
      · have hn : decide (Lib.indexByte ps.data.toList zs[k] < 0) = false := by rw [hs] at hq; simpa using hq.symm
        have hk1 : (zs.take (k + 1)).all p = true := by rw [List.take_succ_eq_append_getElem hlt, List.all_append, HA.out, Bool.true_and, List.all_cons, List.all_nil, hs]; rfl
        have HS := Lib.hid hk1; clear hk1 hs hq
        have HN := Lib.hid hn; clear hn
        go_wp2_with (go_at_call 87; refine (partF_any _ _ _ _ HB.out).mono ?_; rintro e w' ⟨rfl, rfl⟩; rw [HN.out])
        go_round
        case rel => exact ⟨k + 1, by omega, by go_num, HS.out⟩
        case measure => simp [intOf]; omega
      · have hn : decide (Lib.indexByte ps.data.toList zs[k] < 0) = true := by
          have e : p zs[k] = false := by simpa using hs
          rw [e] at hq; simpa using hq.symm
        have HS := Lib.hid hs; clear hs hq
        have HN := Lib.hid hn; clear hn
        go_wp2_with (go_at_call 87; refine (partF_any _ _ _ _ HB.out).mono ?_; rintro e w' ⟨rfl, rfl⟩; rw [HN.out])
        go_ret
        refine ⟨⟨_, rfl, ?_⟩, rfl⟩
        have h1 : zs.all p = false := by
          rw [List.all_eq_false]; exact ⟨_, List.getElem_mem hlt, HS.out⟩
        rw [h1]; simp
    · go_wp2
      go_ret
      refine ⟨⟨_, rfl, ?_⟩, rfl⟩
      have h1 : zs.all p = true := by
        have := HA.out; rwa [List.take_of_length_le (by omega)] at this
      rw [h1]; rfl

set_option maxRecDepth 100000 in
theorem conP_byte (A : Option Addr) (c n b : Nat) (ps : ByteArray) (p : UInt8 → Bool) (hp : ∀ c, p c = !decide (Lib.indexByte ps.data.toList c < 0)) (zs : List UInt8) (w : World) (hb : w.cell? ⟨b, 0, none⟩ = some (.string ps)) (hn : zs.length = n) (hr : Rd w A (zs.map fun (z : UInt8) => Value.int .u8 z.toNat)) (hl : zs.length ≤ 140737488355328) :
    Calls Tryz.prog 65 #[.slice A n c, .func (.func 87) #[] #[.pointer (some ⟨b, 0, none⟩)]] w fun e w' => e = .returned (.bool (!zs.all p)) ∧ w = w' := by
  have HN := Lib.hid hn; have HP := Lib.hid hp; clear hn hp
  go_enter Tryz.func65, Tryz.ntmps65
  go_wp2_with (go_at_call 86; refine (idxP_byte _ _ _ _ ps p HP.out _ _ hb HN.out hr hl).mono ?_; rintro e w' ⟨⟨i, rfl, hi⟩, rfl⟩; have HI := Lib.hid hi; clear hi)
  go_ret
  exact ⟨ret_bool HI.out, rfl⟩

set_option maxRecDepth 100000 in
theorem only_any (s ps : ByteArray) (p : UInt8 → Bool) (hp : ∀ c, p c = !decide (Lib.indexByte ps.data.toList c < 0)) (w : World) (hs : s.size ≤ 20) :
    Calls Tryz.prog 67 #[.string s, .string ps] w fun e w' => e = .returned (.bool (s.data.toList.all p)) ∧ Below w.heap.size w w' := by
  have hsz : s.data.toList.length = s.size := by simp
  have hcv := fun (w : World) => Lib.run_convert_string_bytes (P := Tryz.prog) w 9 71 5 s Tryz.underlying9 Tryz.underlying71 Tryz.underlying5
  obtain ⟨W, hW⟩ : ∃ W, W = w.alloc (.cells #[.string ps] 9) := ⟨_, rfl⟩
  have hWs : W.heap.size = w.heap.size + 1 := by rw [hW]; simp
  have hrd : Hid (Rd (Lib.bytesWorld W 5 s) (some ⟨w.heap.size + 1, 0, none⟩) (s.data.toList.map fun (z : UInt8) => Value.int .u8 z.toNat)) := by
    rw [← hWs]
    refine .inr ⟨_, _, rfl, fun j v hj => ?_⟩
    rw [List.getElem?_map] at hj
    have hjl : j < s.data.toList.length := by
      rcases Nat.lt_or_ge j s.data.toList.length with h | h
      · exact h
      · rw [List.getElem?_eq_none h] at hj; simp at hj
    rw [List.getElem?_eq_getElem hjl] at hj
    rw [Nat.zero_add, Lib.bytesWorld_cell _ _ _ _ (by simpa using hjl), ← Option.some.inj hj, List.getD_eq_getElem?_getD, List.getElem?_eq_getElem hjl]
    rfl
  have hbel : Hid (Below W.heap.size W (Lib.bytesWorld W 5 s)) := ⟨rfl, rfl, rfl, by rw [Lib.bytesWorld_size]; omega, fun k hk => Lib.bytesWorld_at_old W _ s k hk⟩
  have hb2 : Hid (Below w.heap.size w (Lib.bytesWorld W 5 s)) := by
    have h1 : Below w.heap.size w W := by rw [hW]; exact (Below.refl _ w).alloc (Nat.le_refl _) _
    exact h1.trans (hbel.out.mono h1.size)
  have hcell : Hid ((Lib.bytesWorld W 5 s).cell? ⟨w.heap.size, 0, none⟩ = some (.string ps)) := by
    show _ = _
    rw [hbel.out.cell (by simp; omega), hW]
    have h1 := heap_alloc_new w (.cells #[.string ps] 9)
    unfold World.cell?
    simp only [h1]
    rfl
  have hcw := hcv W; rw [hWs] at hcw; clear hcv
  subst hW
  have HSZ := Lib.hid hsz; clear hsz
  have HP := Lib.hid hp; clear hp; clear hbel hWs
  go_enter Tryz.func67, Tryz.ntmps67
  go_wp2_with (go_at_call 65; refine (conP_byte _ _ _ w.heap.size ps p HP.out s.data.toList _ hcell.out HSZ.out hrd.out (by have := HSZ.out; omega)).mono ?_; rintro e w' ⟨rfl, rfl⟩)
  go_ret
  exact ⟨ret_bool (by simp), hb2.out⟩

theorem idx_any (t : ByteArray) (c : UInt8) (w : World) : Calls Tryz.prog 64 #[.string t, .int .u8 c.toNat] w fun e w' => e = .returned (.int .i64 (Lib.indexByte t.data.toList c)) ∧ w' = w := by
  have h := Tryz.strings_IndexByte t c.toNat w
  have e : (c.toNat : Int).toNat.toUInt8 = c := by simp
  rw [e] at h; exact h

theorem cat3 (a s b : ByteArray) : (a ++ s ++ b).data.toList = a.data.toList ++ s.data.toList ++ b.data.toList := by simp

set_option maxRecDepth 100000 in
theorem kept_any (s : ByteArray) (w : World) (hs : s.size ≤ 20) (h0 : 0 < s.size) (hm : MaxL w) :
    Calls Tryz.prog 68 #[.string s] w fun e w' => e = .returned (.bool (keptB s.data.toList)) ∧ w' = w := by
  have hsz : s.data.toList.length = s.size := by simp
  have hne : s.data.toList ≠ [] := fun e => by rw [e] at hsz; simp at hsz; omega
  have e2 : (!s.toList.isEmpty) = true := by rw [ByteArray.toList_eq]; simpa using hne
  have hfin : keptB s.data.toList = (decide (Lib.indexByte s.data.toList 32 < 0) && Lib.contains keptL ([32] ++ s.data.toList ++ [32])) := by
    rw [keptB, decide_eq_true hne, Bool.true_and]
  have hi : ∀ w : World, Calls Tryz.prog 64 #[.string s, .int .u8 32] w fun e w' => e = .returned (.int .i64 (Lib.indexByte s.data.toList 32)) ∧ w' = w := fun w => idx_any s 32 w
  obtain ⟨m, hm⟩ := hm
  have hc : ∀ K : ByteArray, K.size < 1000 → Calls Tryz.prog 88 #[.string K, .string (⟨#[32]⟩ ++ s ++ ⟨#[32]⟩)] w fun e w' => e = .returned (.bool (Lib.contains K.data.toList ([32] ++ s.data.toList ++ [32]))) ∧ w' = w := fun K hK => by
    have h := Tryz.strings_Contains K (⟨#[32]⟩ ++ s ++ ⟨#[32]⟩) m w (by omega) hm
    rw [cat3] at h; exact h
  clear hne
  have HF := Lib.hid hfin; have HI := Lib.hid hi; have HC := Lib.hid hc; clear hfin hi hc
  cases hd : decide (Lib.indexByte s.data.toList 32 < 0) with
  | false =>
    have HD := Lib.hid hd; clear hd
    go_enter Tryz.func68, Tryz.ntmps68
    go_wp2_with (go_at_call 64; refine (HI.out _).mono ?_; rintro e w' ⟨rfl, rfl⟩; have hq := of_decide_eq_false HD.out)
    go_ret
    exact ⟨ret_bool (by rw [HF.out, HD.out]; rfl), rfl⟩
  | true =>
    have HD := Lib.hid hd; clear hd
    go_enter Tryz.func68, Tryz.ntmps68
    go_wp2_with (first | (go_at_call 64; refine (HI.out _).mono ?_; rintro e w' ⟨rfl, rfl⟩; have hq := of_decide_eq_true HD.out) | (go_at_call 88; refine (HC.out _ (by decide)).mono ?_; rintro e w' ⟨rfl, rfl⟩))
    go_ret
    exact ⟨ret_bool (by rw [HF.out, HD.out]; rfl), rfl⟩
end Go.Proofs.YtckpffkofeoinaaGreatDoor

/- token.Ident: whole. -/
namespace Go.Proofs.YtckpffkofeoinaaGreatDoor
open Go.RowKit

set_option maxRecDepth 100000 in
theorem ident_any (s : ByteArray) (w : World) (hs : s.size ≤ 140737488351232) (hm : MaxL w) :
    Calls Tryz.prog 43 #[.string s] w fun e w' => e = .returned (.bool (identOk s.data.toList)) ∧ Below w.heap.size w w' := by
  have hsz : s.data.toList.length = s.size := by simp
  by_cases h0 : s.size = 0
  · have e1 : s.toList = [] := by rw [ByteArray.toList_eq]; exact List.eq_nil_of_length_eq_zero (by omega)
    have e2 : (!s.toList.isEmpty) = false := by simp [e1]
    have hfin : identOk s.data.toList = false := by rw [List.eq_nil_of_length_eq_zero (l := s.data.toList) (by omega)]; rfl
    have HF := Lib.hid hfin; clear hfin
    go_enter Tryz.func43, Tryz.ntmps43
    go_wp2
    go_ret
    exact ⟨ret_bool HF.out.symm, Below.refl _ _⟩
  · have hpos : 0 < s.size := by omega
    have hne : s.data.toList ≠ [] := fun e => by rw [e] at hsz; simp at hsz; omega
    have e2 : (!s.toList.isEmpty) = true := by rw [ByteArray.toList_eq]; simpa using hne
    by_cases h20 : 20 < s.size
    · clear hne
      have hfin : identOk s.data.toList = false := by rw [identOk, decide_eq_false (p := s.data.toList.length ≤ 20) (by omega)]; simp
      have HF := Lib.hid hfin; clear hfin
      go_enter Tryz.func43, Tryz.ntmps43
      go_wp2
      go_ret
      exact ⟨ret_bool HF.out.symm, Below.refl _ _⟩
    · have hle : s.size ≤ 20 := by omega
      have hfin : identOk s.data.toList = (s.data.toList.all isPart && (decide (Lib.indexByte digitsL s[0] < 0) && !keptB s.data.toList)) := by
        have hh : s.data.toList.headD 0 = s[0] := by
          rw [List.headD_eq_head?_getD, List.head?_eq_getElem?, List.getElem?_eq_getElem (by omega)]; rfl
        rw [identOk, decide_eq_true hne, decide_eq_true (p := s.data.toList.length ≤ 20) (by omega), hh]; simp
      clear hne
      have ho : ∀ w : World, Calls Tryz.prog 67 #[.string s, .string ⟨#[97, 98, 99, 100, 101, 102, 103, 104, 105, 106, 107, 108, 109, 110, 111, 112, 113, 114, 115, 116, 117, 118, 119, 120, 121, 122, 65, 66, 67, 68, 69, 70, 71, 72, 73, 74, 75, 76, 77, 78, 79, 80, 81, 82, 83, 84, 85, 86, 87, 88, 89, 90, 95, 48, 49, 50, 51, 52, 53, 54, 55, 56, 57]⟩] w fun e w' => e = .returned (.bool (s.data.toList.all isPart)) ∧ Below w.heap.size w w' := fun w => only_any s _ isPart (fun c => rfl) w hle
      have hk : ∀ w : World, MaxL w → Calls Tryz.prog 68 #[.string s] w fun e w' => e = .returned (.bool (keptB s.data.toList)) ∧ w' = w := fun w h => kept_any s w hle hpos h
      have hi : ∀ w : World, Calls Tryz.prog 64 #[.string ⟨#[48, 49, 50, 51, 52, 53, 54, 55, 56, 57]⟩, .int .u8 s[0].toNat] w fun e w' => e = .returned (.int .i64 (Lib.indexByte digitsL s[0])) ∧ w' = w := fun w => idx_any _ _ w
      have HF := Lib.hid hfin; have HO := Lib.hid ho; have HK := Lib.hid hk; have HI := Lib.hid hi; clear hfin ho hk hi
      have HM := Lib.hid hm; clear hm
      cases ha : s.data.toList.all isPart with
      | false =>
        have HA := Lib.hid ha; clear ha
        go_enter Tryz.func43, Tryz.ntmps43
        go_wp2_with (go_at_call 67; refine (HO.out _).mono ?_; rintro e w1 ⟨rfl, hb1⟩; rw [HA.out]; have HB1 := Lib.hid hb1; clear hb1)
        go_ret
        exact ⟨ret_bool (by rw [HF.out, HA.out]; rfl), HB1.out⟩
      | true =>
        have HA := Lib.hid ha; clear ha
        cases hd : decide (Lib.indexByte digitsL s[0] < 0) with
        | false =>
          have HD := Lib.hid hd; clear hd
          go_enter Tryz.func43, Tryz.ntmps43
          go_wp2_with (first | (go_at_call 67; refine (HO.out _).mono ?_; rintro e w1 ⟨rfl, hb1⟩; rw [HA.out]; have HB1 := Lib.hid hb1; clear hb1) | (go_at_call 64; refine (HI.out _).mono ?_; rintro e w' ⟨rfl, rfl⟩; have hq := of_decide_eq_false HD.out))
          go_ret
          exact ⟨ret_bool (by rw [HF.out, HA.out, HD.out]; rfl), HB1.out⟩
        | true =>
          have HD := Lib.hid hd; clear hd
          go_enter Tryz.func43, Tryz.ntmps43
          go_wp2_with (first | (go_at_call 67; refine (HO.out _).mono ?_; rintro e w1 ⟨rfl, hb1⟩; rw [HA.out]; have HB1 := Lib.hid hb1; clear hb1) | (go_at_call 64; refine (HI.out _).mono ?_; rintro e w' ⟨rfl, rfl⟩; have hq := of_decide_eq_true HD.out) | (go_at_call 68; refine (HK.out _ (HM.out.below HB1.out)).mono ?_; rintro e w' ⟨rfl, rfl⟩))
          go_ret
          exact ⟨ret_bool (by rw [HF.out, HA.out, HD.out]; simp), HB1.out⟩
end Go.Proofs.YtckpffkofeoinaaGreatDoor

/- policy.words. -/
namespace Go.Proofs.YtckpffkofeoinaaGreatDoor
open Go.RowKit

theorem i32_in {x : Nat} (h : x ≤ 1114111) : (-2147483648 : Int) ≤ x ∧ (x : Int) ≤ 2147483647 := by omega

set_option maxRecDepth 100000 in
theorem blank_any (x : Nat) (hx : x ≤ 1114111) (w : World) :
    Calls Tryz.prog 39 #[.int .i32 (x : Int)] w fun e w' => e = .returned (.bool (isBlank x)) ∧ w' = w := by
  have hfin : isBlank x = (decide ((x : Int) = 32) || decide ((x : Int) = 9)) := by
    unfold isBlank
    rw [Bool.eq_iff_iff]; simp; omega
  have HF := Lib.hid hfin; clear hfin
  by_cases h1 : (x : Int) = 32
  · go_enter Tryz.func39, Tryz.ntmps39
    go_wp2
    go_ret
    exact ⟨ret_bool (by rw [HF.out, decide_eq_true h1]; rfl), rfl⟩
  · go_enter Tryz.func39, Tryz.ntmps39
    go_wp2
    go_ret
    exact ⟨ret_bool (by rw [HF.out, Bool.eq_iff_iff]; simp [h1]), rfl⟩

theorem blank_pays (w : World) : PredAtRunes Tryz.prog 39 #[] isBlank w := fun W x hx _ => by
  refine (blank_any x hx W).mono ?_
  rintro e w' ⟨rfl, rfl⟩
  exact ⟨rfl, 0, rfl⟩

set_option maxRecDepth 100000 in
theorem words_any (l : ByteArray) (w : World) (hs : l.size ≤ 4294960000) (hm : MaxL w) :
    Calls Tryz.prog 18 #[.string l] w fun e w' => ∃ A, e = .returned (.slice (some ⟨A, 0, none⟩) (wordsF l).length (wordsF l).length) ∧ w'.ownsRow w.heap.size 9 1 (.slice (some ⟨A, 0, none⟩) (wordsF l).length (wordsF l).length) (wordsF l).length ((wordsF l).map Value.string) ∧ Below w.heap.size w w' := by
  obtain ⟨m, hm⟩ := hm
  have hh : (headF l).size ≤ l.size := by
    show ((Lib.cut l.data.toList [35]).1.toArray).size ≤ l.size
    unfold Lib.cut
    split
    · simp only [List.size_toArray, List.length_take]
      have : l.data.toList.length = l.size := rfl
      omega
    · simp
  have hcut : ∃ b c, Calls Tryz.prog 37 #[.string l, .string ⟨#[35]⟩] w fun e w' => e = .returned (.tuple #[.string (headF l), .string b, .bool c]) ∧ ∃ n, w' = w.drewN n := ⟨_, _, Tryz.strings_Cut l ⟨#[35]⟩ m w (by omega) hm⟩
  obtain ⟨b, c, hcut⟩ := hcut
  have hf : ∀ w : World, Calls Tryz.prog 38 #[.string (headF l), .func (.func 39) #[] #[]] w fun e w' => ∃ A, e = .returned (.slice (some ⟨A, 0, none⟩) (wordsF l).length (wordsF l).length) ∧ w.heap.size ≤ A ∧
      w'.ownsRow w.heap.size 9 1 (.slice (some ⟨A, 0, none⟩) (wordsF l).length (wordsF l).length) (wordsF l).length ((wordsF l).map Value.string) ∧ Below w.heap.size w w' := fun w =>
    Tryz.strings_FieldsFunc_runes 39 #[] (fun args w => by kernel_rfl) isBlank (headF l) w (by omega) (blank_pays w)
  have HC := Lib.hid hcut; have HF := Lib.hid hf; clear hcut hf hh
  generalize headF l = h at HC HF
  generalize wordsF l = ws at HF ⊢
  go_enter Tryz.func18, Tryz.ntmps18
  go_wp2_with (first | (go_at_call 37; refine HC.out.mono ?_; rintro e w1 ⟨rfl, nq, rfl⟩) | (go_at_call 38; refine (HF.out _).mono ?_; rintro e w2 ⟨A, rfl, hA, ho, hb⟩; have HB := Lib.hid hb; have HO := Lib.hid ho; clear hb ho hA))
  go_ret
  exact ⟨A, rfl, HO.out, ⟨HB.out.os, HB.out.tape, HB.out.output, HB.out.size, HB.out.block⟩⟩
end Go.Proofs.YtckpffkofeoinaaGreatDoor

/- The map of channels as it lies; Level, May, Lattice. -/
namespace Go.Proofs.YtckpffkofeoinaaGreatDoor
open Go.RowKit Go.Maps

theorem klaw : Keyed Tryz.prog 9 := string_keyed Tryz.underlying9
theorem zeroI (w : World) : (zeroValue 3).run Tryz.prog w = .ok (.int .i64 0) w := by kernel_rfl

noncomputable abbrev elemI : Value → Option (DataW Unit × List MemPlace) := plainElem Tryz.prog 3
def keyL (c : ByteArray) : Lit := .string c.data.toList

theorem keyL_ne {c d : ByteArray} (h : c ≠ d) : keyL c ≠ keyL d := fun e => by
  apply h
  have e2 : c.data.toList = d.data.toList := by injection e
  have e3 : c.data = d.data := Array.toList_inj.1 e2
  cases c; cases d; simp at e3; subst e3; rfl

theorem keyL_of {c : ByteArray} (h : c.size ≤ maxLen) : keyOf Tryz.prog 9 (.string c) = some (keyL c) := Go.WideMaps.keyOf_string_mk Tryz.underlying9 h
theorem keyL_isKey (c : ByteArray) : WideAt.IsKeyLit (keyL c) := by unfold keyL; first | trivial | exact True.intro | simp [WideAt.IsKeyLit]

/-- Block b is the map that tells what 'l' tells. -/
def OfIs (w : World) (b : Nat) (l : List (ByteArray × Nat)) : Prop :=
  ∃ D : DataW Unit, w.ownsMap Tryz.prog 9 elemI b l.length D ∧ ∀ c, has D (keyL c) = (ofAt l c).isSome ∧ D.atKey (keyL c) (.lit (.int .i64 0)) = .lit (.int .i64 ((ofAt l c).getD 0 : Nat))

theorem OfIs.made (w : World) : OfIs (w.alloc (.map #[] 0)) w.heap.size [] := ⟨_, World.ownsMap_made _ _ _ _, fun _ => ⟨rfl, rfl⟩⟩

theorem OfIs.put {w : World} {b : Nat} {l : List (ByteArray × Nat)} {D : DataW Unit} (h : ∀ c, has D (keyL c) = (ofAt l c).isSome ∧ D.atKey (keyL c) (.lit (.int .i64 0)) = .lit (.int .i64 ((ofAt l c).getD 0 : Nat))) (hD : IsMap D)
    {x : ByteArray} {n : Nat} (ho : w.ownsMap Tryz.prog 9 elemI b (l.length + 1) (D.put (keyL x) (.lit (.int .i64 (n : Int))))) : OfIs w b ((x, n) :: l) := by
  refine ⟨_, ho, fun c => ?_⟩
  by_cases e : x = c
  · subst e
    rw [has_put_same hD (keyL_isKey x), atKey_put_same hD (keyL_isKey x)]
    simp [ofAt]
  · have e2 : keyL c ≠ keyL x := keyL_ne (Ne.symm e)
    rw [has_put_other e2, atKey_put_other e2]
    simp only [ofAt, e, if_false]
    exact h c

theorem OfIs.kept {w w' : World} {b : Nat} {l : List (ByteArray × Nat)} {row : Option Nat} (h : OfIs w b l) (hg : w.grownBy w' row) (hne : some b ≠ row) : OfIs w' b l := by
  obtain ⟨D, h1, h2⟩ := h
  exact ⟨D, h1.kept hg hne, h2⟩
theorem OfIs.lt {w : World} {b : Nat} {l : List (ByteArray × Nat)} (h : OfIs w b l) : b < w.heap.size := by
  obtain ⟨D, h1, _⟩ := h; exact h1.lt
theorem OfIs.below {w w' : World} {b : Nat} {l : List (ByteArray × Nat)} (h : OfIs w b l) (hb : Below w.heap.size w w') : OfIs w' b l := by
  have hlt := h.lt
  obtain ⟨D, ⟨es, clock, h1, h2⟩, h3⟩ := h
  exact ⟨D, ⟨es, clock, by rw [hb.block b hlt]; exact h1, h2⟩, h3⟩

/-- The policy r lies in block p. -/
def Pol (w : World) (p : Nat) (r : RS) : Prop :=
  ∃ l b, w.heap[p]? = some (.cells #[.pointer (some ⟨l, 0, none⟩), .map (some b)] 57 (0, 0)) ∧ Lat w l (newL r.names r.below) ∧ OfIs w b r.of ∧ ∀ q ∈ r.of, q.2 < r.names.length

theorem Pol.below {w w' : World} {p : Nat} {r : RS} (h : Pol w p r) (hb : Below w.heap.size w w') : Pol w' p r := by
  obtain ⟨l, b, h1, h2, h3, h4⟩ := h
  exact ⟨l, b, by rw [hb.block p (lt_of_block h1)]; exact h1, h2.below hb, h3.below hb, h4⟩

def levelI (r : RS) (c : ByteArray) : Int := match ofAt r.of c with | some n => (n : Int) | none => -1
def mayB (r : RS) (a b : ByteArray) : Bool := belowB (newL r.names r.below) (levelI r a) (levelI r b)

set_option maxRecDepth 100000 in
theorem level_any (p : Nat) (r : RS) (c : ByteArray) (w : World) (hc : c.size ≤ maxLen) (h : Pol w p r) :
    Calls Tryz.prog 7 #[.pointer (some ⟨p, 0, none⟩), .string c] w fun e w' => e = .returned (.int .i64 (levelI r c)) ∧ w' = w := by
  obtain ⟨l, b, h1, _, ⟨D, h3, h4⟩, _⟩ := h
  have c1 : w.cell? ⟨p, 1, none⟩ = some (.map (some b)) := by simp [World.cell?, h1]
  have hk := keyL_of hc
  obtain ⟨h5, h6⟩ := h4 c
  have HO := Lib.hid h3; have HK := Lib.hid hk; have H6 := Lib.hid h6; clear h3 h4 hk h6 h1
  cases ho : ofAt r.of c with
  | none =>
    rw [ho] at h5
    have hfin : levelI r c = -1 := by unfold levelI; rw [ho]
    rw [hfin]
    simp at h5
    have H5 := Lib.hid h5; clear h5 ho hfin
    go_enter Tryz.func7, Tryz.ntmps7
    go_wp2_with (at_lookup; refine wpList_lookup_own_ok_int _ rfl _ _ 47 rfl 9 3 .i64 klaw Tryz.underlying47 Tryz.underlying3 (zeroI _) b _ D rfl HO.out _ _ rfl HK.out ?_; intro cc hat hwc; rw [H5.out]; clear hat hwc)
    go_ret
    exact ⟨rfl, rfl⟩
  | some n =>
    rw [ho] at h5
    have hfin : levelI r c = (n : Int) := by unfold levelI; rw [ho]
    have H7 : Hid (∀ cc : Int, D.atKey (keyL c) (.lit (.int .i64 0)) = .lit (.int .i64 cc) → cc = (n : Int)) := by
      intro cc hcc
      have e := H6.out
      rw [ho] at e
      rw [e] at hcc
      injection hcc with hcc
      injection hcc with _ hcc
      exact hcc.symm
    rw [hfin]
    simp at h5
    have H5 := Lib.hid h5; clear h5 ho hfin
    go_enter Tryz.func7, Tryz.ntmps7
    go_wp2_with (at_lookup; refine wpList_lookup_own_ok_int _ rfl _ _ 47 rfl 9 3 .i64 klaw Tryz.underlying47 Tryz.underlying3 (zeroI _) b _ D rfl HO.out _ _ rfl HK.out ?_; intro cc hat hwc; rw [H5.out]; have hcc := Lib.hid (H7.out cc hat); clear hat hwc)
    go_ret
    exact ⟨ret_int hcc.out, rfl⟩

set_option maxRecDepth 100000 in
theorem lattice_any (p l : Nat) (w : World) (b : Nat) (h1 : w.heap[p]? = some (.cells #[.pointer (some ⟨l, 0, none⟩), .map (some b)] 57 (0, 0))) :
    Calls Tryz.prog 15 #[.pointer (some ⟨p, 0, none⟩)] w fun e w' => e = .returned (.pointer (some ⟨l, 0, none⟩)) ∧ w' = w := by
  have c1 : w.cell? ⟨p, 0, none⟩ = some (.pointer (some ⟨l, 0, none⟩)) := by simp [World.cell?, h1]
  clear h1
  go_enter Tryz.func15, Tryz.ntmps15
  go_wp2
  go_ret
  exact ⟨rfl, rfl⟩

set_option maxRecDepth 100000 in
theorem may_any (p : Nat) (r : RS) (x y : ByteArray) (w : World) (hx : x.size ≤ maxLen) (hy : y.size ≤ maxLen) (h : Pol w p r) :
    Calls Tryz.prog 9 #[.pointer (some ⟨p, 0, none⟩), .string x, .string y] w fun e w' => e = .returned (.bool (mayB r x y)) ∧ ∃ n, w' = w.drewN n := by
  have HP := Lib.hid h
  obtain ⟨l, b, h1, h2, h3, h4⟩ := h
  have c1 : w.cell? ⟨p, 0, none⟩ = some (.pointer (some ⟨l, 0, none⟩)) := by simp [World.cell?, h1]
  have HL : Hid (∀ (n : Nat) (i j : Int), Calls Tryz.prog 25 #[.pointer (some ⟨l, 0, none⟩), .int .i64 i, .int .i64 j] (w.drewN n) fun e w' => e = .returned (.bool (belowB (newL r.names r.below) i j)) ∧ w' = w.drewN n) := fun n i j =>
    (below_any l _ i j (w.drewN n) (h2.below (below_drewN (Below.refl _ w) n))).mono fun e w' h => ⟨h.1, h.2.symm⟩
  have HV : Hid (∀ (n : Nat) (c : ByteArray), c.size ≤ maxLen → Calls Tryz.prog 7 #[.pointer (some ⟨p, 0, none⟩), .string c] (w.drewN n) fun e w' => e = .returned (.int .i64 (levelI r c)) ∧ w' = w.drewN n) := fun n c hc =>
    level_any p r c (w.drewN n) hc (HP.out.below (below_drewN (Below.refl _ w) n))
  clear h1 h2 h3 h4
  go_enter Tryz.func9, Tryz.ntmps9
  go_wp2
  go_quiet ((first | (go_at_call 25; exact Calls.quiet_of_same (HL.out _ _ _)) | (go_at_call 7; exact Calls.quiet_of_same (HV.out _ _ (by assumption)))))
  go_wp2
  go_ret
  exact ⟨ret_bool rfl, _, rfl⟩
end Go.Proofs.YtckpffkofeoinaaGreatDoor
