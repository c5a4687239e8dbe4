/- The policy of a text, as plain functions. -/
import Derived.Test.YtckpffkofeoinaaDoorNew
import Derived.Lib.FieldsP
import Derived.Lib.Split
import Derived.Lib.IndexMore
namespace Go.Proofs.YtckpffkofeoinaaDoor

def isBlank (n : Nat) : Bool := n == 32 || n == 9
def linesF (s : ByteArray) : List ByteArray := Lib.splitB ⟨#[10]⟩ 0 (Lib.countB s ⟨#[10]⟩) s
def headF (l : ByteArray) : ByteArray := ⟨(Lib.cut l.data.toList [35]).1.toArray⟩
def wordsF (l : ByteArray) : List ByteArray := Lib.goFieldsP isBlank (headF l)

def partsL : List UInt8 := [97, 98, 99, 100, 101, 102, 103, 104, 105, 106, 107, 108, 109, 110, 111, 112, 113, 114, 115, 116, 117, 118, 119, 120, 121, 122, 65, 66, 67, 68, 69, 70, 71, 72, 73, 74, 75, 76, 77, 78, 79, 80, 81, 82, 83, 84, 85, 86, 87, 88, 89, 90, 95, 48, 49, 50, 51, 52, 53, 54, 55, 56, 57]
def digitsL : List UInt8 := [48, 49, 50, 51, 52, 53, 54, 55, 56, 57]
def keptL : List UInt8 := [32, 118, 97, 114, 32, 112, 114, 111, 99, 32, 105, 110, 116, 32, 98, 111, 111, 108, 32, 97, 114, 114, 32, 102, 117, 110, 32, 105, 110, 32, 111, 117, 116, 32, 105, 102, 32, 101, 108, 115, 101, 32, 119, 104, 105, 108, 101] ++ [32, 99, 97, 108, 108, 32, 114, 101, 116, 117, 114, 110, 32, 116, 104, 114, 111, 119, 32, 116, 114, 121, 32, 99, 97, 116, 99, 104, 32, 110, 101, 119, 32, 108, 101, 110, 32, 116, 114, 117, 101, 32, 102, 97, 108, 115, 101, 32]

def isPart (c : UInt8) : Bool := !decide (Lib.indexByte partsL c < 0)
def keptB (l : List UInt8) : Bool := decide (l ≠ []) && (decide (Lib.indexByte l 32 < 0) && Lib.contains keptL ([32] ++ l ++ [32]))
def identOk (l : List UInt8) : Bool := decide (l ≠ []) && (decide (l.length ≤ 20) && (l.all isPart && (decide (Lib.indexByte digitsL (l.headD 0) < 0) && !keptB l)))

/-- What lines said. -/
structure RS where
  names : List ByteArray
  below : List (ByteArray × ByteArray)
  of : List (ByteArray × Nat)

def RS.none : RS := ⟨[], [], []⟩

def ofAt : List (ByteArray × Nat) → ByteArray → Option Nat
  | [], _ => .none
  | q :: l, c => if q.1 = c then some q.2 else ofAt l c

def bLevel : ByteArray := ⟨#[108, 101, 118, 101, 108]⟩
def bBelow : ByteArray := ⟨#[98, 101, 108, 111, 119]⟩
def bChannel : ByteArray := ⟨#[99, 104, 97, 110, 110, 101, 108]⟩

def w0 (w : List ByteArray) : ByteArray := w.getD 0 ByteArray.empty
def w1 (w : List ByteArray) : ByteArray := w.getD 1 ByteArray.empty
def w2 (w : List ByteArray) : ByteArray := w.getD 2 ByteArray.empty

def levelF (r : RS) (w : List ByteArray) : Int × RS :=
  if nameOk (w1 w).data.toList = false then (3, r) else if Lib.containsS r.names (w1 w) = true then (4, r) else (0, { r with names := r.names ++ [w1 w] })
def belowF (r : RS) (w : List ByteArray) : Int × RS :=
  if Lib.containsS r.names (w1 w) = false then (3, r) else if Lib.containsS r.names (w2 w) = false then (3, r) else (0, { r with below := r.below ++ [(w1 w, w2 w)] })
def chanF (r : RS) (w : List ByteArray) : Int × RS :=
  if identOk (w1 w).data.toList = false then (3, r) else if Lib.idxOfS r.names (w2 w) < 0 then (3, r) else
    if (ofAt r.of (w1 w)).isSome = true then (4, r) else (0, { r with of := (w1 w, (Lib.idxOfS r.names (w2 w)).toNat) :: r.of })
def lineF (r : RS) (w : List ByteArray) : Int × RS :=
  if w.length = 2 then (if w0 w = bLevel then levelF r w else (2, r))
  else if w.length = 3 then (if w0 w = bBelow then belowF r w else if w0 w = bChannel then chanF r w else (2, r))
  else (2, r)

/-- All lines: what is wrong, where its line begins, what was said. -/
def linesTo (r : RS) (k : Nat) : List ByteArray → Int × Nat × RS
  | [] => (0, k, r)
  | l :: ls => if (wordsF l).length = 0 then linesTo r (k + (l.size + 1)) ls
    else if (lineF r (wordsF l)).1 = 0 then linesTo (lineF r (wordsF l)).2 (k + (l.size + 1)) ls
    else ((lineF r (wordsF l)).1, k, r)

def readF (s : ByteArray) : Int × Nat × RS := linesTo RS.none 0 (linesF s)

/-- What is wrong with a text, and where. -/
def parseE (s : ByteArray) : Int × Int :=
  if 20000 < s.size then (7, 0) else if (readF s).1 ≠ 0 then ((readF s).1, (readF s).2.1)
  else if newE (readF s).2.2.names (readF s).2.2.below ≠ 0 then (newE (readF s).2.2.names (readF s).2.2.below, s.size) else (0, 0)

def shownA : ByteArray := ⟨#[108, 101, 118, 101, 108, 32, 108, 111, 119, 10, 108, 101, 118, 101, 108, 32, 104, 105, 103, 104, 10, 98, 101, 108, 111, 119, 32, 108, 111, 119, 32, 104, 105, 103, 104, 10, 99, 104, 97, 110, 110, 101, 108, 32, 120, 32, 108, 111, 119, 10]⟩
def shownB : ByteArray := ⟨#[108, 101, 118, 101, 108, 32, 108, 111, 119, 32, 35, 32, 97, 10, 10, 99, 104, 97, 110, 110, 101, 108, 32, 120, 32, 104, 105, 103, 104]⟩
def shownC : ByteArray := ⟨#[108, 101, 118, 101, 108, 32, 97, 10, 108, 101, 118, 101, 108, 32, 98]⟩

theorem shownA_e : parseE shownA = (0, 0) := by decide +kernel
theorem shownB_e : parseE shownB = (3, 15) := by decide +kernel
theorem shownC_e : parseE shownC = (9, 15) := by decide +kernel
theorem shownA_x : ofAt (readF shownA).2.2.of ⟨#[120]⟩ = some 0 := by decide +kernel
theorem shownA_b : belowB (newL (readF shownA).2.2.names (readF shownA).2.2.below) 0 0 = true := by decide +kernel

/-! ### how long pieces are -/
theorem extract_le (s : ByteArray) (a b : Nat) : (s.extract a b).size ≤ s.size := by
  rw [ByteArray.size_extract]; omega

theorem words_le {l x : ByteArray} (h : x ∈ wordsF l) : x.size ≤ l.size := by
  have h1 : (headF l).size ≤ l.size := by
    show ((Lib.cut l.data.toList [35]).1.toArray).size ≤ l.size
    unfold Lib.cut
    split
    · simp only [List.size_toArray, List.length_take]
      have : l.data.toList.length = l.size := rfl
      omega
    · simp
  unfold wordsF Lib.goFieldsP at h
  obtain ⟨q, _, rfl⟩ := List.mem_map.1 h
  exact Nat.le_trans (extract_le _ _ _) h1

theorem pieces_le (sep : ByteArray) (save : Nat) : ∀ (k : Nat) (s : ByteArray) (x : ByteArray), x ∈ Lib.splitB sep save k s → x.size ≤ s.size
  | 0, s, x, h => by
    rw [Lib.splitB_zero] at h
    simp at h; subst h; exact Nat.le_refl _
  | k + 1, s, x, h => by
    unfold Lib.splitB at h
    split at h
    · simp at h; subst h; exact Nat.le_refl _
    · rcases List.mem_cons.1 h with rfl | h
      · exact extract_le _ _ _
      · exact Nat.le_trans (pieces_le sep save k _ x h) (extract_le _ _ _)

theorem lines_le {s x : ByteArray} (h : x ∈ linesF s) : x.size ≤ s.size := pieces_le _ _ _ _ _ h

/-! ### what lines keep -/
structure RS.Ok (r : RS) (m k : Nat) : Prop where
  short : ∀ s ∈ r.names, s.size ≤ m
  names : r.names.length ≤ k
  below : r.below.length ≤ k
  of : r.of.length ≤ k
  at_ : ∀ q ∈ r.of, q.2 < r.names.length

theorem RS.none_ok (m k : Nat) : RS.none.Ok m k := ⟨by simp [RS.none], by simp [RS.none], by simp [RS.none], by simp [RS.none], by simp [RS.none]⟩

theorem idx_lt (names : List ByteArray) (s : ByteArray) : Lib.idxOfS names s < (names.length : Int) := by
  have key : ∀ (l : List ByteArray) (i : Nat), Lib.idxFromS l s i < ((i + l.length : Nat) : Int) ∨ Lib.idxFromS l s i = -1 := by
    intro l
    induction l with
    | nil => intro i; right; rfl
    | cons x l ih =>
      intro i
      by_cases e : x = s
      · left
        rw [Lib.idxFromS_hit s (x :: l) 0 i (by simp) (by simpa using e) (by omega)]
        simp; omega
      · have h1 := ih (i + 1)
        have h2 : Lib.idxFromS (x :: l) s i = Lib.idxFromS l s (i + 1) := by simp [Lib.idxFromS, e]
        rw [h2]
        simp only [List.length_cons]
        rcases h1 with h1 | h1
        · left; omega
        · exact .inr h1
  have := key names 0
  unfold Lib.idxOfS
  omega

theorem RS.Ok.step {r : RS} {m k : Nat} (h : r.Ok m k) {w : List ByteArray} (hw : ∀ x ∈ w, x.size ≤ m) : (lineF r w).2.Ok m (k + 1) := by
  have h0 : r.Ok m (k + 1) := ⟨h.short, by have := h.names; omega, by have := h.below; omega, by have := h.of; omega, h.at_⟩
  have hm : ∀ i, i < w.length → (w.getD i ByteArray.empty).size ≤ m := fun i hi => by
    rw [List.getD_eq_getElem?_getD, List.getElem?_eq_getElem hi]; exact hw _ (List.getElem_mem hi)
  unfold lineF
  split
  · rename_i h2
    split
    · unfold levelF
      split
      · exact h0
      · split
        · exact h0
        · refine ⟨fun s hs => ?_, by simp; have := h.names; omega, h0.below, h0.of, fun q hq => by have := h.at_ q hq; simp; omega⟩
          rcases List.mem_append.1 hs with hs | hs
          · exact h.short s hs
          · simp at hs; subst hs; exact hm 1 (by omega)
    · exact h0
  · split
    · split
      · unfold belowF
        split
        · exact h0
        · split
          · exact h0
          · exact ⟨h.short, h0.names, by simp; have := h.below; omega, h0.of, h.at_⟩
      · split
        · unfold chanF
          split
          · exact h0
          · split
            · exact h0
            · rename_i hi
              split
              · exact h0
              · refine ⟨h.short, h0.names, h0.below, by simp; have := h.of; omega, fun q hq => ?_⟩
                rcases List.mem_cons.1 hq with rfl | hq
                · have := idx_lt r.names (w2 w)
                  show (Lib.idxOfS r.names (w2 w)).toNat < r.names.length
                  omega
                · exact h.at_ q hq
        · exact h0
    · exact h0

theorem RS.Ok.all {m : Nat} : ∀ (ls : List ByteArray) {r : RS} {k n : Nat}, r.Ok m n → (∀ x ∈ ls, x.size ≤ m) → (linesTo r k ls).2.2.Ok m (n + ls.length)
  | [], r, k, n, h, _ => h
  | l :: ls, r, k, n, h, hl => by
    have hl' : ∀ x ∈ ls, x.size ≤ m := fun x hx => hl x (by simp [hx])
    have h1 : r.Ok m (n + (l :: ls).length) := ⟨h.short, Nat.le_trans h.names (by omega), Nat.le_trans h.below (by omega), Nat.le_trans h.of (by omega), h.at_⟩
    have h2 : (lineF r (wordsF l)).2.Ok m (n + 1) := h.step fun x hx => Nat.le_trans (words_le hx) (hl l (by simp))
    have e : n + (l :: ls).length = n + 1 + ls.length := by simp; omega
    unfold linesTo
    split
    · have := RS.Ok.all ls (k := k + (l.size + 1)) h hl'
      exact ⟨this.short, by have := this.names; simp; omega, by have := this.below; simp; omega, by have := this.of; simp; omega, this.at_⟩
    · split
      · rw [e]; exact RS.Ok.all ls h2 hl'
      · exact h1

theorem ofAt_mem : ∀ {l : List (ByteArray × Nat)} {c : ByteArray} {n : Nat}, ofAt l c = some n → (c, n) ∈ l
  | [], _, _, h => by cases h
  | q :: l, c, n, h => by
    unfold ofAt at h
    split at h
    · rename_i e
      cases h; subst e; simp
    · exact List.mem_cons_of_mem _ (ofAt_mem h)
end Go.Proofs.YtckpffkofeoinaaDoor
