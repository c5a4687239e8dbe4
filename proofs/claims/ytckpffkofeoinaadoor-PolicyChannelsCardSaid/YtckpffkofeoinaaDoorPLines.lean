/- Lines and words of a text as plain lists of bytes. -/
import Derived.Lib.FieldsP
import Derived.Lib.Split
import Derived.Lib.SplitLaws
import Derived.Lib.IndexMore
import Derived.Lib.IndexLaws
import Derived.Lib.TrimU
import Derived.Lib.TrimUEq
import Derived.Lib.SpaceUEq
namespace Go.Proofs.YtckpffkofeoinaaDoor

/-- A text cut at each byte 10. -/
def linesL : List UInt8 → List (List UInt8)
  | [] => [[]]
  | c :: l => if c = 10 then [] :: linesL l else match linesL l with
    | [] => [[c]]
    | h :: t => (c :: h) :: t

theorem linesL_cons (c : UInt8) (l : List UInt8) : linesL (c :: l) = if c = 10 then [] :: linesL l else match linesL l with
    | [] => [[c]]
    | h :: t => (c :: h) :: t := rfl

theorem linesL_ne (l : List UInt8) : linesL l ≠ [] := by
  cases l with
  | nil => simp [linesL]
  | cons c l =>
    unfold linesL
    split
    · simp
    · split <;> simp

theorem linesL_none : ∀ {a : List UInt8}, (∀ c ∈ a, c ≠ 10) → linesL a = [a]
  | [], _ => rfl
  | c :: a, h => by
    have ih := linesL_none (a := a) fun x hx => h x (by simp [hx])
    unfold linesL
    rw [if_neg (h c (by simp)), ih]

theorem linesL_cut : ∀ {a : List UInt8} (b : List UInt8), (∀ c ∈ a, c ≠ 10) → linesL (a ++ 10 :: b) = a :: linesL b
  | [], b, _ => by simp [linesL]
  | c :: a, b, h => by
    have ih := linesL_cut (a := a) b fun x hx => h x (by simp [hx])
    rw [List.cons_append]
    conv => lhs; unfold linesL
    rw [if_neg (h c (by simp)), ih]

theorem linesL_append : ∀ (a b : List UInt8), linesL (a ++ 10 :: b) = linesL a ++ linesL b
  | [], b => by simp [linesL]
  | c :: a, b => by
    have ih := linesL_append a b
    rw [List.cons_append]
    rw [linesL_cons, linesL_cons]
    by_cases h : c = 10
    · rw [if_pos h, if_pos h, ih]; rfl
    · rw [if_neg h, if_neg h, ih]
      cases e : linesL a with
      | nil => exact absurd e (linesL_ne a)
      | cons h t => rfl

theorem index10 (l : List UInt8) : Lib.index l [10] = -1 ∧ (∀ c ∈ l, c ≠ 10) ∨ ∃ i : Nat, Lib.index l [10] = i ∧ i < l.length ∧ (∀ c ∈ l.take i, c ≠ 10) ∧ l = l.take i ++ 10 :: l.drop (i + 1) := by
  induction l with
  | nil => left; exact ⟨rfl, by simp⟩
  | cons c l ih =>
    by_cases h : c = 10
    · subst h
      right
      refine ⟨0, ?_, by simp, by simp, by simp⟩
      simp [Lib.index]
    · have hp : ([10] : List UInt8).isPrefixOf (c :: l) = false := by
        simp [List.isPrefixOf]; exact fun e => h e.symm
      rcases ih with ⟨h1, h2⟩ | ⟨i, h1, h2, h3, h4⟩
      · left
        refine ⟨by rw [Lib.index, hp, h1]; rfl, ?_⟩
        intro x hx
        rcases List.mem_cons.1 hx with rfl | hx
        · exact h
        · exact h2 x hx
      · right
        refine ⟨i + 1, ?_, by simp; omega, ?_, ?_⟩
        · rw [Lib.index, hp, h1]
          have : ((i : Int) == -1) = false := by simp
          simp [this]
        · intro x hx
          rw [List.take_succ_cons] at hx
          rcases List.mem_cons.1 hx with rfl | hx
          · exact h
          · exact h3 x hx
        · rw [List.take_succ_cons, List.drop_succ_cons, List.cons_append]
          congr 1

theorem splitK_lines : ∀ (k : Nat) (l : List UInt8), Lib.count l [10] = k → Lib.splitK [10] 0 k l = linesL l
  | 0, l, h => by
    rcases index10 l with ⟨h1, h2⟩ | ⟨i, h1, h2, h3, h4⟩
    · rw [linesL_none h2]; rfl
    · rw [Lib.count_hit (by simp) h1] at h; omega
  | k + 1, l, h => by
    rcases index10 l with ⟨h1, h2⟩ | ⟨i, h1, h2, h3, h4⟩
    · rw [Lib.count_miss h1] at h; omega
    · rw [Lib.count_hit (by simp) h1] at h
      have hk : Lib.count (l.drop (i + 1)) [10] = k := by simpa using (by omega : Lib.count (l.drop (i + ([10] : List UInt8).length)) [10] = k)
      unfold Lib.splitK
      have hne : (((i : Nat) : Int) == -1) = false := by simp
      rw [h1, hne, if_neg (by simp)]
      simp only [Int.toNat_natCast, Nat.add_zero, List.length_cons, List.length_nil, Nat.zero_add]
      rw [splitK_lines k _ hk]
      conv => rhs; rw [h4]
      rw [linesL_cut _ h3]

/-! ### words -/
def blankC (c : UInt8) : Bool := c == 32 || c == 9

/-- The words of a line, a piece of one at hand. -/
def wordsGo : List UInt8 → List UInt8 → List (List UInt8)
  | cur, [] => if cur = [] then [] else [cur]
  | cur, c :: l => if c = 35 then (if cur = [] then [] else [cur]) else if blankC c then (if cur = [] then wordsGo [] l else cur :: wordsGo [] l) else wordsGo (cur ++ [c]) l
def wordsL (l : List UInt8) : List (List UInt8) := wordsGo [] l

/-- .. at blanks alone. -/
def fieldsGo : List UInt8 → List UInt8 → List (List UInt8)
  | cur, [] => if cur = [] then [] else [cur]
  | cur, c :: l => if blankC c then (if cur = [] then fieldsGo [] l else cur :: fieldsGo [] l) else fieldsGo (cur ++ [c]) l

/-- What stands ahead of the first byte 35. -/
def headL : List UInt8 → List UInt8
  | [] => []
  | c :: l => if c = 35 then [] else c :: headL l

theorem wordsGo_head : ∀ (l cur : List UInt8), wordsGo cur l = fieldsGo cur (headL l)
  | [], cur => rfl
  | c :: l, cur => by
    unfold wordsGo headL
    by_cases h : c = 35
    · rw [if_pos h, if_pos h]; rfl
    · rw [if_neg h, if_neg h]
      unfold fieldsGo
      by_cases hb : blankC c
      · rw [if_pos hb, if_pos hb, wordsGo_head l []]
      · rw [if_neg hb, if_neg hb, wordsGo_head l]

theorem cut_head : ∀ (l : List UInt8), (Lib.cut l [35]).1 = headL l := by
  have key : ∀ l : List UInt8, Lib.index l [35] = -1 ∧ headL l = l ∨ ∃ i : Nat, Lib.index l [35] = i ∧ headL l = l.take i := by
    intro l
    induction l with
    | nil => left; exact ⟨rfl, rfl⟩
    | cons c l ih =>
      by_cases h : c = 35
      · subst h
        right
        exact ⟨0, by simp [Lib.index], by simp [headL]⟩
      · have hp : ([35] : List UInt8).isPrefixOf (c :: l) = false := by
          simp [List.isPrefixOf]; exact fun e => h e.symm
        rcases ih with ⟨h1, h2⟩ | ⟨i, h1, h2⟩
        · left
          refine ⟨by rw [Lib.index, hp, h1]; rfl, by rw [headL, if_neg h, h2]⟩
        · right
          refine ⟨i + 1, ?_, by rw [headL, if_neg h, h2, List.take_succ_cons]⟩
          rw [Lib.index, hp, h1]
          have : ((i : Int) == -1) = false := by simp
          simp [this]
  intro l
  unfold Lib.cut
  rcases key l with ⟨h1, h2⟩ | ⟨i, h1, h2⟩
  · rw [h1, if_neg (by decide)]; exact h2.symm
  · rw [h1, if_pos (by omega)]; rw [h2]; simp

/-! ### the pass over runes is one over bytes -/
theorem getD_get (l : List UInt8) {i : Nat} (h : i < l.length) : l.getD i 0 = l[i] := by
  rw [List.getD_eq_getElem?_getD, List.getElem?_eq_getElem h]; rfl

theorem fieldsGo_skip : ∀ (k : Nat) (cur l : List UInt8), (∀ c ∈ l.take k, blankC c = false) → fieldsGo cur l = fieldsGo (cur ++ l.take k) (l.drop k)
  | 0, cur, l, _ => by simp
  | k + 1, cur, [], _ => by simp
  | k + 1, cur, c :: t, h => by
    rw [List.take_succ_cons] at h
    have h0 := h c (by simp)
    conv => lhs; unfold fieldsGo
    rw [h0, if_neg (by simp), fieldsGo_skip k (cur ++ [c]) t (fun x hx => h x (by simp [hx]))]
    simp

def blankN (n : Nat) : Bool := n == 32 || n == 9

theorem rune_high (n b0 b1 b2 b3 : Nat) (h : 128 ≤ b0) : 128 ≤ (Lib.decodeN n b0 b1 b2 b3).1 := by
  rcases Lib.decodeN_cases n b0 b1 b2 b3 with ⟨h1, _⟩ | ⟨_, _, _, h2, e⟩ | ⟨_, _, _, _, h2, e⟩ | ⟨h2, _⟩ | e
  · omega
  · rw [e]; exact h2
  · rw [e]; simp only; omega
  · omega
  · rw [e]; decide

/-- A rune is blank just if its first byte is, and then it is that byte; else none of its bytes is. -/
theorem rune_blank (s : ByteArray) (pos : Nat) (hp : pos < s.size) :
    (blankN (Utf8.decode s pos).1 = true ∧ (Utf8.decode s pos).2 = 1 ∧ blankC (s.data.toList.getD pos 0) = true) ∨
    (blankN (Utf8.decode s pos).1 = false ∧ ∀ c ∈ (s.data.toList.drop pos).take (Utf8.decode s pos).2, blankC c = false) := by
  have hl : s.data.toList.length = s.size := by simp
  have hsmall : ∀ c : UInt8, 128 ≤ c.toNat → blankC c = false := fun c hc => by
    unfold blankC
    have h1 : (c == 32) = false := by
      rw [beq_eq_false_iff_ne]; rintro rfl; exact absurd hc (by decide)
    have h2 : (c == 9) = false := by
      rw [beq_eq_false_iff_ne]; rintro rfl; exact absurd hc (by decide)
    rw [h1, h2]; rfl
  have hd := Lib.decode_N s pos
  generalize hb0 : s.data.toList.getD pos 0 = c0 at *
  generalize hb1 : s.data.toList.getD (pos + 1) 0 = c1 at *
  generalize hb2 : s.data.toList.getD (pos + 2) 0 = c2 at *
  generalize hb3 : s.data.toList.getD (pos + 3) 0 = c3 at *
  by_cases hlow : c0.toNat < 128
  · rw [Lib.decodeN_ascii _ _ _ _ _ hlow] at hd
    have e : blankN c0.toNat = blankC c0 := by
      unfold blankN blankC
      rw [Bool.eq_iff_iff]
      simp only [Bool.or_eq_true, beq_iff_eq]
      constructor
      · rintro (h | h)
        · left; exact UInt8.toNat_inj.1 h
        · right; exact UInt8.toNat_inj.1 h
      · rintro (h | h) <;> subst h
        · left; rfl
        · right; rfl
    rw [hd]
    cases hb : blankC c0 with
    | true => left; exact ⟨by simp only; rw [e, hb], rfl, rfl⟩
    | false =>
      right
      refine ⟨by simp only; rw [e, hb], fun c hc => ?_⟩
      simp only at hc
      rw [List.drop_eq_getElem_cons (by omega), List.take_succ_cons, List.take_zero] at hc
      have : c = c0 := by
        rw [← hb0, getD_get _ (by omega)]; simpa using hc
      rw [this]; exact hb
  · right
    have hr := rune_high (s.data.toList.length - pos) c0.toNat c1.toNat c2.toNat c3.toNat (by omega)
    have hc := Lib.decodeN_conts (s.data.toList.length - pos) c0.toNat c1.toNat c2.toNat c3.toNat
    rw [← hd] at hr hc
    obtain ⟨k1, k2, k3, k4⟩ := hc
    refine ⟨?_, fun c hc => ?_⟩
    · unfold blankN
      have h1 : ((Utf8.decode s pos).1 == 32) = false := by rw [beq_eq_false_iff_ne]; omega
      have h2 : ((Utf8.decode s pos).1 == 9) = false := by rw [beq_eq_false_iff_ne]; omega
      rw [h1, h2]; rfl
    · obtain ⟨j, hj, rfl⟩ := List.getElem_of_mem hc
      rw [List.length_take] at hj
      have hjw : j < (Utf8.decode s pos).2 := by omega
      rw [List.getElem_take, List.getElem_drop]
      apply hsmall
      have hjl : pos + j < s.data.toList.length := by
        have := hj; rw [List.length_drop] at this; omega
      have eg : s.data.toList[pos + j] = s.data.toList.getD (pos + j) 0 := (getD_get _ hjl).symm
      rw [eg]
      match j, hjw with
      | 0, _ => rw [Nat.add_zero, hb0]; omega
      | 1, h => rw [hb1]; have := k1 (by omega); omega
      | 2, h => rw [hb2]; have := k2 (by omega); omega
      | 3, h => rw [hb3]; have := k3 (by omega); omega
      | j + 4, h => omega

theorem spansB_eq (s : ByteArray) : ∀ (f pos : Nat) (st : Option Nat) (acc : List (Nat × Nat)), s.size ≤ pos + f → pos ≤ s.size → (∀ a, st = some a → a < pos) →
    acc.map (fun p => Lib.pieceU s.data.toList p.1 p.2) ++ fieldsGo (Lib.openPiece s.data.toList st pos) (s.data.toList.drop pos) = (Lib.closeSpans s (Lib.spansFromP blankN s f pos st acc)).map (fun p => Lib.pieceU s.data.toList p.1 p.2)
  | 0, pos, st, acc, h, hp, hst => by
    obtain rfl : pos = s.size := by omega
    have hd : s.data.toList.drop s.size = [] := List.drop_eq_nil_of_le (by simp)
    rw [hd]
    cases st with
    | none => simp [Lib.spansFromP, Lib.closeSpans, Lib.openPiece, fieldsGo]
    | some a =>
      have := Lib.pieceU_ne s.data.toList a s.size (hst a rfl) (by simp)
      simp [Lib.spansFromP, Lib.closeSpans, Lib.openPiece, fieldsGo, this]
  | f + 1, pos, st, acc, h, hp, hst => by
    by_cases hlt : pos < s.size
    · have hl : s.data.toList.length = s.size := by simp
      have hw := Lib.width_pos s pos
      have hwn : pos + (Utf8.decode s pos).2 ≤ s.size := by
        have := Lib.decodeN_le_n' (s.size - pos) (s.get! pos).toNat (s.get! (pos + 1)).toNat (s.get! (pos + 2)).toNat (s.get! (pos + 3)).toNat (by omega)
        rw [← Lib.decode_at] at this
        omega
      have hdrop : s.data.toList.drop pos = s.data.toList.getD pos 0 :: s.data.toList.drop (pos + 1) := by
        rw [getD_get _ (by omega)]; exact List.drop_eq_getElem_cons (by omega)
      simp only [Lib.spansFromP, if_pos hlt]
      rcases rune_blank s pos hlt with ⟨hsp, hw1, hbc⟩ | ⟨hsp, hall⟩
      · rw [hsp]
        simp only [if_true, hw1]
        rw [hdrop]
        cases st with
        | none =>
          have ih := spansB_eq s f (pos + 1) none acc (by omega) (by omega) (fun a h => by cases h)
          rw [← ih]
          simp only [Lib.openPiece]
          conv => lhs; unfold fieldsGo
          rw [if_pos hbc, if_pos rfl]
        | some a =>
          have hpn := Lib.pieceU_ne s.data.toList a pos (hst a rfl) (by omega)
          have ih := spansB_eq s f (pos + 1) none (acc ++ [(a, pos)]) (by omega) (by omega) (fun a h => by cases h)
          rw [← ih]
          simp only [Lib.openPiece]
          conv => lhs; unfold fieldsGo
          rw [if_pos hbc, if_neg hpn]
          simp
      · rw [hsp]
        simp only [Bool.false_eq_true, if_false]
        rw [fieldsGo_skip _ _ _ hall, List.drop_drop]
        cases st with
        | none =>
          have ih := spansB_eq s f (pos + (Utf8.decode s pos).2) (some pos) acc (by omega) hwn (fun a h => by cases h; omega)
          have e : ([] : List UInt8) ++ (s.data.toList.drop pos).take (Utf8.decode s pos).2 = Lib.pieceU s.data.toList pos (pos + (Utf8.decode s pos).2) := by
            unfold Lib.pieceU
            rw [List.nil_append, Nat.add_sub_cancel_left]
          simp only [Lib.openPiece] at ih ⊢
          rw [e]
          exact ih
        | some a =>
          have ih := spansB_eq s f (pos + (Utf8.decode s pos).2) (some a) acc (by omega) hwn (fun b h => by cases h; have := hst a rfl; omega)
          simp only [Lib.openPiece] at ih ⊢
          rw [Lib.pieceU_grow _ _ _ _ (Nat.le_of_lt (hst a rfl))]
          exact ih
    · obtain rfl : pos = s.size := by omega
      have hd : s.data.toList.drop s.size = [] := List.drop_eq_nil_of_le (by simp)
      rw [hd, Lib.spansFromP_end _ s _ _ _ _ hlt]
      cases st with
      | none => simp [Lib.closeSpans, Lib.openPiece, fieldsGo]
      | some a =>
        have := Lib.pieceU_ne s.data.toList a s.size (hst a rfl) (by simp)
        simp [Lib.closeSpans, Lib.openPiece, fieldsGo, this]

theorem piece_data (s : ByteArray) (a b : Nat) : (s.extract a b).data.toList = Lib.pieceU s.data.toList a b := by
  unfold Lib.pieceU
  simp [ByteArray.data_extract]

theorem fields_data (s : ByteArray) : (Lib.goFieldsP blankN s).map (·.data.toList) = fieldsGo [] s.data.toList := by
  have h := spansB_eq s s.size 0 none [] (by omega) (by omega) (fun a h => by cases h)
  simp only [Lib.openPiece, List.map_nil, List.nil_append, List.drop_zero] at h
  rw [h]
  unfold Lib.goFieldsP Lib.spansOfP
  rw [List.map_map]
  apply List.map_congr_left
  intro x _
  exact piece_data s x.1 x.2

end Go.Proofs.YtckpffkofeoinaaDoor
