/- What is printed is read as what it was: the plain part. -/
import Derived.Test.YtckpffkofeoinaaDoorPrint
namespace Go.Proofs.YtckpffkofeoinaaDoor

/-! ### clean words -/
/-- Neither a blank, nor a line feed, nor a remark's sign. -/
def cleanC (c : UInt8) : Bool := c != 32 && (c != 9 && (c != 35 && c != 10))
def Clean (l : List UInt8) : Prop := l ≠ [] ∧ ∀ c ∈ l, cleanC c = true

set_option maxRecDepth 20000 in
theorem sign_clean : ∀ n : Fin 256, isSign (UInt8.ofFin n) = true → cleanC (UInt8.ofFin n) = true := by decide
set_option maxRecDepth 100000 in
theorem part_clean : ∀ n : Fin 256, isPart (UInt8.ofFin n) = true → cleanC (UInt8.ofFin n) = true := by decide +kernel

theorem ok_clean {s : ByteArray} (h : okS s = true) : Clean s.data.toList := by
  unfold okS nameOk at h
  simp only [Bool.and_eq_true, decide_eq_true_eq] at h
  exact ⟨h.1, fun c hc => sign_clean c.toFin (List.all_eq_true.1 h.2.2.2 c hc)⟩
theorem ok_len {s : ByteArray} (h : okS s = true) : s.size ≤ 20 := by
  unfold okS nameOk at h
  simp only [Bool.and_eq_true, decide_eq_true_eq] at h
  have := h.2.1
  simpa using this
theorem ident_clean {l : List UInt8} (h : identOk l = true) : Clean l := by
  unfold identOk at h
  simp only [Bool.and_eq_true, decide_eq_true_eq] at h
  exact ⟨h.1, fun c hc => part_clean c.toFin (List.all_eq_true.1 h.2.2.1 c hc)⟩
theorem wordsGo_clean : ∀ (a : List UInt8) (cur rest : List UInt8), (∀ c ∈ a, cleanC c = true) → wordsGo cur (a ++ rest) = wordsGo (cur ++ a) rest
  | [], cur, rest, _ => by simp
  | c :: a, cur, rest, h => by
    have hc := h c (by simp)
    unfold cleanC at hc
    simp only [Bool.and_eq_true, bne_iff_ne, ne_eq] at hc
    rw [List.cons_append]
    conv => lhs; unfold wordsGo
    have hb : blankC c = false := by unfold blankC; simp [hc.1, hc.2.1]
    rw [if_neg hc.2.2.1, hb, if_neg (by simp), wordsGo_clean a _ rest fun x hx => h x (by simp [hx])]
    simp

theorem words2 {a b : List UInt8} (ha : Clean a) (hb : Clean b) : wordsL (a ++ 32 :: b) = [a, b] := by
  unfold wordsL
  rw [wordsGo_clean a _ _ ha.2]
  rw [List.nil_append]
  conv => lhs; unfold wordsGo
  rw [if_neg (by decide), if_pos (by decide), if_neg ha.1]
  have := wordsGo_clean b [] [] hb.2
  rw [List.append_nil] at this
  rw [this, List.nil_append]
  conv => lhs; unfold wordsGo
  rw [if_neg hb.1]

theorem words3 {a b c : List UInt8} (ha : Clean a) (hb : Clean b) (hc : Clean c) : wordsL (a ++ 32 :: (b ++ 32 :: c)) = [a, b, c] := by
  have h2 := words2 hb hc
  unfold wordsL at *
  rw [wordsGo_clean a _ _ ha.2, List.nil_append]
  conv => lhs; unfold wordsGo
  rw [if_neg (by decide), if_pos (by decide), if_neg ha.1, h2]

theorem clean10 {l : List UInt8} (h : Clean l) : ∀ c ∈ l, c ≠ 10 := fun c hc => by
  have := h.2 c hc
  unfold cleanC at this
  simp only [Bool.and_eq_true, bne_iff_ne, ne_eq] at this
  exact this.2.2.2

theorem linesL_flat : ∀ (xs : List (List UInt8)) (rest : List UInt8), (∀ x ∈ xs, ∀ c ∈ x, c ≠ 10) → linesL (xs.flatMap (fun x => x ++ [10]) ++ rest) = xs ++ linesL rest
  | [], rest, _ => rfl
  | x :: xs, rest, h => by
    rw [List.flatMap_cons, List.append_assoc, List.append_assoc, List.singleton_append, linesL_cut _ (h x (by simp)), linesL_flat xs rest fun y hy => h y (by simp [hy])]
    rfl

theorem bLevel_clean : Clean bLevel.data.toList := ⟨by decide, by decide⟩
theorem bBelow_clean : Clean bBelow.data.toList := ⟨by decide, by decide⟩
theorem bChannel_clean : Clean bChannel.data.toList := ⟨by decide, by decide⟩

theorem lineP2 (a b : ByteArray) : lineP [a, b] = (a.data.toList ++ 32 :: b.data.toList) ++ [10] := by
  unfold lineP; rw [List.map_cons, List.map_cons, List.map_nil, Lib.join_cons]; simp [Lib.joinTail]
theorem lineP3 (a b c : ByteArray) : lineP [a, b, c] = (a.data.toList ++ 32 :: (b.data.toList ++ 32 :: c.data.toList)) ++ [10] := by
  unfold lineP; rw [List.map_cons, List.map_cons, List.map_cons, List.map_nil, Lib.join_cons]; simp [Lib.joinTail]

theorem clean2_10 {a b : List UInt8} (ha : Clean a) (hb : Clean b) : ∀ c ∈ a ++ 32 :: b, c ≠ 10 := fun c hc => by
  rcases List.mem_append.1 hc with h | h
  · exact clean10 ha c h
  · rcases List.mem_cons.1 h with rfl | h
    · decide
    · exact clean10 hb c h
theorem clean3_10 {a b d : List UInt8} (ha : Clean a) (hb : Clean b) (hd : Clean d) : ∀ c ∈ a ++ 32 :: (b ++ 32 :: d), c ≠ 10 := fun c hc => by
  rcases List.mem_append.1 hc with h | h
  · exact clean10 ha c h
  · rcases List.mem_cons.1 h with rfl | h
    · decide
    · exact clean2_10 hb hd c h

/-! ### a line as Print writes it -/
def txt2 (a b : ByteArray) : List UInt8 := a.data.toList ++ 32 :: b.data.toList
def txt3 (a b c : ByteArray) : List UInt8 := a.data.toList ++ 32 :: (b.data.toList ++ 32 :: c.data.toList)

theorem words_txt2 {a b : ByteArray} (ha : Clean a.data.toList) (hb : Clean b.data.toList) : wordsF (mkB (txt2 a b)) = [a, b] := by
  rw [wordsF_eq, data_mkB, txt2, words2 ha hb]; simp [mkB_data]
theorem words_txt3 {a b c : ByteArray} (ha : Clean a.data.toList) (hb : Clean b.data.toList) (hc : Clean c.data.toList) : wordsF (mkB (txt3 a b c)) = [a, b, c] := by
  rw [wordsF_eq, data_mkB, txt3, words3 ha hb hc]; simp [mkB_data]

/-- The lines of what is printed. -/
def linesN (r : RS) : List (List UInt8) := r.names.map (txt2 bLevel)
def linesC (r : RS) : List (List UInt8) := (covs r).map fun c => txt3 bBelow (nameAt r c.1) (nameAt r c.2)
def linesX (r : RS) : List (List UInt8) := (chansL r).map fun c => txt3 bChannel c (nameAt r (levelN r c))

theorem flat_map_lines {α : Type} (f : α → List UInt8) (l : List α) : (l.map f).flatMap (fun x => x ++ [10]) = l.flatMap fun a => f a ++ [10] := by
  induction l with
  | nil => rfl
  | cons a l ih => rw [List.map_cons, List.flatMap_cons, List.flatMap_cons, ih]

theorem printB_lines (r : RS) : printB r = (linesN r ++ (linesC r ++ linesX r)).flatMap fun x => x ++ [10] := by
  unfold printB linesN linesC linesX
  rw [List.flatMap_append, List.flatMap_append, flat_map_lines, flat_map_lines, flat_map_lines]
  have e1 : lineN = fun a => txt2 bLevel a ++ [10] := by funext a; exact lineP2 _ _
  have e2 : lineC r = fun c => txt3 bBelow (nameAt r c.1) (nameAt r c.2) ++ [10] := by funext a; exact lineP3 _ _ _
  have e3 : lineX r = fun c => txt3 bChannel c (nameAt r (levelN r c)) ++ [10] := by funext a; exact lineP3 _ _ _
  rw [e1, e2, e3]

/-! ### reading it -/
theorem nameAt_ok {r : RS} (hG : r.Good) {i : Nat} (h : i < r.names.length) : okS (nameAt r i) = true ∧ nameAt r i ∈ r.names := by
  unfold nameAt
  rw [List.getD_eq_getElem?_getD, List.getElem?_eq_getElem h]
  exact ⟨hG.ok _ (List.getElem_mem h), List.getElem_mem h⟩

theorem read_names : ∀ (ns : List ByteArray) (q : RS) (k : Nat), (∀ s ∈ ns, okS s = true) → (q.names ++ ns).Nodup →
    ∃ k', linesTo q k (ns.map fun s => mkB (txt2 bLevel s)) = (0, k', { q with names := q.names ++ ns })
  | [], q, k, _, _ => ⟨k, by simp [linesTo]⟩
  | s :: ns, q, k, h, hnd => by
    have hs := h s (by simp)
    have hw := words_txt2 bLevel_clean (ok_clean hs)
    have hn : Lib.containsS q.names s = false := by
      cases hc : Lib.containsS q.names s with
      | false => rfl
      | true =>
        have hm := (Lib.containsS_iff _ _).1 hc
        exact absurd rfl ((List.nodup_append.1 hnd).2.2 s hm s (by simp))
    have hl : lineF q [bLevel, s] = (0, { q with names := q.names ++ [s] }) := by
      unfold lineF
      rw [if_pos (show [bLevel, s].length = 2 from rfl), if_pos (show w0 [bLevel, s] = bLevel from rfl)]
      unfold levelF
      rw [if_neg (show ¬ nameOk (w1 [bLevel, s]).data.toList = false from by show ¬ okS s = false; rw [hs]; simp), if_neg (show ¬ Lib.containsS q.names (w1 [bLevel, s]) = true from by show ¬ Lib.containsS q.names s = true; rw [hn]; simp)]
      rfl
    obtain ⟨k', hk⟩ := read_names ns { q with names := q.names ++ [s] } (k + ((mkB (txt2 bLevel s)).size + 1)) (fun x hx => h x (by simp [hx])) (by simpa using hnd)
    refine ⟨k', ?_⟩
    rw [List.map_cons, linesTo, hw, if_neg (by simp), hl, if_pos rfl]
    simp only
    rw [hk]
    simp

theorem read_covers : ∀ (cs : List (ByteArray × ByteArray)) (q : RS) (k : Nat), (∀ c ∈ cs, okS c.1 = true ∧ okS c.2 = true ∧ c.1 ∈ q.names ∧ c.2 ∈ q.names) →
    ∃ k', linesTo q k (cs.map fun c => mkB (txt3 bBelow c.1 c.2)) = (0, k', { q with below := q.below ++ cs })
  | [], q, k, _ => ⟨k, by simp [linesTo]⟩
  | c :: cs, q, k, h => by
    obtain ⟨h1, h2, h3, h4⟩ := h c (by simp)
    have hw := words_txt3 bBelow_clean (ok_clean h1) (ok_clean h2)
    have c1 := (Lib.containsS_iff _ _).2 h3
    have c2 := (Lib.containsS_iff _ _).2 h4
    have hl : lineF q [bBelow, c.1, c.2] = (0, { q with below := q.below ++ [(c.1, c.2)] }) := by
      unfold lineF
      rw [if_neg (by simp), if_pos (show [bBelow, c.1, c.2].length = 3 from rfl), if_pos (show w0 [bBelow, c.1, c.2] = bBelow from rfl)]
      unfold belowF
      rw [if_neg (show ¬ Lib.containsS q.names (w1 [bBelow, c.1, c.2]) = false from by show ¬ Lib.containsS q.names c.1 = false; rw [c1]; simp),
        if_neg (show ¬ Lib.containsS q.names (w2 [bBelow, c.1, c.2]) = false from by show ¬ Lib.containsS q.names c.2 = false; rw [c2]; simp)]
      rfl
    obtain ⟨k', hk⟩ := read_covers cs { q with below := q.below ++ [(c.1, c.2)] } (k + ((mkB (txt3 bBelow c.1 c.2)).size + 1)) (fun x hx => h x (by simp [hx]))
    refine ⟨k', ?_⟩
    rw [List.map_cons, linesTo, hw, if_neg (by simp), hl, if_pos rfl]
    simp only
    rw [hk]
    simp

theorem read_chans (lv : ByteArray → Nat) : ∀ (cs : List ByteArray) (q : RS) (k : Nat), (∀ s ∈ q.names, okS s = true) → checkE q.names = 0 → (∀ c ∈ cs, identOk c.data.toList = true ∧ lv c < q.names.length) → (cs ++ q.of.map (·.1)).Nodup →
    ∃ k', linesTo q k (cs.map fun c => mkB (txt3 bChannel c (q.names.getD (lv c) ByteArray.empty))) = (0, k', { q with of := (cs.map fun c => (c, lv c)).reverse ++ q.of })
  | [], q, k, _, _, _, _ => ⟨k, by simp [linesTo]⟩
  | c :: cs, q, k, hN, hE, h, hnd => by
    obtain ⟨h1, h2⟩ := h c (by simp)
    have hg : q.names.getD (lv c) ByteArray.empty = q.names[lv c] := by rw [List.getD_eq_getElem?_getD, List.getElem?_eq_getElem h2]; rfl
    have hok : okS (q.names.getD (lv c) ByteArray.empty) = true := by rw [hg]; exact hN _ (List.getElem_mem h2)
    have hw := words_txt3 bChannel_clean (ident_clean h1) (ok_clean hok)
    have hp : Lib.idxOfS q.names (q.names.getD (lv c) ByteArray.empty) = (lv c : Int) := by rw [hg]; exact placeI_get hE h2
    have hof : ofAt q.of c = Option.none := by
      rw [ofAt_none]
      rw [List.cons_append, List.nodup_cons] at hnd
      exact fun hm => hnd.1 (List.mem_append_right _ hm)
    have hl : lineF q [bChannel, c, q.names.getD (lv c) ByteArray.empty] = (0, { q with of := (c, lv c) :: q.of }) := by
      unfold lineF
      rw [if_neg (by simp), if_pos (show [bChannel, c, q.names.getD (lv c) ByteArray.empty].length = 3 from rfl), if_neg (show ¬ w0 [bChannel, c, q.names.getD (lv c) ByteArray.empty] = bBelow from by show ¬ bChannel = bBelow; decide), if_pos (show w0 [bChannel, c, q.names.getD (lv c) ByteArray.empty] = bChannel from rfl)]
      unfold chanF
      have e1 : w1 [bChannel, c, q.names.getD (lv c) ByteArray.empty] = c := rfl
      have e2 : w2 [bChannel, c, q.names.getD (lv c) ByteArray.empty] = q.names.getD (lv c) ByteArray.empty := rfl
      rw [e1, e2, h1, hp, hof, if_neg (by simp), if_neg (by omega), if_neg (by simp)]
      rw [Int.toNat_natCast]
    obtain ⟨k', hk⟩ := read_chans lv cs { q with of := (c, lv c) :: q.of } (k + ((mkB (txt3 bChannel c (q.names.getD (lv c) ByteArray.empty))).size + 1)) hN hE (fun x hx => h x (by simp [hx])) (by
      simp only [List.map_cons]
      have h3 : (cs ++ c :: q.of.map (·.1)).Perm (c :: cs ++ q.of.map (·.1)) := List.perm_middle
      exact h3.nodup_iff.2 hnd)
    refine ⟨k', ?_⟩
    rw [List.map_cons, linesTo, hw, if_neg (by simp), hl, if_pos rfl]
    simp only
    rw [hk]
    simp
end Go.Proofs.YtckpffkofeoinaaDoor
