/- What is printed is read as a policy that tells the same, and is short. -/
import Derived.Test.YtckpffkofeoinaaDoorPPrint
import Derived.Test.YtckpffkofeoinaaDoorParse2
namespace Go.Proofs.YtckpffkofeoinaaDoor

/-- The policy that is read of what is printed. -/
def backR (r : RS) : RS := ⟨r.names, coverPairs r.names (covs r), ((chansL r).map fun c => (c, levelN r c)).reverse⟩

theorem print_lines (r : RS) (h : ∀ x ∈ linesN r ++ (linesC r ++ linesX r), ∀ c ∈ x, c ≠ 10) : linesF (mkB (printB r)) = (linesN r ++ (linesC r ++ linesX r)).map mkB ++ [mkB []] := by
  rw [linesF_eq, data_mkB, printB_lines]
  have := linesL_flat (linesN r ++ (linesC r ++ linesX r)) [] h
  rw [List.append_nil] at this
  rw [this, List.map_append]
  rfl

theorem cov_in {r : RS} {c : Nat × Nat} (h : c ∈ covs r) : c.1 < r.names.length ∧ c.2 < r.names.length := by
  obtain ⟨h1, h2, _⟩ := covers_mem h
  exact ⟨h1, h2⟩

theorem lines_clean {r : RS} (hG : r.Good) : ∀ x ∈ linesN r ++ (linesC r ++ linesX r), ∀ c ∈ x, c ≠ 10 := by
  intro x hx
  rcases List.mem_append.1 hx with h | h
  · obtain ⟨s, hs, rfl⟩ := List.mem_map.1 h
    exact clean2_10 bLevel_clean (ok_clean (hG.ok s hs))
  · rcases List.mem_append.1 h with h | h
    · obtain ⟨c, hc, rfl⟩ := List.mem_map.1 h
      obtain ⟨h1, h2⟩ := cov_in hc
      exact clean3_10 bBelow_clean (ok_clean (nameAt_ok hG h1).1) (ok_clean (nameAt_ok hG h2).1)
    · obtain ⟨c, hc, rfl⟩ := List.mem_map.1 h
      obtain ⟨h1, h2⟩ := levelN_lt hG hc
      exact clean3_10 bChannel_clean (ident_clean h2) (ok_clean (nameAt_ok hG h1).1)

theorem chans_nodup {r : RS} (hG : r.Good) : (chansL r).Nodup := (chansL_perm r).nodup_iff.2 hG.each

theorem linesTo_then {r r' : RS} {k k' : Nat} {a : List ByteArray} (h : linesTo r k a = (0, k', r')) (b : List ByteArray) : linesTo r k (a ++ b) = linesTo r' k' b := by
  rw [linesTo_append, h, if_pos rfl]

theorem read_print {r : RS} (hG : r.Good) (hE : newE r.names r.below = 0) : ∃ k, readF (mkB (printB r)) = (0, k, backR r) := by
  obtain ⟨hc, _, _⟩ := newE_zero hE
  obtain ⟨k1, e1⟩ := read_names r.names RS.none 0 hG.ok (show ([] ++ r.names).Nodup from hG.once)
  have e1 : linesTo RS.none 0 (r.names.map fun s => mkB (txt2 bLevel s)) = (0, k1, (⟨r.names, [], []⟩ : RS)) := e1
  obtain ⟨k2, e2⟩ := read_covers (coverPairs r.names (covs r)) ⟨r.names, [], []⟩ k1 (fun c hc => by
    obtain ⟨q, hq, rfl⟩ := List.mem_map.1 hc
    obtain ⟨h1, h2⟩ := cov_in hq
    exact ⟨(nameAt_ok hG h1).1, (nameAt_ok hG h2).1, (nameAt_ok hG h1).2, (nameAt_ok hG h2).2⟩)
  have e2 : linesTo ⟨r.names, [], []⟩ k1 ((coverPairs r.names (covs r)).map fun c => mkB (txt3 bBelow c.1 c.2)) = (0, k2, (⟨r.names, coverPairs r.names (covs r), []⟩ : RS)) := e2
  obtain ⟨k3, e3⟩ := read_chans (levelN r) (chansL r) ⟨r.names, coverPairs r.names (covs r), []⟩ k2 hG.ok hc (fun c hc => ⟨(levelN_lt hG hc).2, (levelN_lt hG hc).1⟩) (by simpa using chans_nodup hG)
  have e3 : linesTo ⟨r.names, coverPairs r.names (covs r), []⟩ k2 ((chansL r).map fun c => mkB (txt3 bChannel c (r.names.getD (levelN r c) ByteArray.empty))) = (0, k3, backR r) := by
    refine e3.trans ?_
    unfold backR
    simp
  have l1 : (linesN r).map mkB = r.names.map fun s => mkB (txt2 bLevel s) := by unfold linesN; rw [List.map_map]; rfl
  have l2 : (linesC r).map mkB = (coverPairs r.names (covs r)).map fun c => mkB (txt3 bBelow c.1 c.2) := by unfold linesC coverPairs; rw [List.map_map, List.map_map]; rfl
  have l3 : (linesX r).map mkB = (chansL r).map fun c => mkB (txt3 bChannel c (r.names.getD (levelN r c) ByteArray.empty)) := by unfold linesX; rw [List.map_map]; rfl
  have hlast : (wordsF (mkB [])).length = 0 := by rw [wordsF_eq, data_mkB]; rfl
  refine ⟨k3 + ((mkB []).size + 1), ?_⟩
  unfold readF
  rw [print_lines r (lines_clean hG), List.map_append, List.map_append, List.append_assoc, List.append_assoc, l1, l2, l3]
  rw [linesTo_then e1, linesTo_then e2, linesTo_then e3, linesTo, if_pos hlast, linesTo]

/-! ### it tells the same -/
theorem back_of {r : RS} (hG : r.Good) (c : ByteArray) : ofAt (backR r).of c = ofAt r.of c := by
  have hnd : ((backR r).of.map (·.1)).Nodup := by
    show ((((chansL r).map fun c => (c, levelN r c)).reverse).map (·.1)).Nodup
    rw [List.map_reverse, List.map_map]
    have : (chansL r).map ((fun q : ByteArray × Nat => q.1) ∘ fun c => (c, levelN r c)) = chansL r := by
      conv => rhs; rw [← List.map_id (chansL r)]
      exact List.map_congr_left fun x _ => rfl
    rw [this]
    exact (List.reverse_perm _).nodup_iff.2 (chans_nodup hG)
  have key : ∀ n, ofAt (backR r).of c = some n ↔ ofAt r.of c = some n := fun n => by
    rw [ofAt_iff hnd]
    show (c, n) ∈ ((chansL r).map fun c => (c, levelN r c)).reverse ↔ _
    rw [List.mem_reverse, List.mem_map]
    constructor
    · rintro ⟨d, hd, e⟩
      injection e with e1 e2
      subst e1; subst e2
      exact levelN_of hd
    · intro h
      have hm : c ∈ chansL r := mem_chansL.2 (List.mem_map.2 ⟨_, ofAt_mem h, rfl⟩)
      refine ⟨c, hm, ?_⟩
      have := levelN_of hm
      rw [h] at this
      injection this with this
      rw [this]
  cases h : ofAt r.of c with
  | none =>
    cases h2 : ofAt (backR r).of c with
    | none => rfl
    | some n => have := (key n).1 h2; rw [h] at this; cases this
  | some n => exact (key n).2 h

theorem back_level {r : RS} (hG : r.Good) (c : ByteArray) : levelI (backR r) c = levelI r c := by unfold levelI; rw [back_of hG]
theorem back_newL {r : RS} (hE : newE r.names r.below = 0) : newL (backR r).names (backR r).below = newL r.names r.below ∧ newE (backR r).names (backR r).below = 0 := covers_same hE
theorem back_may {r : RS} (hG : r.Good) (hE : newE r.names r.below = 0) (a b : ByteArray) : mayB (backR r) a b = mayB r a b := by
  unfold mayB; rw [back_level hG, back_level hG, (back_newL hE).1]

theorem back_chans {r : RS} : chansL (backR r) = chansL r := by
  unfold chansL
  congr 1
  unfold chansB
  refine mergeSort_of_perm ?_
  show ((((chansL r).map fun c => (c, levelN r c)).reverse).map (·.1.data.toList)).Perm _
  rw [List.map_reverse, List.map_map]
  refine (List.reverse_perm _).trans ?_
  have h := (chansL_perm r).map (fun c : ByteArray => c.data.toList)
  rw [List.map_map] at h
  exact h

theorem back_print {r : RS} (hG : r.Good) (hE : newE r.names r.below = 0) : printB (backR r) = printB r := by
  have h1 : covs (backR r) = covs r := by unfold covs; rw [(back_newL hE).1]
  have h2 : lineC (backR r) = lineC r := rfl
  have h3 : lineX (backR r) = lineX r := by
    funext c
    unfold lineX
    have : levelN (backR r) c = levelN r c := by unfold levelN; rw [back_of hG]
    rw [this]; rfl
  unfold printB
  rw [h1, h2, h3, back_chans]
  rfl

/-! ### how long it is -/
def costL (names : List ByteArray) (l : List (ByteArray × Nat)) : Nat := (l.map fun q => q.1.size + (names.getD q.2 ByteArray.empty).size + 10).sum

theorem words_sum : ∀ (l cur : List UInt8), ((wordsGo cur l).map fun x => x.length + 1).sum ≤ cur.length + l.length + 1
  | [], cur => by
    unfold wordsGo
    split
    · simp
    · simp
  | c :: l, cur => by
    unfold wordsGo
    split
    · split
      · simp
      · simp <;> omega
    · split
      · split
        · have := words_sum l []; simp at this ⊢; omega
        · have := words_sum l []; simp at this ⊢; omega
      · have := words_sum l (cur ++ [c]); simp at this ⊢; omega

theorem idx_hit {names : List ByteArray} {s : ByteArray} (h : ¬ Lib.idxOfS names s < 0) : (Lib.idxOfS names s).toNat < names.length ∧ names.getD (Lib.idxOfS names s).toNat ByteArray.empty = s := by
  have key : ∀ (l : List ByteArray) (i : Nat), s ∈ l → ∃ k : Nat, Lib.idxFromS l s i = ((i + k : Nat) : Int) ∧ k < l.length ∧ l.getD k ByteArray.empty = s := by
    intro l
    induction l with
    | nil => intro i hm; simp at hm
    | cons x l ih =>
      intro i hm
      by_cases e : x = s
      · refine ⟨0, ?_, by simp, by simpa using e⟩
        rw [Lib.idxFromS_hit s (x :: l) 0 i (by simp) (by simpa using e) (by omega)]
      · have hm2 : s ∈ l := by
          rcases List.mem_cons.1 hm with h | h
          · exact absurd h.symm e
          · exact h
        obtain ⟨k, h1, h2, h3⟩ := ih (i + 1) hm2
        have h4 : Lib.idxFromS (x :: l) s i = Lib.idxFromS l s (i + 1) := by simp [Lib.idxFromS, e]
        exact ⟨k + 1, by rw [h4, h1]; congr 1; omega, by simpa using h2, by simpa using h3⟩
  have hm := (Lib.idxOfS_nonneg_iff names s).1 (by omega)
  obtain ⟨k, h1, h2, h3⟩ := key names 0 hm
  have e : (Lib.idxOfS names s).toNat = k := by unfold Lib.idxOfS; rw [h1]; omega
  rw [e]; exact ⟨h2, h3⟩

theorem words_three {l : ByteArray} (h : (wordsF l).length = 3) : (w0 (wordsF l)).size + (w1 (wordsF l)).size + (w2 (wordsF l)).size + 3 ≤ l.size + 1 := by
  have hs := words_sum l.data.toList []
  have e : wordsF l = (wordsL l.data.toList).map mkB := wordsF_eq l
  match hw : wordsF l, h with
  | [x, y, z], _ =>
    have h2 : wordsL l.data.toList = [x.data.toList, y.data.toList, z.data.toList] := by
      rw [← map_data_mkB (wordsL l.data.toList), ← e, hw]; rfl
    unfold wordsL at h2
    rw [h2] at hs
    simp at hs
    show x.size + y.size + z.size + 3 ≤ l.size + 1
    omega

theorem cost_step {r : RS} (hG : r.Good) (l : ByteArray) : costL (lineF r (wordsF l)).2.names (lineF r (wordsF l)).2.of ≤ costL r.names r.of + (l.size + 1) := by
  unfold lineF
  split
  · split
    · unfold levelF
      split
      · simp
      · split
        · simp
        · refine Nat.le_trans (Nat.le_of_eq ?_) (Nat.le_add_right _ _)
          unfold costL
          congr 1
          refine List.map_congr_left fun q hq => ?_
          have := (hG.chans q hq).2
          congr 3
          rw [List.getD_eq_getElem?_getD, List.getD_eq_getElem?_getD, List.getElem?_append_left this]
    · simp
  · split
    · rename_i h3
      split
      · unfold belowF
        split
        · simp
        · split <;> simp
      · split
        · rename_i hw
          unfold chanF
          split
          · simp
          · split
            · simp
            · rename_i hi
              split
              · simp
              · have h4 := words_three h3
                rw [hw, show bChannel.size = 7 from rfl] at h4
                have h5 := (idx_hit hi).2
                show (costL r.names ((w1 (wordsF l), (Lib.idxOfS r.names (w2 (wordsF l))).toNat) :: r.of)) ≤ _
                unfold costL
                rw [List.map_cons, List.sum_cons]
                simp only
                rw [h5]
                omega
        · simp
    · simp

theorem cost_all : ∀ (ls : List ByteArray) (r : RS) (k : Nat), r.Good → costL (linesTo r k ls).2.2.names (linesTo r k ls).2.2.of ≤ costL r.names r.of + (ls.map fun x => x.size + 1).sum
  | [], r, k, _ => by simp [linesTo]
  | l :: ls, r, k, h => by
    unfold linesTo
    rw [List.map_cons, List.sum_cons]
    split
    · have := cost_all ls r (k + (l.size + 1)) h; omega
    · split
      · have h1 := cost_all ls (lineF r (wordsF l)).2 (k + (l.size + 1)) (h.step _)
        have h2 := cost_step h l
        omega
      · simp

theorem cost_read (s : ByteArray) : costL (readF s).2.2.names (readF s).2.2.of ≤ s.size + 1 := by
  have h := cost_all (linesF s) RS.none 0 RS.none_good
  have e := linesF_sum s
  rw [e] at h
  unfold readF
  have h0 : costL RS.none.names RS.none.of = 0 := rfl
  omega

theorem flat_bound {α : Type} (f : α → List UInt8) (m : Nat) : ∀ (l : List α), (∀ a ∈ l, (f a).length ≤ m) → (l.flatMap f).length ≤ l.length * m
  | [], _ => by simp
  | a :: l, h => by
    have := flat_bound f m l fun x hx => h x (by simp [hx])
    have h2 := h a (by simp)
    rw [List.flatMap_cons, List.length_append, List.length_cons, Nat.add_mul, Nat.one_mul]
    omega

theorem lineX_len (r : RS) (c : ByteArray) : (lineX r c).length = c.size + (nameAt r (levelN r c)).size + 10 := by
  unfold lineX; rw [lineP3]
  have e : bChannel.data.toList.length = 7 := rfl
  simp [e]; omega

theorem printX_cost {r : RS} (hG : r.Good) : ((chansL r).flatMap (lineX r)).length = costL r.names r.of := by
  rw [List.length_flatMap]
  unfold costL
  have h1 := (chansL_perm r).map (fun c => (lineX r c).length)
  rw [h1.sum_nat, List.map_map]
  congr 1
  refine List.map_congr_left fun q hq => ?_
  show (lineX r q.1).length = _
  rw [lineX_len]
  have : levelN r q.1 = q.2 := by unfold levelN; rw [(ofAt_iff hG.each).2 hq]; rfl
  rw [this]; rfl

theorem print_len {r : RS} (hG : r.Good) (hE : newE r.names r.below = 0) : (printB r).length ≤ 12720 + costL r.names r.of := by
  have hc := (newE_zero hE).1
  have hle := (checkE_zero hc).2
  unfold printB
  rw [List.length_append, List.length_append, printX_cost hG]
  have h1 := flat_bound lineN 27 r.names (fun s hs => by
    have := ok_len (hG.ok s hs)
    unfold lineN; rw [lineP2]
    have e : bLevel.data.toList.length = 5 := rfl
    simp [e]; omega)
  have h2 := flat_bound (lineC r) 48 (covs r) (fun c hc => by
    obtain ⟨a1, a2⟩ := cov_in hc
    have b1 := ok_len (nameAt_ok hG a1).1
    have b2 := ok_len (nameAt_ok hG a2).1
    unfold lineC; rw [lineP3]
    have e : bBelow.data.toList.length = 5 := rfl
    simp [e]; omega)
  have h3 : (covs r).length ≤ 16 * 16 := by
    have := coverTo_len (newL r.names r.below) r.names.length
    have h2 : r.names.length * (newL r.names r.below).names.length ≤ 16 * 16 := Nat.mul_le_mul hle hle
    show (coverTo (newL r.names r.below) r.names.length).length ≤ _
    omega
  have h4 : r.names.length * 27 ≤ 16 * 27 := Nat.mul_le_mul_right _ hle
  have h5 : (covs r).length * 48 ≤ 256 * 48 := Nat.mul_le_mul_right _ h3
  omega
end Go.Proofs.YtckpffkofeoinaaDoor
