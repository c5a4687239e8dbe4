/- The document's names are comp's. -/
import Derived.Test.YtckpffkofeoinaaGreatDoorRefPlain3
namespace Go.Proofs.YtckpffkofeoinaaGreatDoor
open Go.RowKit Go.Proofs.YtckpffkofeoinaaGreatDoor.Lr Go.Proofs.YtckpffkofeoinaaGreatDoorW.PrintWords

def chk (s : ByteArray) (i : Nat) : Bool := if i = 0 then isLetter (s.data.toList.getD i 0) else isSign (s.data.toList.getD i 0)

theorem bt_at {s : ByteArray} {i : Nat} (h : i < s.size) : bt s (i : Int) = ((s.data.toList.getD i 0).toNat : Int) := by
  unfold bt
  rw [dif_pos (by simpa using h)]
  have e : s.data.toList.getD i 0 = s[i]'h := by
    rw [List.getD_eq_getElem?_getD, List.getElem?_eq_getElem (by simpa using h)]
    rfl
  rw [e]
  rfl

theorem isLetter_iff (c : UInt8) : isLetter c = decide (97 ≤ (c.toNat : Int) ∧ (c.toNat : Int) ≤ 122) := by
  unfold isLetter
  rw [Bool.eq_iff_iff]
  simp only [Bool.and_eq_true, decide_eq_true_eq, UInt8.le_iff_toNat_le]
  have e1 : (97 : UInt8).toNat = 97 := rfl
  have e2 : (122 : UInt8).toNat = 122 := rfl
  rw [e1, e2]
  omega

theorem isSign_iff (c : UInt8) : isSign c = decide ((97 ≤ (c.toNat : Int) ∧ (c.toNat : Int) ≤ 122) ∨ (48 ≤ (c.toNat : Int) ∧ (c.toNat : Int) ≤ 57) ∨ (c.toNat : Int) = 95) := by
  unfold isSign
  rw [isLetter_iff, Bool.eq_iff_iff]
  simp only [Bool.or_eq_true, Bool.and_eq_true, decide_eq_true_eq, UInt8.le_iff_toNat_le, beq_iff_eq, ← UInt8.toNat_inj]
  have e1 : (48 : UInt8).toNat = 48 := rfl
  have e2 : (57 : UInt8).toNat = 57 := rfl
  have e3 : (95 : UInt8).toNat = 95 := rfl
  rw [e1, e2, e3]
  omega

theorem Name_l0 {s : ByteArray} (hs : s.size < 4611686018427387904) : ∀ d i : Nat, i + d = s.size → runnelref2_Name.l0 (d + 1) s (i : Int) = some (fa (chk s) s.size i && (decide (1 ≤ s.size) && decide (s.size ≤ 20))) := by
  intro d
  induction d with
  | zero =>
    intro i h
    simp only [runnelref2_Name.l0]
    rw [if_neg (by omega), fa_end (by omega), Bool.true_and]
    by_cases h1 : 1 ≤ s.size
    · rw [if_pos (by omega), decide_eq_true h1, Bool.true_and, Option.some.injEq, Bool.eq_iff_iff, decide_eq_true_eq, decide_eq_true_eq]; omega
    · rw [if_neg (by omega), decide_eq_false h1]; rfl
  | succ d ih =>
    intro i h
    have hi : i < s.size := by omega
    have ih' := ih (i + 1) (by omega)
    generalize d + 1 = k at ih' ⊢
    simp only [runnelref2_Name.l0]
    rw [if_pos (by omega), if_pos (by omega), bt_at hi, fa_step hi, wrap1 (by omega), ih']
    have hc : chk s i = if i = 0 then isLetter (s.data.toList.getD i 0) else isSign (s.data.toList.getD i 0) := rfl
    rw [isLetter_iff, isSign_iff] at hc
    generalize ((s.data.toList.getD i 0).toNat : Int) = x at hc ⊢
    generalize fa (chk s) s.size (i + 1) = F at *
    have hi0 : ((i : Int) = 0) ↔ i = 0 := by omega
    by_cases h1 : x ≥ 97
    · rw [if_pos h1]
      by_cases h2 : x ≤ 122
      · rw [if_pos h2]
        have : chk s i = true := by rw [hc]; split <;> rw [decide_eq_true_eq] <;> omega
        rw [this]; simp
      · rw [if_neg h2]
        by_cases h3 : i = 0
        · rw [if_pos (hi0.2 h3)]
          have : chk s i = false := by rw [hc, if_pos h3, decide_eq_false_iff_not]; omega
          rw [this]; rfl
        · rw [if_neg (fun h => h3 (hi0.1 h)), if_neg (by omega), if_pos (by omega), if_neg (by omega)]
          have : chk s i = false := by rw [hc, if_neg h3, decide_eq_false_iff_not]; omega
          rw [this]; rfl
    · rw [if_neg h1]
      by_cases h3 : i = 0
      · rw [if_pos (hi0.2 h3)]
        have : chk s i = false := by rw [hc, if_pos h3, decide_eq_false_iff_not]; omega
        rw [this]; rfl
      · rw [if_neg (fun h => h3 (hi0.1 h))]
        by_cases h4 : x < 48
        · rw [if_pos h4, if_neg (by omega)]
          have : chk s i = false := by rw [hc, if_neg h3, decide_eq_false_iff_not]; omega
          rw [this]; rfl
        · rw [if_neg h4]
          by_cases h5 : x > 57
          · rw [if_pos h5]
            by_cases h6 : x = 95
            · rw [if_pos h6]
              have : chk s i = true := by rw [hc, if_neg h3, decide_eq_true_eq]; omega
              rw [this]; simp
            · rw [if_neg h6]
              have : chk s i = false := by rw [hc, if_neg h3, decide_eq_false_iff_not]; omega
              rw [this]; rfl
          · rw [if_neg h5]
            have : chk s i = true := by rw [hc, if_neg h3, decide_eq_true_eq]; omega
            rw [this]; simp

theorem okS_chk (s : ByteArray) : okS s = (fa (chk s) s.size 0 && (decide (1 ≤ s.size) && decide (s.size ≤ 20))) := by
  have hl : s.data.toList.length = s.size := by simp
  have hall : ∀ (p : UInt8 → Bool), s.data.toList.all p = (List.range s.size).all fun i => p (s.data.toList.getD i 0) := fun p => by
    rw [Bool.eq_iff_iff]
    simp only [List.all_eq_true, List.mem_range]
    constructor
    · intro h i hi
      rw [List.getD_eq_getElem?_getD, List.getElem?_eq_getElem (by omega)]
      exact h _ (List.getElem_mem _)
    · intro h x hx
      obtain ⟨i, hi, rfl⟩ := List.mem_iff_getElem.1 hx
      have := h i (by omega)
      rwa [List.getD_eq_getElem?_getD, List.getElem?_eq_getElem hi] at this
  rw [fa_zero, okS, nameOk, hl, hall]
  by_cases h0 : s.size = 0
  · have : s.data.toList = [] := List.eq_nil_of_length_eq_zero (by omega)
    rw [this, h0]; rfl
  · have hne : s.data.toList ≠ [] := fun e => h0 (by rw [← hl, e]; rfl)
    have hh : s.data.toList.headD 0 = s.data.toList.getD 0 0 := by
      cases s.data.toList with
      | nil => rfl
      | cons x l => rfl
    rw [decide_eq_true hne, decide_eq_true (show 1 ≤ s.size by omega), hh, Bool.true_and, Bool.true_and]
    have e : (isLetter (s.data.toList.getD 0 0) && (List.range s.size).all fun i => isSign (s.data.toList.getD i 0)) = (List.range s.size).all (chk s) := by
      rw [Bool.eq_iff_iff]
      simp only [Bool.and_eq_true, List.all_eq_true, List.mem_range, chk]
      constructor
      · rintro ⟨h1, h2⟩ i hi
        split
        · rename_i h; rw [h]; exact h1
        · exact h2 i hi
      · intro h
        have h1 := h 0 (by omega)
        simp only [if_true] at h1
        refine ⟨h1, fun i hi => ?_⟩
        by_cases h3 : i = 0
        · subst h3
          unfold isSign
          rw [h1]; rfl
        · have := h i hi
          rwa [if_neg h3] at this
    rw [← e]
    cases decide (s.size ≤ 20) <;> simp

theorem Name_ev {s : ByteArray} (hs : s.size < 4611686018427387904) : ∃ k, runnelref2_Name.f k s = some (okS s) := by
  refine ⟨s.size + 1, ?_⟩
  unfold runnelref2_Name.f
  rw [okS_chk]
  exact Name_l0 hs s.size 0 (by omega)

theorem dup_l2 {names : List ByteArray} (hn : names.length ≤ 16) {i : Nat} (hi : i < names.length) {v : Int} (hv : ∃ k, runnelref2_named.l1 k names ((i + 1 : Nat) : Int) = some v) :
    ∀ d j : Nat, j + d = i → (∀ x, x < j → names.getD x ByteArray.empty ≠ names.getD i ByteArray.empty) → ∃ k, runnelref2_named.l2 k names (i : Int) (j : Int) = some (if Lib.containsS (names.take i) (names.getD i ByteArray.empty) then 4 else v) := by
  have hmem : ∀ x, x < i → names.getD x ByteArray.empty = names.getD i ByteArray.empty → Lib.containsS (names.take i) (names.getD i ByteArray.empty) = true := fun x hx e => by
    unfold Lib.containsS
    rw [decide_eq_true_eq, Lib.idxOfS_nonneg_iff, ← e, List.getD_eq_getElem?_getD, List.getElem?_eq_getElem (by omega)]
    exact List.mem_take_iff_getElem.2 ⟨x, by omega, rfl⟩
  intro d
  induction d with
  | zero =>
    intro j hj hno
    obtain ⟨k, e⟩ := hv
    refine ⟨k + 1, ?_⟩
    simp only [runnelref2_named.l2]
    have hc : ¬ Lib.containsS (names.take i) (names.getD i ByteArray.empty) = true := by
      unfold Lib.containsS
      rw [decide_eq_true_eq, Lib.idxOfS_nonneg_iff]
      intro hm
      obtain ⟨x, hx, e2⟩ := List.mem_take_iff_getElem.1 hm
      refine hno x (by omega) ?_
      rw [← e2, List.getD_eq_getElem?_getD, List.getElem?_eq_getElem (by omega)]; rfl
    rw [if_neg (by omega), wrap1 (by omega), e, if_neg hc]
  | succ d ih =>
    intro j hj hno
    have e1 : rdOf ByteArray.empty names (i : Int) = names.getD i ByteArray.empty := by simp [rdOf]
    have e2 : rdOf ByteArray.empty names (j : Int) = names.getD j ByteArray.empty := by simp [rdOf]
    by_cases h : names.getD j ByteArray.empty = names.getD i ByteArray.empty
    · refine ⟨1, ?_⟩
      simp only [runnelref2_named.l2]
      rw [if_pos (by omega), if_pos (by omega), if_pos (by omega), if_pos (by omega), if_pos (by omega), e1, e2, if_pos (by rw [h]), if_pos (hmem j (by omega) h)]
    · obtain ⟨k, e⟩ := ih (j + 1) (by omega) (fun x hx => by
        by_cases hxj : x = j
        · subst hxj; exact h
        · exact hno x (by omega))
      refine ⟨k + 1, ?_⟩
      simp only [runnelref2_named.l2]
      rw [if_pos (by omega), if_pos (by omega), if_pos (by omega), if_pos (by omega), if_pos (by omega), e1, e2, if_neg (fun h2 => h (by rw [ByteArray.toList_eq, ByteArray.toList_eq] at h2; exact (ByteArray.ext (Array.toList_inj.1 h2)).symm)), wrap1 (by omega)]
      exact e

def dupFrom (names : List ByteArray) (i : Nat) : Bool := (List.range' i (names.length - i)).any fun i => Lib.containsS (names.take i) (names.getD i ByteArray.empty)

theorem dup_l1 {names : List ByteArray} (hn : names.length ≤ 16) : ∀ d i : Nat, i + d = names.length → ∃ k, runnelref2_named.l1 k names (i : Int) = some (if dupFrom names i then 4 else 0) := by
  intro d
  induction d with
  | zero =>
    intro i h
    refine ⟨1, ?_⟩
    simp only [runnelref2_named.l1]
    rw [if_neg (by omega), dupFrom, show names.length - i = 0 by omega]
    rfl
  | succ d ih =>
    intro i h
    obtain ⟨k, e⟩ := dup_l2 hn (show i < names.length by omega) (ih (i + 1) (by omega)) i 0 (by omega) (fun x hx => by omega)
    refine ⟨k + 1, ?_⟩
    simp only [runnelref2_named.l1]
    have e2 : dupFrom names i = (Lib.containsS (names.take i) (names.getD i ByteArray.empty) || dupFrom names (i + 1)) := by
      unfold dupFrom
      rw [show names.length - i = (names.length - (i + 1)) + 1 by omega, List.range'_succ, List.any_cons]
    rw [if_pos (by omega), e2]
    rw [show ((0 : Nat) : Int) = 0 from rfl] at e
    rw [e]
    cases Lib.containsS (names.take i) (names.getD i ByteArray.empty) <;> simp

theorem names_l0 {names : List ByteArray} (hn : names.length ≤ 16) (hs : ShortS names) : ∀ d i : Nat, i + d = names.length → ∃ k, runnelref2_named.l0 k names (i : Int) = some (if fa (fun i => okS (names.getD i ByteArray.empty)) names.length i then (if dupFrom names 0 then 4 else 0) else 3) := by
  intro d
  induction d with
  | zero =>
    intro i h
    obtain ⟨k, e⟩ := dup_l1 hn names.length 0 (by omega)
    refine ⟨k + 1, ?_⟩
    simp only [runnelref2_named.l0]
    rw [if_neg (by omega), fa_end (by omega)]
    simpa using e
  | succ d ih =>
    intro i h
    have hi : i < names.length := by omega
    obtain ⟨k1, e1⟩ := ih (i + 1) (by omega)
    have hsz : (names.getD i ByteArray.empty).size < 4611686018427387904 := by
      have := hs (names.getD i ByteArray.empty) (by rw [List.getD_eq_getElem?_getD, List.getElem?_eq_getElem hi]; exact List.getElem_mem hi)
      omega
    obtain ⟨k2, e2⟩ := Name_ev hsz
    have e3 : rdOf ByteArray.empty names (i : Int) = names.getD i ByteArray.empty := by simp [rdOf]
    refine ⟨max k1 k2 + 1, ?_⟩
    simp only [runnelref2_named.l0]
    rw [if_pos (by omega), if_pos (by omega), e3, at_rounds (runnelref2_Name.mono _) (Nat.le_max_right k1 k2) e2, fa_step hi]
    simp only [Option.bind_some]
    cases okS (names.getD i ByteArray.empty) with
    | false => simp
    | true =>
      rw [if_pos rfl, wrap1 (by omega), Bool.true_and]
      exact at_rounds (g := fun j => runnelref2_named.l0 j names ((i + 1 : Nat) : Int)) (fun j => (runnelref2_named.mono_l j).2.1 _ _) (Nat.le_max_left k1 k2) e1

theorem named_ev {names : List ByteArray} (hs : ShortS names) : ∃ k, runnelref2_named.f k names = some (checkE names) := by
  unfold checkE
  by_cases h : names.length = 0 ∨ 16 < names.length
  · refine ⟨1, ?_⟩
    unfold runnelref2_named.f
    rw [if_pos h]
    by_cases h1 : (names.length : Int) < 1
    · rw [if_pos h1]; simp [runnelref2_named.j0]
    · rw [if_neg h1, decide_eq_true (by omega)]; simp [runnelref2_named.j0]
  · rw [if_neg h]
    obtain ⟨k, e⟩ := names_l0 (by omega) hs names.length 0 (by omega)
    refine ⟨k + 1, ?_⟩
    unfold runnelref2_named.f
    rw [if_neg (by omega), decide_eq_false (by omega)]
    simp only [runnelref2_named.j0, Bool.false_eq_true, if_false]
    have h1 : fa (fun i => okS (names.getD i ByteArray.empty)) names.length 0 = names.all okS := by
      rw [fa_zero, Bool.eq_iff_iff]
      simp only [List.all_eq_true, List.mem_range]
      constructor
      · intro h x hx
        obtain ⟨i, hi, rfl⟩ := List.mem_iff_getElem.1 hx
        have := h i hi
        rwa [List.getD_eq_getElem?_getD, List.getElem?_eq_getElem hi] at this
      · intro h i hi
        rw [List.getD_eq_getElem?_getD, List.getElem?_eq_getElem hi]
        exact h _ (List.getElem_mem _)
    have h2 : dupFrom names 0 = dupTo names names.length := by
      unfold dupFrom dupTo
      rw [List.range_eq_range']; rfl
    rw [h1, h2] at e
    rw [show ((0 : Nat) : Int) = 0 from rfl] at e
    rw [e]
    cases names.all okS <;> simp
end Go.Proofs.YtckpffkofeoinaaGreatDoor
