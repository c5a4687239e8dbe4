/- The plain law LevelsLeast: joins are least, meets greatest, covers have nothing between. -/
import Derived.Test.YtkgkhakjodlpgaaPLaws
namespace Go.Proofs.Ytkgkhakjodlpgaa

structure LeastFacts (L : LatD) (a b c : Int) : Prop where
  j1 : belowB L a (joinI L a b) = true
  j2 : belowB L b (joinI L a b) = true
  j3 : belowB L a c = true → belowB L b c = true → belowB L (joinI L a b) c = true
  m1 : belowB L (meetI L a b) a = true
  m2 : belowB L (meetI L a b) b = true
  m3 : belowB L c a = true → belowB L c b = true → belowB L c (meetI L a b) = true

theorem leastFacts {L : LatD} (H : IsLat L) {a b c : Int} (ha0 : 0 ≤ a) (ha : a < L.names.length) (hb0 : 0 ≤ b) (hb : b < L.names.length) (hc0 : 0 ≤ c) (hc : c < L.names.length) : LeastFacts L a b c := by
  obtain ⟨a, rfl⟩ := Int.eq_ofNat_of_zero_le ha0
  obtain ⟨b, rfl⟩ := Int.eq_ofNat_of_zero_le hb0
  obtain ⟨c, rfl⟩ := Int.eq_ofNat_of_zero_le hc0
  have ha : a < L.names.length := by omega
  have hb : b < L.names.length := by omega
  have hc : c < L.names.length := by omega
  obtain ⟨jab, k1, e1, g1⟩ := joinI_nat H ha hb
  obtain ⟨mab, k3, e3, g3⟩ := meetI_nat H ha hb
  have u1 := H.up.up_l k1 g1
  have d1 := H.down.up_l k3 g3
  refine ⟨?_, ?_, ?_, ?_, ?_, ?_⟩
  · rw [e1, belowB_nat ha k1]; exact u1.1
  · rw [e1, belowB_nat hb k1]; exact u1.2
  · rw [e1, belowB_nat ha hc, belowB_nat hb hc, belowB_nat k1 hc]
    exact Half.least g1
  · rw [e3, belowB_nat k3 ha, ← H.conv mab a k3 ha]; exact d1.1
  · rw [e3, belowB_nat k3 hb, ← H.conv mab b k3 hb]; exact d1.2
  · rw [e3, belowB_nat hc ha, belowB_nat hc hb, belowB_nat hc k3, ← H.conv c a hc ha, ← H.conv c b hc hb, ← H.conv c mab hc k3]
    exact Half.least g3

theorem covers_mem {L : LatD} {q : Nat × Nat} (h : q ∈ covers L) : q.1 < L.names.length ∧ q.2 < L.names.length ∧ coverB L q.1 q.2 = true := by
  unfold covers coverTo coverRow at h
  simp only [List.mem_flatMap, List.mem_map, List.mem_filter, List.mem_range] at h
  obtain ⟨a, ha, b, ⟨hb, hc⟩, rfl⟩ := h
  exact ⟨ha, hb, hc⟩

theorem covers_of {L : LatD} {a b : Nat} (ha : a < L.names.length) (hb : b < L.names.length) (h : coverB L a b = true) : (a, b) ∈ covers L := by
  unfold covers coverTo coverRow
  simp only [List.mem_flatMap, List.mem_map, List.mem_filter, List.mem_range]
  exact ⟨a, ha, b, ⟨hb, h⟩, rfl⟩

theorem coverB_iff {L : LatD} (H : IsLat L) {a b : Nat} (ha : a < L.names.length) (hb : b < L.names.length) :
    coverB L a b = true ↔ a ≠ b ∧ leB L.up a b = true ∧ ∀ c, c < L.names.length → leB L.up a c = true → leB L.up c b = true → c = a ∨ c = b := by
  unfold coverB
  simp only [Bool.and_eq_true, bne_iff_ne, ne_eq, beq_iff_eq]
  constructor
  · rintro ⟨h1, h2, h3⟩
    refine ⟨h1, h2, fun c hc h4 h5 => ?_⟩
    rw [← H.conv c b hc hb] at h5
    have h6 : (L.up.getD a 0 &&& L.down.getD b 0).testBit c = true := by
      rw [Nat.testBit_and]; unfold leB at h4 h5; rw [h4, h5]; rfl
    rw [h3, Nat.testBit_or, Nat.testBit_two_pow, Nat.testBit_two_pow] at h6
    simp only [Bool.or_eq_true, decide_eq_true_eq] at h6
    omega
  · rintro ⟨h1, h2, h3⟩
    refine ⟨h1, h2, ?_⟩
    apply Nat.eq_of_testBit_eq
    intro i
    rw [Nat.testBit_and, Nat.testBit_or, Nat.testBit_two_pow, Nat.testBit_two_pow, Bool.eq_iff_iff]
    simp only [Bool.and_eq_true, Bool.or_eq_true, decide_eq_true_eq]
    constructor
    · rintro ⟨h4, h5⟩
      have hi : i < L.names.length := H.up.lt_of (a := a) h4
      have h5' : leB L.up i b = true := by rw [← H.conv i b hi hb]; exact h5
      have := h3 i hi h4 h5'
      omega
    · rintro (rfl | rfl)
      · exact ⟨H.up.refl _ ha, by have := H.conv a b ha hb; unfold leB at this h2; rw [this]; exact h2⟩
      · exact ⟨h2, by have := H.down.refl _ hb; exact this⟩

/-- Between the two of a cover there is nothing. -/
theorem covers_gap {L : LatD} (H : IsLat L) {q : Nat × Nat} (h : q ∈ covers L) {c : Nat} (hc : c < L.names.length) (h1 : c ≠ q.1) (h2 : c ≠ q.2) (h3 : belowB L (q.1 : Int) (c : Int) = true) : belowB L (c : Int) (q.2 : Int) = false := by
  obtain ⟨k1, k2, k3⟩ := covers_mem h
  rw [belowB_nat k1 hc] at h3
  rw [belowB_nat hc k2]
  cases hb : leB L.up c q.2 with
  | false => rfl
  | true =>
    have := ((coverB_iff H k1 k2).1 k3).2.2 c hc h3 hb
    omega

theorem pairsV_at (l : List (Nat × Nat)) {k : Nat} (h : k < l.length) : (pairsV l)[k * 2]? = some (.int .i64 (l[k].1 : Int)) ∧ (pairsV l)[k * 2 + 1]? = some (.int .i64 (l[k].2 : Int)) := by
  induction l generalizing k with
  | nil => simp at h
  | cons q l ih =>
    cases k with
    | zero => simp [pairsV]
    | succ k =>
      have := ih (k := k) (by simpa using h)
      simp only [pairsV, List.flatMap_cons, List.cons_append, List.nil_append] at this ⊢
      rw [show (k + 1) * 2 = k * 2 + 1 + 1 by omega]
      simpa using this
end Go.Proofs.Ytkgkhakjodlpgaa
