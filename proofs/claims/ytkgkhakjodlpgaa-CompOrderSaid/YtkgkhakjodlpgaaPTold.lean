/- What the components tell: whether two are together, and whether one goes round. -/
import Derived.Test.YtkgkhakjodlpgaaPAll
import Derived.Test.YtkgkhakjodlpgaaPWalk
namespace Go.Proofs.Ytkgkhakjodlpgaa.C
open Go.RowKit Go.Proofs.YtkgkhakjodlpgaaW.PrintWords Go.Proofs.Ytkgkhakjodlpgaa.Ext Go.Proofs.Ytkgkhakjodlpgaa.Ca Go.Proofs.Ytkgkhakjodlpgaa.Cv

theorem wrap_two {a b : Nat} (h : a + b < 4611686018427387904) : wrap64 ((a : Int) + (b : Int)) = ((a + b : Nat) : Int) := by unfold wrap64; omega

theorem rising_rd {l : List Int} {j : Nat} (h : l.Pairwise (· < ·)) (h0 : 0 < j) (hj : j < l.length) : rd l ((j - 1 : Nat) : Int) < rd l (j : Int) := by
  have := List.pairwise_iff_getElem.1 h (j - 1) j (by omega) hj (by omega)
  simpa [rd, List.getD_eq_getElem?_getD, List.getElem?_eq_getElem hj, List.getElem?_eq_getElem (show j - 1 < l.length by omega)] using this

theorem All.same {nx L : List (List Int)} {num : List Int} {up : List (List Int)} (h : All nx L num up) {a b : Nat} (ha : a < nx.length) (hb : b < nx.length) : num.getD a 0 = num.getD b 0 ↔ Rt nx a b ∧ Rt nx b a := by
  obtain ⟨s, hs, has⟩ := h.cov a ha
  obtain ⟨t, ht, hbt⟩ := h.cov b hb
  have e1 := h.num.is s _ has
  have e2 := h.num.is t _ hbt
  rw [Int.toNat_natCast] at e1 e2
  obtain ⟨n, _, hn⟩ := h.cls s hs
  have has' := has
  rw [hn] at has'
  obtain ⟨_, h1, h2⟩ := cls_mem.1 has'
  rw [e1, e2]
  constructor
  · intro e
    have e3 : s = t := by omega
    rw [← e3, hn] at hbt
    obtain ⟨_, h3, h4⟩ := cls_mem.1 hbt
    exact ⟨h2.trans h3, h4.trans h1⟩
  · rintro ⟨h3, h4⟩
    have : (b : Int) ∈ L.getD s [] := by rw [hn]; exact cls_mem.2 ⟨hb, h1.trans h3, h4.trans h2⟩
    rw [h.parts.dis _ _ _ this hbt]

theorem marks_at {nx : List (List Int)} {a b : Nat} (ha : a < nx.length) (hb : b < nx.length) : (marksOf nx [(a : Int)]).getD b false = true ↔ Rt nx a b := by
  rw [(marksOf_ok nx [(a : Int)]).is b hb]
  constructor
  · rintro ⟨c, hc, _, h⟩
    have : c = a := Int.ofNat_inj.1 (List.mem_singleton.1 hc)
    rw [← this]; exact h
  · exact fun h => ⟨a, by simp, ha, h⟩

theorem both_num {nx L : List (List Int)} {num : List Int} {up : List (List Int)} (hN : nx.length < 1048576) (hdeg : ∀ a : Nat, (nx.getD a []).length < 1048576) (h : All nx L num up) {a b : Nat} (ha : a < nx.length) (hb : b < nx.length) :
    ∃ k, comp_Both.f k nx (a : Int) (b : Int) = some (rd num (a : Int) == rd num (b : Int)) := by
  obtain ⟨k, e⟩ := both_ev nx (a : Int) (b : Int) hN hdeg ⟨by omega, by omega, by omega, by omega⟩
  refine ⟨k, ?_⟩
  rw [e, Option.some.injEq, Bool.eq_iff_iff]
  simp only [bothOf, Bool.and_eq_true, Int.toNat_natCast, beq_iff_eq, rd]
  rw [marks_at ha hb, marks_at hb ha, h.same ha hb]

theorem rt_first {nx : List (List Int)} {a b : Nat} (h : Rt nx a b) : a = b ∨ ∃ c, Ed nx a c ∧ Rt nx c b := by
  induction h with
  | refl => exact .inl rfl
  | step h1 e ih =>
    rcases ih with rfl | ⟨c, h2, h3⟩
    · exact .inr ⟨_, e, .refl _⟩
    · exact .inr ⟨c, h2, .step h3 e⟩

/-- A node goes round. -/
def Round (nx : List (List Int)) (a : Nat) : Prop := ∃ c, Ed nx a c ∧ Rt nx c a

theorem cyclic_at {nx : List (List Int)} {a : Nat} (ha : a < nx.length) : (marksOf nx (nx.getD a [])).getD a false = true ↔ Round nx a := by
  rw [(marksOf_ok nx _).is a ha]
  constructor
  · rintro ⟨c, h1, h2, h3⟩; exact ⟨c, ⟨ha, h2, h1⟩, h3⟩
  · rintro ⟨c, ⟨_, h2, h1⟩, h3⟩; exact ⟨c, h1, h2, h3⟩

/-- What stands ahead: a component leads to lesser ones alone. -/
theorem All.ahead {nx L : List (List Int)} {num : List Int} {up : List (List Int)} (h : All nx L num up) {i : Nat} (hi : i < L.length) : ∀ x ∈ up.getD i [], 0 ≤ x ∧ x < (i : Int) := by
  intro x hx
  have hl := h.up.is i hi
  obtain ⟨a, ha, b, hb, h1, h2⟩ := (hl.is x).1 hx
  have har := h.parts.rng i a ha
  obtain ⟨a', rfl⟩ := Int.eq_ofNat_of_zero_le har.1
  obtain ⟨b', rfl, he⟩ := (mem_afterL (by omega)).1 hb
  rcases seq_order h.seq i a' b' ha he with h3 | ⟨s, hs, h3⟩
  · exact h3.elim
  · have := h.num.is s _ h3
    rw [this] at h1
    omega

theorem All.round {nx L : List (List Int)} {num : List Int} {up : List (List Int)} (h : All nx L num up) {i : Nat} (hi : i < L.length) {a : Nat} (ha : (a : Int) ∈ L.getD i []) : Round nx a ↔ 1 < (L.getD i []).length ∨ (a : Int) ∈ nx.getD a [] := by
  have haN := h.parts.rng i _ ha
  obtain ⟨n, _, hn⟩ := h.cls i hi
  have ha' := ha
  rw [hn] at ha'
  obtain ⟨_, h1, h2⟩ := cls_mem.1 ha'
  constructor
  · rintro ⟨c, h3, h4⟩
    by_cases h5 : 1 < (L.getD i []).length
    · exact .inl h5
    · have hc : (c : Int) ∈ L.getD i [] := by rw [hn]; exact cls_mem.2 ⟨h3.2.1, h1.step h3, h4.trans h2⟩
      right
      have : (c : Int) = (a : Int) := by
        generalize L.getD i [] = l at *
        match l, ha, hc, h5 with
        | [], ha, _, _ => simp at ha
        | [x], ha, hc, _ => rw [List.mem_singleton] at ha hc; rw [ha, hc]
        | _ :: _ :: _, _, _, h5 => exact absurd (by simp) h5
      have e : c = a := by omega
      subst e
      exact h3.2.2
  · rintro (h3 | h3)
    · obtain ⟨m, hm, hne⟩ : ∃ m, m ∈ L.getD i [] ∧ m ≠ (a : Int) := by
        have hnd := rising_nodup (cls_sorted nx n)
        rw [← hn] at hnd
        match L.getD i [], h3, hnd with
        | [], h3, _ => simp at h3
        | [_], h3, _ => simp at h3
        | x :: y :: _, _, hnd =>
          by_cases e : x = (a : Int)
          · refine ⟨y, by simp, fun e2 => ?_⟩
            rw [e, e2] at hnd
            simp at hnd
          · exact ⟨x, by simp, e⟩
      rw [hn] at hm
      obtain ⟨b, rfl, hb, h4, h5⟩ := mem_cls.1 hm
      rcases rt_first (h2.trans h4) with e | ⟨c, h6, h7⟩
      · exact absurd (by rw [e]) hne
      · exact ⟨c, h6, h7.trans (h5.trans h1)⟩
    · exact ⟨a, ⟨by omega, by omega, h3⟩, .refl a⟩

theorem both_none {nx : List (List Int)} {a b : Int} (h : ¬ Two nx a b) : comp_Both.f 1 nx a b = some false := by
  unfold Two at h
  unfold comp_Both.f
  split; · simp [comp_Both.j0]
  split; · simp [comp_Both.j0]
  split; · simp [comp_Both.j0]
  simp only [comp_Both.j0]; rw [if_pos (by simp; omega)]

theorem cyclic_none {nx : List (List Int)} {a : Int} (h : ¬ (0 ≤ a ∧ a < (nx.length : Int))) : comp_Cyclic.f 1 nx a = some false := by
  unfold comp_Cyclic.f
  by_cases h1 : a ≥ 0
  · rw [if_pos h1, if_neg (by omega)]
  · rw [if_neg h1]

theorem mem_listOf {m : List Bool} {x : Int} : x ∈ listOf m ↔ ∃ i : Nat, x = (i : Int) ∧ i < m.length ∧ m.getD i false = true := by
  unfold listOf
  simp only [List.mem_map, List.mem_filter, List.mem_range]
  constructor
  · rintro ⟨i, ⟨h1, h2⟩, rfl⟩; exact ⟨i, rfl, h1, h2⟩
  · rintro ⟨i, rfl, h1, h2⟩; exact ⟨i, ⟨h1, h2⟩, rfl⟩

theorem reach_mem {nx : List (List Int)} {a b : Int} : b ∈ listOf (marksOf nx [a]) ↔ ∃ a' b' : Nat, a = (a' : Int) ∧ b = (b' : Int) ∧ a' < nx.length ∧ b' < nx.length ∧ Rt nx a' b' := by
  rw [mem_listOf, (marksOf_ok nx [a]).len]
  constructor
  · rintro ⟨b', rfl, h1, h2⟩
    obtain ⟨a', h3, h4, h5⟩ := ((marksOf_ok nx [a]).is b' h1).1 h2
    exact ⟨a', b', (List.mem_singleton.1 h3).symm, rfl, h4, h1, h5⟩
  · rintro ⟨a', b', rfl, rfl, h1, h2, h3⟩
    exact ⟨b', rfl, h2, ((marksOf_ok nx [(a' : Int)]).is b' h2).2 ⟨a', by simp, h1, h3⟩⟩

theorem listOf_len (nx : List (List Int)) (l : List Int) : (listOf (marksOf nx l)).length ≤ nx.length := by
  unfold listOf
  have h1 := List.length_filter_le (fun i => (marksOf nx l).getD i false) (List.range (marksOf nx l).length)
  have h2 := (marksOf_ok nx l).len
  rw [List.length_range] at h1
  rw [List.length_map]; omega
end Go.Proofs.Ytkgkhakjodlpgaa.C
