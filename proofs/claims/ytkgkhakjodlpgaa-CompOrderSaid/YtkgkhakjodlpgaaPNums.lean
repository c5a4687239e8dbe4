/- The numbers of the components, and what each leads to. -/
import Derived.Test.YtkgkhakjodlpgaaPFrom
import Derived.Test.YtkgkhakjodlpgaaC3
namespace Go.Proofs.Ytkgkhakjodlpgaa.C
open Go.RowKit Go.Proofs.YtkgkhakjodlpgaaW.PrintWords Go.Proofs.Ytkgkhakjodlpgaa.Ext Go.Proofs.Ytkgkhakjodlpgaa.Ca

/-- Rows of nodes, none in two of them. -/
structure Parts (N : Nat) (c : List (List Int)) : Prop where
  many : c.length < 1048576
  rows : ∀ i, (c.getD i []).length < 1048576
  rng : ∀ i x, x ∈ c.getD i [] → 0 ≤ x ∧ x < (N : Int)
  dis : ∀ i j x, x ∈ c.getD i [] → x ∈ c.getD j [] → i = j

structure NumOf (N : Nat) (c : List (List Int)) (num : List Int) : Prop where
  len : num.length = N
  is : ∀ i x, x ∈ c.getD i [] → num.getD x.toNat 0 = (i : Int)

structure NInv (N : Nat) (c : List (List Int)) (s : Nat × List Int × Nat × Nat) : Prop where
  t : s.1 = 0 ∨ s.1 = 1
  len : s.2.1.length = N
  i : s.2.2.1 ≤ c.length
  i1 : s.1 = 1 → s.2.2.1 < c.length
  j : s.1 = 1 → s.2.2.2 ≤ (c.getD s.2.2.1 []).length
  old : ∀ t x, t < s.2.2.1 → x ∈ c.getD t [] → s.2.1.getD x.toNat 0 = (t : Int)
  new : s.1 = 1 → ∀ x, x ∈ (c.getD s.2.2.1 []).take s.2.2.2 → s.2.1.getD x.toNat 0 = (s.2.2.1 : Int)

def numM (c : List (List Int)) (s : Nat × List Int × Nat × Nat) : Nat :=
  if s.1 = 0 then (c.length - s.2.2.1) * 2097152 + 1 else (c.length - s.2.2.1) * 2097152 - s.2.2.2

theorem getD_setI (m : List Int) (x : Nat) (v : Int) (hx : x < m.length) (a : Nat) : (m.set x v).getD a 0 = (if a = x then v else m.getD a 0) := by
  simp only [List.getD_eq_getElem?_getD, List.getElem?_set]
  by_cases h : x = a
  · subst h; simp [hx]
  · rw [if_neg h, if_neg (fun e => h e.symm)]

theorem ninv_next {N : Nat} {c : List (List Int)} {m : List Int} {i j : Nat} (h : NInv N c (1, m, i, j)) (hj : j = (c.getD i []).length) : NInv N c (0, m, i + 1, 0) := by
  have h1 := h.i1 rfl
  dsimp only at h1
  refine ⟨.inl rfl, h.len, h1, by simp, by simp, fun t x ht hx => ?_, by simp⟩
  dsimp only at ht ⊢
  by_cases e : t = i
  · subst e; exact h.new rfl x (by dsimp only; rw [List.take_of_length_le (by omega)]; exact hx)
  · exact h.old t x (by dsimp only; omega) hx

theorem ninv_step {N : Nat} {c : List (List Int)} (hc : Parts N c) {m : List Int} {i j : Nat} (h : NInv N c (1, m, i, j)) (hj : j < (c.getD i []).length) :
    0 ≤ rd (c.getD i []) (j : Int) ∧ rd (c.getD i []) (j : Int) < (m.length : Int) ∧ NInv N c (1, m.set (rd (c.getD i []) (j : Int)).toNat (i : Int), i, j + 1) := by
  have hlen := h.len
  dsimp only at hlen
  have hr := hc.rng i _ (rd_mem hj)
  refine ⟨hr.1, by omega, .inr rfl, by simpa using hlen, h.i, h.i1, fun _ => hj, fun t x ht hx => ?_, fun _ x hx => ?_⟩
  · dsimp only at ht ⊢
    have hx2 := hc.rng t x hx
    rw [getD_setI _ _ _ (by omega)]
    have hne : ¬ x.toNat = (rd (c.getD i []) (j : Int)).toNat := fun e => by
      have e2 : x = rd (c.getD i []) (j : Int) := by omega
      have := hc.dis t i x hx (by rw [e2]; exact rd_mem hj)
      omega
    rw [if_neg hne]
    exact h.old t x ht hx
  · dsimp only at hx ⊢
    rw [take_more hj] at hx
    have hx2 : 0 ≤ x := by
      rcases List.mem_append.1 hx with h1 | h1
      · exact (hc.rng i x (List.mem_of_mem_take h1)).1
      · rw [List.mem_singleton.1 h1]; exact hr.1
    rw [getD_setI _ _ _ (by omega)]
    by_cases e : x.toNat = (rd (c.getD i []) (j : Int)).toNat
    · rw [if_pos e]
    · rw [if_neg e]
      rcases List.mem_append.1 hx with h1 | h1
      · exact h.new rfl x h1
      · rw [List.mem_singleton.1 h1] at e; exact absurd rfl e

def numbersAt (c : List (List Int)) (k : Nat) : Nat × List Int × Nat × Nat → Option (List Int)
  | (0, m, i, _) => comp_numbers.l0 k m c (c.length : Int) (i : Int)
  | (_, m, i, j) => comp_numbers.l1 k m (i : Int) c (c.length : Int) (i : Int) (c.getD i []) ((c.getD i []).length : Int) (j : Int)

theorem numbers_from {N : Nat} {c : List (List Int)} (hc : Parts N c) : ∀ s, NInv N c s → ∃ k r, numbersAt c k s = some r ∧ NumOf N c r := by
  refine loop_ends (numbersAt c) (NInv N c) (fun _ r => NumOf N c r) (numM c) ?_
  rintro ⟨t, m, i, j⟩ h
  have hm := hc.many
  have hr := hc.rows i
  have hrd : Ca.rd_L1 c (i : Int) = c.getD i [] := by simp [Ca.rd_L1]
  have hi := h.i
  dsimp only at hi
  rcases h.t with ht | ht <;> dsimp only at ht <;> subst ht
  · by_cases hlt : i < c.length
    · refine .inr ⟨(1, m, i, 0), ⟨.inr rfl, h.len, h.i, fun _ => hlt, by simp, h.old, by simp⟩, by simp [numM], fun k r hk hp => ⟨k + 1, ?_, hp⟩⟩
      simp only [numbersAt] at hk ⊢
      simp only [comp_numbers.l0]
      rw [if_pos (by omega), if_pos (by omega), if_pos (by omega), hrd]
      exact hk
    · refine .inl ⟨1, m, ?_, h.len, fun t x hx => ?_⟩
      · simp only [numbersAt, comp_numbers.l0]
        rw [if_neg (by omega)]
      · have ht : t < c.length := by
          by_cases e : t < c.length
          · exact e
          · rw [List.getD_eq_getElem?_getD, List.getElem?_eq_none (by omega)] at hx; simp at hx
        exact h.old t x (by dsimp only; omega) hx
  · have hi1 := h.i1 rfl
    have hj := h.j rfl
    dsimp only at hi1 hj
    by_cases hlt : j < (c.getD i []).length
    · obtain ⟨h1, h2, h3⟩ := ninv_step hc h hlt
      refine .inr ⟨_, h3, by simp [numM]; omega, fun k r hk hp => ⟨k + 1, ?_, hp⟩⟩
      simp only [numbersAt] at hk ⊢
      simp only [comp_numbers.l1]
      rw [if_pos (by omega), if_pos (by omega), if_pos (by omega), if_pos h1, if_pos h2, wrap_nat (by omega)]
      exact hk
    · refine .inr ⟨(0, m, i + 1, 0), ninv_next h (by omega), by simp [numM]; omega, fun k r hk hp => ⟨k + 1, ?_, hp⟩⟩
      simp only [numbersAt] at hk ⊢
      simp only [comp_numbers.l1]
      rw [if_neg (by omega), wrap_nat (by omega)]
      exact hk

theorem ninv_start (N : Nat) (c : List (List Int)) : NInv N c (0, List.replicate N 0, 0, 0) := ⟨.inl rfl, by simp, by simp, by simp, by simp, fun _ _ h => by simp at h, by simp⟩

theorem numbers_ev {N : Nat} {c : List (List Int)} (hc : Parts N c) (hN : N < 1048576) : ∃ k r, comp_numbers.f k c (N : Int) = some r ∧ NumOf N c r := by
  obtain ⟨k, r, h1, h2⟩ := numbers_from hc _ (ninv_start N c)
  refine ⟨k, r, ?_, h2⟩
  unfold comp_numbers.f
  rw [if_pos (by omega), if_pos (by omega)]
  simpa [numbersAt] using h1

theorem NumOf.uniq {N : Nat} {c : List (List Int)} {r s : List Int} (hcov : ∀ a, a < N → ∃ i, (a : Int) ∈ c.getD i []) (hr : NumOf N c r) (hs : NumOf N c s) : r = s := by
  apply List.ext_getElem (by rw [hr.len, hs.len])
  intro a h1 h2
  obtain ⟨i, hi⟩ := hcov a (by rw [← hr.len]; exact h1)
  have e1 := hr.is i a hi
  have e2 := hs.is i a hi
  rw [Int.toNat_natCast, List.getD_eq_getElem?_getD, List.getElem?_eq_getElem h1, Option.getD_some] at e1
  rw [Int.toNat_natCast, List.getD_eq_getElem?_getD, List.getElem?_eq_getElem h2, Option.getD_some] at e2
  rw [e1, e2]

/-! What a component leads to. -/
theorem compact_up {d : Array Int} (hs : ∀ i j : Nat, i ≤ j → j < d.size → d[i]! ≤ d[j]!) : ∀ m, m ≤ d.size →
    (Lib.compactUpTo d m).Pairwise (· < ·) ∧ (∀ x, x ∈ Lib.compactUpTo d m ↔ ∃ j, j < m ∧ d[j]! = x)
  | 0, _ => by simp [Lib.compactUpTo]
  | m + 1, hm => by
    obtain ⟨h1, h2⟩ := compact_up hs m (by omega)
    rw [Lib.compactUpTo_succ]
    by_cases hk : Lib.keeps d m = true
    · rw [if_pos hk]
      have hlt : ∀ x ∈ Lib.compactUpTo d m, x < d[m]! := by
        intro x hx
        obtain ⟨j, hj, rfl⟩ := (h2 x).1 hx
        have a1 := hs j (m - 1) (by omega) (by omega)
        have a2 := hs (m - 1) m (by omega) (by omega)
        simp only [Lib.keeps, decide_eq_true_eq] at hk
        rcases hk with hk | hk
        · omega
        · omega
      refine ⟨List.pairwise_append.2 ⟨h1, by simp, fun a ha b hb => by rw [List.mem_singleton.1 hb]; exact hlt a ha⟩, fun x => ?_⟩
      rw [List.mem_append, h2, List.mem_singleton]
      constructor
      · rintro (⟨j, hj, e⟩ | rfl)
        · exact ⟨j, by omega, e⟩
        · exact ⟨m, by omega, rfl⟩
      · rintro ⟨j, hj, e⟩
        by_cases e2 : j = m
        · subst e2; exact .inr e.symm
        · exact .inl ⟨j, by omega, e⟩
    · rw [if_neg hk, List.append_nil]
      refine ⟨h1, fun x => ?_⟩
      rw [h2]
      simp only [Lib.keeps, decide_eq_true_eq, not_or, Decidable.not_not] at hk
      constructor
      · rintro ⟨j, hj, e⟩; exact ⟨j, by omega, e⟩
      · rintro ⟨j, hj, e⟩
        by_cases e2 : j = m
        · subst e2; exact ⟨j - 1, by omega, by rw [← hk.2]; exact e⟩
        · exact ⟨j, by omega, e⟩

theorem compact_sorted {l : List Int} (hs : l.Pairwise (· ≤ ·)) : (Lib.compact l).Pairwise (· < ·) ∧ ∀ x, x ∈ Lib.compact l ↔ x ∈ l := by
  have hg : ∀ j, j < l.length → l.toArray[j]! = l[j]! := fun j hj => by simp
  have hs2 : ∀ i j : Nat, i ≤ j → j < l.toArray.size → l.toArray[i]! ≤ l.toArray[j]! := by
    intro i j hij hj
    simp only [List.size_toArray] at hj
    rw [hg i (by omega), hg j hj, getElem!_pos l i (by omega), getElem!_pos l j hj]
    rcases Nat.lt_or_eq_of_le hij with h | rfl
    · exact List.pairwise_iff_getElem.1 hs i j (by omega) hj h
    · exact Int.le_refl _
  obtain ⟨h1, h2⟩ := compact_up hs2 l.length (by simp)
  refine ⟨h1, fun x => ?_⟩
  unfold Lib.compact
  rw [h2, List.mem_iff_getElem]
  constructor
  · rintro ⟨j, hj, e⟩; exact ⟨j, hj, by rw [← e, hg j hj, getElem!_pos l j hj]⟩
  · rintro ⟨j, hj, e⟩; exact ⟨j, hj, by rw [← e, hg j hj, getElem!_pos l j hj]⟩

/-- A node leads to a number that is another one than a component's own. -/
def Lead1 (nx : List (List Int)) (num : List Int) (i : Int) (a x : Int) : Prop := ∃ b, b ∈ afterL nx a ∧ num.getD b.toNat 0 = x ∧ x ≠ i

structure LeadsIs (nx : List (List Int)) (num : List Int) (row : List Int) (i : Int) (r : List Int) : Prop where
  up : r.Pairwise (· < ·)
  is : ∀ x, x ∈ r ↔ ∃ a ∈ row, Lead1 nx num i a x

theorem LeadsIs.uniq {nx : List (List Int)} {num row : List Int} {i : Int} {r s : List Int} (hr : LeadsIs nx num row i r) (hs : LeadsIs nx num row i s) : r = s :=
  rising_eq hr.up hs.up (fun x => by rw [hr.is, hs.is])

structure LInv (nx : List (List Int)) (num row : List Int) (i : Int) (s : Nat × List Int × Nat × Nat) : Prop where
  t : s.1 = 0 ∨ s.1 = 1
  p : s.2.2.1 ≤ row.length
  p1 : s.1 = 1 → s.2.2.1 < row.length
  q : s.1 = 1 → s.2.2.2 ≤ (afterL nx (rd row (s.2.2.1 : Int))).length
  acc : ∀ x, x ∈ s.2.1 ↔ (∃ a ∈ row.take s.2.2.1, Lead1 nx num i a x) ∨ (s.1 = 1 ∧ ∃ b ∈ (afterL nx (rd row (s.2.2.1 : Int))).take s.2.2.2, num.getD b.toNat 0 = x ∧ x ≠ i)
  len : s.2.1.length ≤ s.2.2.1 * 1048576 + (if s.1 = 1 then s.2.2.2 else 0)

def leadsAt (nx : List (List Int)) (num row : List Int) (i : Int) (k : Nat) : Nat × List Int × Nat × Nat → Option (List Int)
  | (0, acc, p, _) => comp_leads.l0 k nx num i acc row (row.length : Int) (p : Int)
  | (_, acc, p, q) => comp_leads.l1 k nx num i acc row (row.length : Int) (p : Int) (afterL nx (rd row (p : Int))) ((afterL nx (rd row (p : Int))).length : Int) (q : Int)

theorem leads_from {nx : List (List Int)} {num row : List Int} {i : Int} (hN : num.length = nx.length) (hrow : row.length < 1048576) (hdeg : ∀ a : Nat, (nx.getD a []).length < 1048576) (hrng : ∀ x ∈ row, 0 ≤ x ∧ x < (nx.length : Int)) :
    ∀ s, LInv nx num row i s → ∃ k r, leadsAt nx num row i k s = some r ∧ LeadsIs nx num row i r := by
  refine loop_ends (leadsAt nx num row i) (LInv nx num row i) (fun _ r => LeadsIs nx num row i r) (fun s => if s.1 = 0 then (row.length - s.2.2.1) * 2097152 + 1 else (row.length - s.2.2.1) * 2097152 - s.2.2.2) ?_
  rintro ⟨t, acc, p, q⟩ h
  have hp := h.p
  have hl := h.len
  dsimp only at hp hl
  have hA : ∀ a : Int, (afterL nx a).length < 1048576 := fun a => by
    have h1 := hdeg a.toNat
    have h2 : (afterL nx a).length ≤ (nx.getD a.toNat []).length := by unfold afterL; exact List.length_filter_le _ _
    omega
  rcases h.t with ht | ht <;> dsimp only at ht <;> subst ht
  · by_cases hlt : p < row.length
    · have hx := hrng _ (rd_mem hlt)
      refine .inr ⟨(1, acc, p, 0), ⟨.inr rfl, h.p, fun _ => hlt, by simp, fun x => ?_, by simpa using hl⟩, by simp, fun k r hk hp => ?_⟩
      · have := h.acc x
        simp at this ⊢
        exact this
      · have e1 := after_eq nx (rd row (p : Int)) hx.1 hx.2 (by have := hdeg (rd row (p : Int)).toNat; omega)
        refine ⟨max k ((nx.getD (rd row (p : Int)).toNat []).length + 1) + 1, ?_, hp⟩
        simp only [leadsAt] at hk ⊢
        simp only [comp_leads.l0]
        rw [if_pos (by omega), if_pos (by omega), if_pos (by omega), at_rounds (comp_after.mono nx _) (Nat.le_max_right k _) e1]
        simp only [Option.bind_some]
        exact at_rounds (g := fun j => comp_leads.l1 j nx num i acc row (row.length : Int) (p : Int) (afterL nx (rd row (p : Int))) ((afterL nx (rd row (p : Int))).length : Int) 0) (fun j => (comp_leads.mono_l j).2 _ _ _ _ _ _ _ _ _ _) (Nat.le_max_left k _) hk
    · have hbig : acc.length < 17592186044416 := by
        have : p * 1048576 ≤ 1048576 * 1048576 := Nat.mul_le_mul (by omega) (Nat.le_refl _)
        simp at hl; omega
      have hsort : (acc.mergeSort fun x y => decide (x ≤ y)).Pairwise (fun a b : Int => a ≤ b) := by
        have := List.pairwise_mergeSort (le := fun x y : Int => decide (x ≤ y)) (fun a b c h1 h2 => by simp at *; omega) (fun a b => by simp; omega) acc
        exact this.imp (fun h => by simpa using h)
      obtain ⟨c1, c2⟩ := compact_sorted hsort
      refine .inl ⟨1, Lib.compact (acc.mergeSort fun x y => decide (x ≤ y)), ?_, c1, fun x => ?_⟩
      · simp only [leadsAt, comp_leads.l0]
        rw [if_neg (by omega), show slices_Sort_int.f acc = some (acc.mergeSort fun x y => decide (x ≤ y)) from if_pos hbig]
        simp only [Option.bind_some]
        rw [show slices_Compact_int.f (acc.mergeSort fun x y => decide (x ≤ y)) = some (Lib.compact (acc.mergeSort fun x y => decide (x ≤ y))) from if_pos (by rw [List.length_mergeSort]; exact hbig)]
        rfl
      · rw [c2, (List.mergeSort_perm acc _).mem_iff]
        have := h.acc x
        dsimp only at this
        rw [this, List.take_of_length_le (by omega)]
        simp
  · have hlt := h.p1 rfl
    have hq := h.q rfl
    dsimp only at hlt hq
    have hAp := hA (rd row (p : Int))
    have hl' : acc.length ≤ p * 1048576 + q := by simpa using hl
    by_cases hql : q < (afterL nx (rd row (p : Int))).length
    · have hb := rd_mem hql
      have hbr : 0 ≤ rd (afterL nx (rd row (p : Int))) (q : Int) ∧ rd (afterL nx (rd row (p : Int))) (q : Int) < (nx.length : Int) := by
        have := List.mem_filter.1 hb
        simpa using this.2
      have htk := take_more hql
      have hbig : acc.length < 17592186044416 := by
        have : p * 1048576 ≤ 1048576 * 1048576 := Nat.mul_le_mul (by omega) (Nat.le_refl _)
        simp at hl; omega
      have hacc := h.acc
      dsimp only at hacc
      generalize hj : rd (afterL nx (rd row (p : Int))) (q : Int) = b at hb hbr htk
      have hnb : rd num b = num.getD b.toNat 0 := rfl
      by_cases e : num.getD b.toNat 0 = i
      · refine .inr ⟨(1, acc, p, q + 1), ⟨.inr rfl, h.p, fun _ => hlt, fun _ => hql, fun x => ?_, by simp at hl ⊢; omega⟩, by simp; omega, fun k r hk hp => ⟨k + 1, ?_, hp⟩⟩
        · dsimp only
          rw [hacc x, htk]
          constructor
          · rintro (h1 | ⟨_, y, h1, h2⟩)
            · exact .inl h1
            · exact .inr ⟨rfl, y, List.mem_append_left _ h1, h2⟩
          · rintro (h1 | ⟨_, y, h1, h2⟩)
            · exact .inl h1
            · rcases List.mem_append.1 h1 with h3 | h3
              · exact .inr ⟨rfl, y, h3, h2⟩
              · rw [List.mem_singleton.1 h3] at h2; exact absurd (h2.1.symm.trans e) h2.2
        · simp only [leadsAt] at hk ⊢
          simp only [comp_leads.l1, hj]
          rw [if_pos (by omega), if_pos (by omega), if_pos (by omega), if_pos hbr.1, if_pos (by omega), hnb, if_pos e, wrap_nat (by omega)]
          exact hk
      · refine .inr ⟨(1, acc ++ [num.getD b.toNat 0], p, q + 1), ⟨.inr rfl, h.p, fun _ => hlt, fun _ => hql, fun x => ?_, by simp at hl ⊢; omega⟩, by simp; omega, fun k r hk hp => ⟨k + 1, ?_, hp⟩⟩
        · dsimp only
          rw [List.mem_append, hacc x, htk, List.mem_singleton]
          constructor
          · rintro ((h1 | ⟨_, y, h1, h2⟩) | h1)
            · exact .inl h1
            · exact .inr ⟨rfl, y, List.mem_append_left _ h1, h2⟩
            · exact .inr ⟨rfl, b, List.mem_append_right _ (List.mem_singleton.2 rfl), h1.symm, by rw [h1]; exact e⟩
          · rintro (h1 | ⟨_, y, h1, h2⟩)
            · exact .inl (.inl h1)
            · rcases List.mem_append.1 h1 with h3 | h3
              · exact .inl (.inr ⟨rfl, y, h3, h2⟩)
              · rw [List.mem_singleton.1 h3] at h2; exact .inr h2.1.symm
        · simp only [leadsAt] at hk ⊢
          simp only [comp_leads.l1, hj]
          rw [if_pos (by omega), if_pos (by omega), if_pos (by omega), if_pos hbr.1, if_pos (by omega), hnb, if_neg e, if_pos hbig, wrap_nat (by omega)]
          exact hk
    · refine .inr ⟨(0, acc, p + 1, 0), ⟨.inl rfl, hlt, by simp, by simp, fun x => ?_, by simp; omega⟩, by simp; omega, fun k r hk hp => ⟨k + 1, ?_, hp⟩⟩
      · have := h.acc x
        dsimp only at this ⊢
        rw [this, take_more hlt, List.take_of_length_le (l := afterL nx (rd row (p : Int))) (by omega)]
        constructor
        · rintro (⟨a, h1, h2⟩ | ⟨_, h1⟩)
          · exact .inl ⟨a, List.mem_append_left _ h1, h2⟩
          · exact .inl ⟨_, List.mem_append_right _ (List.mem_singleton.2 rfl), h1⟩
        · rintro (⟨a, h1, h2⟩ | ⟨h0, _⟩)
          · rcases List.mem_append.1 h1 with h3 | h3
            · exact .inl ⟨a, h3, h2⟩
            · rw [List.mem_singleton.1 h3] at h2; exact .inr ⟨rfl, h2⟩
          · simp at h0
      · simp only [leadsAt] at hk ⊢
        simp only [comp_leads.l1]
        rw [if_neg (by omega), wrap_nat (by omega)]
        exact hk

theorem leads_ev {nx : List (List Int)} {c : List (List Int)} {num : List Int} {i : Nat} (hc : Parts nx.length c) (hi : i < c.length) (hN : num.length = nx.length) (hdeg : ∀ a : Nat, (nx.getD a []).length < 1048576) :
    ∃ k r, comp_leads.f k nx c num (i : Int) = some r ∧ LeadsIs nx num (c.getD i []) (i : Int) r := by
  obtain ⟨k, r, h1, h2⟩ := leads_from (i := (i : Int)) hN (hc.rows i) hdeg (fun x hx => hc.rng i x hx) (0, [], 0, 0) ⟨.inl rfl, by simp, by simp, by simp, by simp, by simp⟩
  refine ⟨k, r, ?_, h2⟩
  have hrd : Ca.rd_L1 c (i : Int) = c.getD i [] := by simp [Ca.rd_L1]
  unfold comp_leads.f
  rw [if_pos (by omega), if_pos (by omega), hrd]
  simpa [leadsAt] using h1
end Go.Proofs.Ytkgkhakjodlpgaa.C
