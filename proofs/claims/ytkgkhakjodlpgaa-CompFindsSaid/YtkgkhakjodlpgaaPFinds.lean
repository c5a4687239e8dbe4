/- The law of the components, of what is printed of it. -/
import Derived.Test.YtkgkhakjodlpgaaPAll
import Derived.Test.YtkgkhakjodlpgaaPRefC
import Derived.Test.YtkgkhakjodlpgaaPSmall
import Derived.Test.YtkgkhakjodlpgaaC9
import Derived.Test.YtkgkhakjodlpgaaC12
namespace Go.Proofs.Ytkgkhakjodlpgaa.C
open Go.RowKit Go.Proofs.YtkgkhakjodlpgaaW.PrintWords Go.Proofs.Ytkgkhakjodlpgaa.Ext Go.Proofs.Ytkgkhakjodlpgaa.Ca Go.Proofs.Ytkgkhakjodlpgaa.Cv

def refNumAt (c : List (List Int)) (k : Nat) : Nat × List Int × Nat × Nat → Option (List Int)
  | (0, m, i, _) => runnelref13_Number.l0 k m c (i : Int)
  | (_, m, i, j) => runnelref13_Number.l1 k m c (i : Int) (j : Int)

theorem refNum_from {N : Nat} {c : List (List Int)} (hc : Parts N c) : ∀ s, NInv N c s → ∃ k r, refNumAt c k s = some r ∧ NumOf N c r := by
  have hrd : ∀ (i : Int), rd_L1 c i = c.getD i.toNat [] := fun i => rfl
  refine loop_ends (refNumAt c) (NInv N c) (fun _ r => NumOf N c r) (numM c) ?_
  rintro ⟨t, m, i, j⟩ h
  have hm := hc.many
  have hr := hc.rows i
  have hi := h.i
  dsimp only at hi
  rcases h.t with ht | ht <;> dsimp only at ht <;> subst ht
  · by_cases hlt : i < c.length
    · refine .inr ⟨(1, m, i, 0), ⟨.inr rfl, h.len, h.i, fun _ => hlt, by simp, h.old, by simp⟩, by simp [numM], fun k r hk hp => ⟨k + 1, ?_, hp⟩⟩
      simp only [refNumAt] at hk ⊢
      simp only [runnelref13_Number.l0]
      rw [if_pos (by omega)]
      exact hk
    · refine .inl ⟨1, m, ?_, h.len, fun t x hx => ?_⟩
      · simp only [refNumAt, runnelref13_Number.l0]
        rw [if_neg (by omega)]
      · have ht : t < c.length := by
          by_cases e : t < c.length
          · exact e
          · rw [List.getD_eq_getElem?_getD, List.getElem?_eq_none (by omega)] at hx; simp at hx
        exact h.old t x (by dsimp only; omega) hx
  · have hi1 := h.i1 rfl
    have hj := h.j rfl
    dsimp only at hi1 hj
    by_cases hlt : j < (c.getD i []).length
    · obtain ⟨h1, h2, h3⟩ := ninv_step hc h hlt
      refine .inr ⟨_, h3, by simp [numM]; omega, fun k r hk hp => ⟨k + 1, ?_, hp⟩⟩
      simp only [refNumAt] at hk ⊢
      simp only [runnelref13_Number.l1, hrd, Int.toNat_natCast]
      rw [if_pos (by omega), if_pos (by omega), if_pos (by omega), if_pos (by omega), if_pos h1, if_pos h2, wrap_nat (by omega)]
      exact hk
    · refine .inr ⟨(0, m, i + 1, 0), ninv_next h (by omega), by simp [numM]; omega, fun k r hk hp => ⟨k + 1, ?_, hp⟩⟩
      simp only [refNumAt] at hk ⊢
      simp only [runnelref13_Number.l1, hrd, Int.toNat_natCast]
      rw [if_pos (by omega), if_pos (by omega), if_neg (by omega), wrap_nat (by omega)]
      exact hk

theorem refNum_ev {N : Nat} {c : List (List Int)} (hc : Parts N c) : ∃ k r, runnelref13_Number.l0 k (List.replicate N 0) c 0 = some r ∧ NumOf N c r := by
  obtain ⟨k, r, h1, h2⟩ := refNum_from hc _ (ninv_start N c)
  exact ⟨k, r, by simpa [refNumAt] using h1, h2⟩

inductive US where
  | zero (acc : List (List Int)) (i : Nat)
  | one (acc : List (List Int)) (i : Nat) (m : List Bool) (j : Nat)
  | two (acc : List (List Int)) (i : Nat) (m : List Bool) (j p : Nat)

/-- A number is marked: an edge of the first j nodes of a component, or of the first p of the next one's, leads to it. -/
def UMark (nx c : List (List Int)) (num : List Int) (i : Nat) (m : List Bool) (j : Nat) (part : List Int) : Prop :=
  m.length = c.length ∧ ∀ z, z < c.length → (m.getD z false = true ↔ (∃ a ∈ (c.getD i []).take j, Lead1 nx num (i : Int) a (z : Int)) ∨ ∃ b ∈ part, 0 ≤ b ∧ b < (nx.length : Int) ∧ num.getD b.toNat 0 = (z : Int) ∧ (z : Int) ≠ (i : Int))

def UInv (nx c : List (List Int)) (num : List Int) : US → Prop
  | .zero acc i => AboveIs nx c num i acc ∧ i ≤ c.length
  | .one acc i m j => AboveIs nx c num i acc ∧ i < c.length ∧ j ≤ (c.getD i []).length ∧ UMark nx c num i m j []
  | .two acc i m j p => AboveIs nx c num i acc ∧ i < c.length ∧ j < (c.getD i []).length ∧ p ≤ (nx.getD (rd (c.getD i []) (j : Int)).toNat []).length ∧ UMark nx c num i m j ((nx.getD (rd (c.getD i []) (j : Int)).toNat []).take p)

def uAt (nx c : List (List Int)) (num : List Int) (k : Nat) : US → Option (List (List Int))
  | .zero acc i => runnelref13_Above.l0 k nx c num acc (i : Int)
  | .one acc i m j => runnelref13_Above.l1 k nx c num acc (i : Int) m (j : Int)
  | .two acc i m j p => runnelref13_Above.l2 k nx c num acc (i : Int) m (j : Int) (nx.getD (rd (c.getD i []) (j : Int)).toNat []) (p : Int)

def uM (c : List (List Int)) : US → Nat
  | .zero _ i => (c.length - i) * 17592186044416 + 8796093022208
  | .one _ i _ j => (c.length - i) * 17592186044416 - j * 4194304
  | .two _ i _ j p => (c.length - i) * 17592186044416 - j * 4194304 - 1 - p

theorem u_from {nx c : List (List Int)} {num : List Int} (_hN : nx.length < 1048576) (hc : Parts nx.length c) (hcov : ∀ a, a < nx.length → ∃ t, t < c.length ∧ (a : Int) ∈ c.getD t []) (hn : NumOf nx.length c num) (hdeg : ∀ a : Nat, (nx.getD a []).length < 1048576) :
    ∀ s, UInv nx c num s → ∃ k r, uAt nx c num k s = some r ∧ AboveIs nx c num c.length r := by
  have hmany := hc.many
  have hrd : ∀ (l : List (List Int)) (i : Int), rd_L1 l i = l.getD i.toNat [] := fun l i => rfl
  have hlen := hn.len
  -- a number of a node that there is is a place
  have hplace : ∀ b : Int, 0 ≤ b → b < (nx.length : Int) → 0 ≤ num.getD b.toNat 0 ∧ num.getD b.toNat 0 < (c.length : Int) := fun b h0 h1 => by
    obtain ⟨t, ht, hb⟩ := hcov b.toNat (by omega)
    have := hn.is t _ hb
    rw [Int.toNat_natCast] at this
    omega
  refine loop_ends (uAt nx c num) (UInv nx c num) (fun _ r => AboveIs nx c num c.length r) (uM c) ?_
  rintro (⟨acc, i⟩ | ⟨acc, i, m, j⟩ | ⟨acc, i, m, j, p⟩) hI
  · obtain ⟨hA, hi⟩ := hI
    by_cases hlt : i < c.length
    · refine .inr ⟨.one acc i (List.replicate c.length false) 0, ⟨hA, hlt, by omega, by simp, fun z hz => by rw [replicate_getD]; simp⟩, by simp only [uM]; omega, fun k r hk hp => ⟨k + 1, ?_, hp⟩⟩
      simp only [uAt] at hk ⊢
      simp only [runnelref13_Above.l0]
      rw [if_pos (by omega), if_pos (by omega), if_pos (by omega), Int.toNat_natCast]
      exact hk
    · obtain rfl : i = c.length := by omega
      refine .inl ⟨1, acc, ?_, hA⟩
      simp only [uAt, runnelref13_Above.l0]
      rw [if_neg (by omega)]
  · obtain ⟨hA, hi, hj, hml, hm⟩ := hI
    have hrow := hc.rows i
    by_cases hlt : j < (c.getD i []).length
    · have hx := hc.rng i _ (rd_mem hlt)
      refine .inr ⟨.two acc i m j 0, ⟨hA, hi, hlt, by omega, hml, by simpa using hm⟩, by simp only [uM]; omega, fun k r hk hp => ⟨k + 1, ?_, hp⟩⟩
      simp only [uAt] at hk ⊢
      simp only [runnelref13_Above.l1, hrd, Int.toNat_natCast]
      rw [if_pos (by omega), if_pos (by omega), if_pos (by omega), if_pos (by omega), if_pos hx.1, if_pos hx.2]
      exact hk
    · obtain ⟨k1, e1⟩ := list_ev m (by omega)
      have hl := hA.len
      have hLs : LeadsIs nx num (c.getD i []) (i : Int) (listOf m) := by
        refine ⟨?_, fun x => ?_⟩
        · unfold listOf
          rw [List.pairwise_map]
          exact (List.Pairwise.filter _ List.pairwise_lt_range).imp (fun h => by omega)
        · unfold listOf
          rw [List.mem_map]
          constructor
          · rintro ⟨z, hz, rfl⟩
            rw [List.mem_filter, List.mem_range] at hz
            have := (hm z (by omega)).1 hz.2
            rw [List.take_of_length_le (by omega)] at this
            rcases this with h1 | ⟨b, h1, _⟩
            · exact h1
            · simp at h1
          · rintro ⟨a, ha, b, hb, h1, h2⟩
            have hb2 := (List.mem_filter.1 hb).2
            simp only [Bool.and_eq_true, decide_eq_true_eq] at hb2
            have hpl := hplace b hb2.1 hb2.2
            rw [h1] at hpl
            obtain ⟨z, rfl⟩ := Int.eq_ofNat_of_zero_le hpl.1
            refine ⟨z, List.mem_filter.2 ⟨List.mem_range.2 (by omega), (hm z (by omega)).2 (.inl ?_)⟩, rfl⟩
            rw [List.take_of_length_le (by omega)]
            exact ⟨a, ha, b, hb, h1, h2⟩
      refine .inr ⟨.zero (acc ++ [listOf m]) (i + 1), ⟨hA.snoc hLs, hi⟩, by simp only [uM]; omega, fun k r hk hp => ⟨max k k1 + 1, ?_, hp⟩⟩
      simp only [uAt] at hk ⊢
      simp only [runnelref13_Above.l1, hrd, Int.toNat_natCast]
      rw [if_pos (by omega), if_pos (by omega), if_neg (by omega), at_rounds (runnelref13_List.mono m) (Nat.le_max_right k k1) e1]
      simp only [Option.bind_some]
      rw [if_pos (by omega), wrap_nat (by omega)]
      exact at_rounds (g := fun j => runnelref13_Above.l0 j nx c num (acc ++ [listOf m]) ((i + 1 : Nat) : Int)) (fun j => (runnelref13_Above.mono_l j).1 _ _ _ _ _) (Nat.le_max_left k k1) hk
  · obtain ⟨hA, hi, hj, hp, hml, hm⟩ := hI
    have hrow := hc.rows i
    have hd := hdeg (rd (c.getD i []) (j : Int)).toNat
    have htk := take_more hj
    generalize ha0 : rd (c.getD i []) (j : Int) = a0 at hp hm hd htk
    by_cases hlt : p < (nx.getD a0.toNat []).length
    · have htk2 := take_more hlt
      generalize hb0 : rd (nx.getD a0.toNat []) (p : Int) = b at htk2
      have hrng : 0 ≤ b → b < (nx.length : Int) → 0 ≤ rd num b ∧ rd num b < (c.length : Int) := fun h0 h1 => hplace b h0 h1
      by_cases hgo : 0 ≤ b ∧ b < (nx.length : Int) ∧ rd num b ≠ (i : Int)
      · obtain ⟨h0, h1, h2⟩ := hgo
        have hpl := hrng h0 h1
        obtain ⟨z0, hz0⟩ := Int.eq_ofNat_of_zero_le hpl.1
        refine .inr ⟨.two acc i (m.set z0 true) j (p + 1), ⟨hA, hi, hj, by rw [ha0]; exact hlt, by simpa using hml, fun z hz => ?_⟩, by simp only [uM]; omega, fun k r hk hp => ⟨k + 2, ?_, hp⟩⟩
        · rw [getD_set_b m z0 (by omega), ha0, htk2]
          by_cases e : z = z0
          · subst e
            rw [if_pos rfl]
            exact ⟨fun _ => .inr ⟨b, by simp, h0, h1, hz0, by omega⟩, fun _ => rfl⟩
          · rw [if_neg e, hm z hz]
            constructor
            · rintro (h3 | ⟨y, h3, h4⟩)
              · exact .inl h3
              · exact .inr ⟨y, List.mem_append_left _ h3, h4⟩
            · rintro (h3 | ⟨y, h3, h4⟩)
              · exact .inl h3
              · rcases List.mem_append.1 h3 with h5 | h5
                · exact .inr ⟨y, h5, h4⟩
                · rw [List.mem_singleton.1 h5] at h4
                  have h6 : num.getD b.toNat 0 = (z0 : Int) := hz0
                  rw [h6] at h4
                  have := h4.2.2.1
                  omega
        · simp only [uAt, ha0] at hk ⊢
          simp only [runnelref13_Above.l2, runnelref13_Above.j3, hb0]
          have h2' : (rd num b != (i : Int)) = true := by simpa using h2
          rw [if_pos (by omega), if_pos (by omega), if_pos (by omega), if_pos (by omega), if_pos (by omega), if_pos (by omega), h2', if_pos rfl, if_pos (by omega), if_pos (by omega), if_pos (by omega), if_pos (by omega), if_pos (by omega), if_pos (by omega), hz0, Int.toNat_natCast, wrap_nat (by omega)]
          exact hk
      · refine .inr ⟨.two acc i m j (p + 1), ⟨hA, hi, hj, by rw [ha0]; exact hlt, hml, fun z hz => ?_⟩, by simp only [uM]; omega, fun k r hk hp => ⟨k + 2, ?_, hp⟩⟩
        · rw [hm z hz, ha0, htk2]
          constructor
          · rintro (h3 | ⟨y, h3, h4⟩)
            · exact .inl h3
            · exact .inr ⟨y, List.mem_append_left _ h3, h4⟩
          · rintro (h3 | ⟨y, h3, h4⟩)
            · exact .inl h3
            · rcases List.mem_append.1 h3 with h5 | h5
              · exact .inr ⟨y, h5, h4⟩
              · rw [List.mem_singleton.1 h5] at h4
                exact absurd ⟨h4.1, h4.2.1, by rw [show rd num b = num.getD b.toNat 0 from rfl, h4.2.2.1]; exact h4.2.2.2⟩ hgo
        · simp only [uAt, ha0] at hk ⊢
          simp only [runnelref13_Above.l2, runnelref13_Above.j3, hb0]
          rw [if_pos (by omega), if_pos (by omega)]
          by_cases h0 : 0 ≤ b
          · rw [if_pos (by omega)]
            by_cases h1 : b < (nx.length : Int)
            · have h2 : rd num b = (i : Int) := by
                by_cases e : rd num b = (i : Int)
                · exact e
                · exact absurd ⟨h0, h1, e⟩ hgo
              rw [if_pos h1, if_pos (by omega), if_pos (by omega), h2]
              simp only [bne_self_eq_false, Bool.false_eq_true, if_false]
              rw [wrap_nat (by omega)]; exact hk
            · rw [if_neg h1]
              simp only [Bool.false_eq_true, if_false]
              rw [wrap_nat (by omega)]; exact hk
          · rw [if_neg (by omega)]
            simp only [Bool.false_eq_true, if_false]
            rw [wrap_nat (by omega)]; exact hk
    · refine .inr ⟨.one acc i m (j + 1), ⟨hA, hi, hj, hml, fun z hz => ?_⟩, by simp only [uM]; omega, fun k r hk hp => ⟨k + 1, ?_, hp⟩⟩
      · rw [hm z hz, htk, List.take_of_length_le (l := nx.getD a0.toNat []) (by omega)]
        constructor
        · rintro (⟨a, h3, h4⟩ | ⟨y, h3, h4, h5, h6, h7⟩)
          · exact .inl ⟨a, List.mem_append_left _ h3, h4⟩
          · exact .inl ⟨a0, by simp, y, List.mem_filter.2 ⟨h3, by simp [h4, h5]⟩, h6, h7⟩
        · rintro (⟨a, h3, h4⟩ | ⟨y, h3, _⟩)
          · rcases List.mem_append.1 h3 with h5 | h5
            · exact .inl ⟨a, h5, h4⟩
            · rw [List.mem_singleton.1 h5] at h4
              obtain ⟨y, h6, h7, h8⟩ := h4
              have h9 := List.mem_filter.1 h6
              have h10 := h9.2
              simp only [Bool.and_eq_true, decide_eq_true_eq] at h10
              exact .inr ⟨y, h9.1, h10.1, h10.2, h7, h8⟩
          · simp at h3
      · simp only [uAt, ha0] at hk ⊢
        simp only [runnelref13_Above.l2]
        rw [if_neg (by omega), wrap_nat (by omega)]
        exact hk
theorem finds_law (hs : ∃ k, runnellaw13_shown.f k = some true) (nx : List (List Int)) : ∃ k, runnellaw13_CompFinds.f k nx = some true := by
  obtain ⟨k0, e0⟩ := hs
  obtain ⟨k1, v, e1, hv⟩ := small_ev nx
  cases v with
  | false =>
    refine ⟨max k0 k1 + 1, ?_⟩
    unfold runnellaw13_CompFinds.f
    rw [at_rounds runnellaw13_shown.mono (show k0 ≤ max k0 k1 + 1 by omega) e0, at_rounds (runnellaw13_small.mono nx) (show k1 ≤ max k0 k1 + 1 by omega) e1]
    simp [runnellaw13_CompFinds.j0]
  | true =>
    obtain ⟨hN, hrow⟩ := hv rfl
    have hN' : nx.length < 1048576 := by omega
    have hrow' : ∀ a : Nat, (nx.getD a []).length < 1048576 := fun a => by have := hrow a; omega
    obtain ⟨L, num, up, ⟨k2, e2⟩, ⟨k3, e3⟩, ⟨k4, e4⟩, h⟩ := all_ev nx hN' hrow'
    obtain ⟨k5, L2, e5, hs2⟩ := refComps_ev nx hN' hrow'
    obtain rfl := hs2.uniq h.seq
    obtain ⟨k6, n2, e6, hn2⟩ := refNum_ev h.parts
    obtain rfl := hn2.uniq (fun a ha => by obtain ⟨t, _, h1⟩ := h.cov a ha; exact ⟨t, h1⟩) h.num
    obtain ⟨k7, u2, e7, hu2⟩ := u_from hN' h.parts h.cov h.num hrow' (.zero [] 0) ⟨⟨rfl, fun t ht => absurd ht (by simp)⟩, by simp⟩
    obtain rfl := hu2.uniq h.up
    have hm := h.parts.many
    obtain ⟨k8, e8⟩ := sameLists_self L2 (by omega) (fun i => by have := h.parts.rows i; omega)
    obtain ⟨k9, e9⟩ := sameInts_self n2 (by rw [h.num.len]; omega)
    obtain ⟨k10, e10⟩ := sameLists_self u2 (by rw [h.up.len]; omega) (fun i => by
      by_cases hi : i < L2.length
      · have h1 := h.up.is i hi
        have := rows_len h1 (lead_place h.cov h.num h1)
        omega
      · have hl := h.up.len
        rw [List.getD_eq_getElem?_getD, List.getElem?_eq_none (by omega)]
        simp)
    have hnum : ∀ k, max k5 k6 ≤ k → runnelref13_Number.f k nx = some n2 := fun k hk => by
      unfold runnelref13_Number.f
      rw [if_pos (by omega), if_pos (by omega), at_rounds (runnelref13_Components.mono nx) (show k5 ≤ k by omega) e5]
      simp only [Option.bind_some, Int.toNat_natCast]
      exact at_rounds (g := fun j => runnelref13_Number.l0 j (List.replicate nx.length 0) L2 0) (fun j => (runnelref13_Number.mono_l j).1 _ _ _) (show k6 ≤ k by omega) e6
    have hup : ∀ k, max (max k5 k6) k7 ≤ k → runnelref13_Above.f k nx = some u2 := fun k hk => by
      unfold runnelref13_Above.f
      rw [at_rounds (runnelref13_Components.mono nx) (show k5 ≤ k by omega) e5]
      simp only [Option.bind_some]
      rw [hnum k (by omega)]
      simp only [Option.bind_some]
      exact at_rounds (g := fun j => runnelref13_Above.l0 j nx L2 n2 [] 0) (fun j => (runnelref13_Above.mono_l j).1 _ _ _ _ _) (show k7 ≤ k by omega) e7
    generalize hK : k0 + k1 + k2 + k3 + k4 + k5 + k6 + k7 + k8 + k9 + k10 = K
    refine ⟨K + 1, ?_⟩
    unfold runnellaw13_CompFinds.f
    rw [at_rounds runnellaw13_shown.mono (show k0 ≤ K + 1 by omega) e0, at_rounds (runnellaw13_small.mono nx) (show k1 ≤ K + 1 by omega) e1]
    simp only [Option.bind_some, if_true, runnellaw13_CompFinds.j0]
    rw [at_rounds (comp_Components.mono nx) (show k2 ≤ K by omega) e2, at_rounds (runnelref13_Components.mono nx) (show k5 ≤ K by omega) e5]
    simp only [Option.bind_some]
    rw [at_rounds (runnellaw13_sameLists.mono _ _) (show k8 ≤ K by omega) e8]
    simp only [Option.bind_some]
    rw [at_rounds (comp_Number.mono nx) (show k3 ≤ K by omega) e3, hnum K (by omega)]
    simp only [Option.bind_some]
    rw [at_rounds (runnellaw13_sameInts.mono _ _) (show k9 ≤ K by omega) e9]
    simp only [Option.bind_some]
    rw [at_rounds (comp_Above.mono nx) (show k4 ≤ K by omega) e4, hup K (by omega)]
    simp only [Option.bind_some]
    rw [at_rounds (runnellaw13_sameLists.mono _ _) (show k10 ≤ K by omega) e10]
    simp
end Go.Proofs.Ytkgkhakjodlpgaa.C
