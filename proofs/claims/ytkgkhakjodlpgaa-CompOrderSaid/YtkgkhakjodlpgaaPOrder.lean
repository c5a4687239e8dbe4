/- The law of the order, of what is printed of it. -/
import Derived.Test.YtkgkhakjodlpgaaPTold
import Derived.Test.YtkgkhakjodlpgaaPSmall
import Derived.Test.YtkgkhakjodlpgaaC16
namespace Go.Proofs.Ytkgkhakjodlpgaa.C
open Go.RowKit Go.Proofs.YtkgkhakjodlpgaaW.PrintWords Go.Proofs.Ytkgkhakjodlpgaa.Ext Go.Proofs.Ytkgkhakjodlpgaa.Ca Go.Proofs.Ytkgkhakjodlpgaa.Cv

inductive OS where
  | l0 (i : Nat)
  | l1 (i j : Nat)
  | l2 (i j : Nat)

def OInv (L up : List (List Int)) : OS → Prop
  | .l0 i => i ≤ L.length
  | .l1 i j => i < L.length ∧ j ≤ (up.getD i []).length
  | .l2 i j => i < L.length ∧ j ≤ (L.getD i []).length

def oAt (nx L up : List (List Int)) (k : Nat) : OS → Option Bool
  | .l0 i => runnellaw13_CompOrder.l0 k nx L up (i : Int)
  | .l1 i j => runnellaw13_CompOrder.l1 k nx L up (i : Int) (j : Int)
  | .l2 i j => runnellaw13_CompOrder.l2 k nx L up (i : Int) (j : Int)

def oM (L : List (List Int)) : OS → Nat
  | .l0 i => (L.length - i) * 16777216 + 8388608
  | .l1 i j => (L.length - i) * 16777216 - j
  | .l2 i j => (L.length - i) * 16777216 - 4194304 - j

theorem order_from {nx L : List (List Int)} {num : List Int} {up : List (List Int)} (hN : nx.length < 1048576) (hdeg : ∀ a : Nat, (nx.getD a []).length < 1048576) (h : All nx L num up) :
    ∀ s, OInv L up s → ∃ k r, oAt nx L up k s = some r ∧ r = true := by
  have hmany := h.parts.many
  have hul := h.up.len
  have hrd : ∀ (l : List (List Int)) (i : Int), rd_L1 l i = l.getD i.toNat [] := fun l i => rfl
  have hrow : ∀ i, i < L.length → (up.getD i []).length ≤ L.length := fun i hi => by
    have h1 := h.up.is i hi
    exact rows_len h1 (lead_place h.cov h.num h1)
  refine loop_ends (oAt nx L up) (OInv L up) (fun _ r => r = true) (oM L) ?_
  rintro (i | ⟨i, j⟩ | ⟨i, j⟩) hI
  · simp only [OInv] at hI
    by_cases hlt : i < L.length
    · refine .inr ⟨.l1 i 0, ⟨hlt, by omega⟩, by simp only [oM]; omega, fun k r hk hp => ⟨k + 1, ?_, hp⟩⟩
      simp only [oAt] at hk ⊢
      simp only [runnellaw13_CompOrder.l0]
      rw [if_pos (by omega)]
      exact hk
    · refine .inl ⟨1, true, ?_, rfl⟩
      simp only [oAt, runnellaw13_CompOrder.l0]
      rw [if_neg (by omega)]
  · obtain ⟨hi, hj⟩ := hI
    have hr := hrow i hi
    by_cases hlt : j < (up.getD i []).length
    · have hx := h.ahead hi _ (rd_mem hlt)
      have hup := (h.up.is i hi).up
      refine .inr ⟨.l1 i (j + 1), ⟨hi, hlt⟩, by simp only [oM]; omega, fun k r hk hp => ⟨k + 2, ?_, hp⟩⟩
      simp only [oAt] at hk ⊢
      simp only [runnellaw13_CompOrder.l1, runnellaw13_CompOrder.j3, hrd, Int.toNat_natCast]
      rw [if_pos (by omega), if_pos (by omega), if_pos (by omega), if_pos (by omega), if_neg (by omega), if_neg (by omega)]
      by_cases h0 : 0 < j
      · have h1 := rising_rd hup h0 hlt
        rw [if_pos (by omega), wrap_dec h0 (by omega), if_pos (by omega), if_pos (by omega), if_neg (by simp only [decide_eq_true_eq]; omega), wrap_nat (by omega)]
        exact hk
      · rw [if_neg (by omega)]
        simp only [Bool.false_eq_true, if_false]
        rw [wrap_nat (by omega)]
        exact hk
    · refine .inr ⟨.l2 i 0, ⟨hi, by omega⟩, by simp only [oM]; omega, fun k r hk hp => ⟨k + 1, ?_, hp⟩⟩
      simp only [oAt] at hk ⊢
      simp only [runnellaw13_CompOrder.l1, hrd, Int.toNat_natCast]
      rw [if_pos (by omega), if_pos (by omega), if_neg (by omega)]
      exact hk
  · obtain ⟨hi, hj⟩ := hI
    have hr := h.parts.rows i
    by_cases hlt : j < (L.getD i []).length
    · have hm := rd_mem hlt
      have hx := h.parts.rng i _ hm
      generalize hx0 : rd (L.getD i []) (j : Int) = x at hm hx
      obtain ⟨a, rfl⟩ := Int.eq_ofNat_of_zero_le hx.1
      obtain ⟨k1, e1⟩ := cyclic_ev nx a (by omega) hN hdeg
      have hround := h.round hi hm
      rw [← cyclic_at (by omega)] at hround
      have hdega := hdeg a
      obtain ⟨k2, e2⟩ := among_ev (nx.getD a []) (a : Int) (by omega)
      refine .inr ⟨.l2 i (j + 1), ⟨hi, hlt⟩, by simp only [oM]; omega, fun k r hk hp => ⟨max k (max k1 k2) + 2, ?_, hp⟩⟩
      simp only [oAt] at hk ⊢
      simp only [runnellaw13_CompOrder.l2, hrd, Int.toNat_natCast, hx0]
      rw [if_pos (by omega), if_pos (by omega), if_pos (by omega), if_pos (by omega), at_rounds (comp_Cyclic.mono nx _) (show k1 ≤ max k (max k1 k2) + 1 by omega) e1]
      simp only [Option.bind_some]
      have hgo : runnellaw13_CompOrder.l2 (max k (max k1 k2)) nx L up (i : Int) ((j + 1 : Nat) : Int) = some r :=
        at_rounds (g := fun j' => runnellaw13_CompOrder.l2 j' nx L up (i : Int) ((j + 1 : Nat) : Int)) (fun j' => (runnellaw13_CompOrder.mono_l j').2.2.2.2.1 _ _ _ _ _) (Nat.le_max_left k _) hk
      by_cases h1 : 1 < (L.getD i []).length
      · rw [if_pos (by omega), hround.2 (.inl h1)]
        simp only [runnellaw13_CompOrder.j5, bne_self_eq_false, Bool.false_eq_true, if_false]
        rw [wrap_nat (by omega)]
        exact hgo
      · rw [if_neg (by omega), if_pos (by omega), if_pos (by omega), at_rounds (runnellaw13_among.mono _ _) (show k2 ≤ max k (max k1 k2) + 1 by omega) e2]
        have e3 : (marksOf nx (nx.getD a [])).getD a false = decide ((a : Int) ∈ nx.getD a []) := by
          rw [Bool.eq_iff_iff, hround, decide_eq_true_eq]
          exact ⟨fun h => h.resolve_left h1, .inr⟩
        simp only [Option.bind_some, e3]
        simp only [runnellaw13_CompOrder.j5, bne_self_eq_false, Bool.false_eq_true, if_false]
        rw [wrap_nat (by omega)]
        exact hgo
    · refine .inr ⟨.l0 (i + 1), hi, by simp only [oM]; omega, fun k r hk hp => ⟨k + 1, ?_, hp⟩⟩
      simp only [oAt] at hk ⊢
      simp only [runnellaw13_CompOrder.l2, hrd, Int.toNat_natCast]
      rw [if_pos (by omega), if_pos (by omega), if_neg (by omega), wrap_nat (by omega)]
      exact hk

theorem order_law (hs : ∃ k, runnellaw13_shown.f k = some true) (nx : List (List Int)) : ∃ k, runnellaw13_CompOrder.f k nx = some true := by
  obtain ⟨k0, e0⟩ := hs
  obtain ⟨k1, v, e1, hv⟩ := small_ev nx
  cases v with
  | false =>
    refine ⟨max k0 k1 + 1, ?_⟩
    unfold runnellaw13_CompOrder.f
    rw [at_rounds runnellaw13_shown.mono (show k0 ≤ max k0 k1 + 1 by omega) e0, at_rounds (runnellaw13_small.mono nx) (show k1 ≤ max k0 k1 + 1 by omega) e1]
    simp [runnellaw13_CompOrder.j0]
  | true =>
    obtain ⟨hN, hrow⟩ := hv rfl
    have hN' : nx.length < 1048576 := by omega
    have hrow' : ∀ a : Nat, (nx.getD a []).length < 1048576 := fun a => by have := hrow a; omega
    obtain ⟨L, num, up, ⟨k2, e2⟩, _, ⟨k3, e3⟩, h⟩ := all_ev nx hN' hrow'
    obtain ⟨k4, r, e4, rfl⟩ := order_from hN' hrow' h (.l0 0) (Nat.zero_le _)
    have e4' : runnellaw13_CompOrder.l0 k4 nx L up 0 = some true := by simpa [oAt] using e4
    have hul := h.up.len
    generalize hK : k0 + k1 + k2 + k3 + k4 = K
    refine ⟨K + 1, ?_⟩
    unfold runnellaw13_CompOrder.f
    rw [at_rounds runnellaw13_shown.mono (show k0 ≤ K + 1 by omega) e0, at_rounds (runnellaw13_small.mono nx) (show k1 ≤ K + 1 by omega) e1]
    simp only [Option.bind_some, if_true, runnellaw13_CompOrder.j0]
    rw [at_rounds (comp_Components.mono nx) (show k2 ≤ K by omega) e2]
    simp only [Option.bind_some]
    rw [at_rounds (comp_Above.mono nx) (show k3 ≤ K by omega) e3]
    simp only [Option.bind_some, Bool.not_true, Bool.false_eq_true, if_false]
    rw [if_pos (by omega)]
    exact at_rounds (g := fun j => runnellaw13_CompOrder.l0 j nx L up 0) (fun j => (runnellaw13_CompOrder.mono_l j).2.1 _ _ _ _) (show k4 ≤ K by omega) e4'
end Go.Proofs.Ytkgkhakjodlpgaa.C
