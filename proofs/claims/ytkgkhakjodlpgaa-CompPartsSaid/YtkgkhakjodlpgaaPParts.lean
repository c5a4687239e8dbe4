/- The law of the parts, of what is printed of it. -/
import Derived.Test.YtkgkhakjodlpgaaPAll
import Derived.Test.YtkgkhakjodlpgaaPWalk
import Derived.Test.YtkgkhakjodlpgaaPSmall
import Derived.Test.YtkgkhakjodlpgaaPTold
import Derived.Test.YtkgkhakjodlpgaaC18
namespace Go.Proofs.Ytkgkhakjodlpgaa.C
open Go.RowKit Go.Proofs.YtkgkhakjodlpgaaW.PrintWords Go.Proofs.Ytkgkhakjodlpgaa.Ext Go.Proofs.Ytkgkhakjodlpgaa.Ca Go.Proofs.Ytkgkhakjodlpgaa.Cv

theorem nodup_sub : ∀ (l m : List Int), l.Nodup → (∀ x ∈ l, x ∈ m) → l.length ≤ m.length
  | [], _, _, _ => by simp
  | x :: l, m, hl, h => by
    rw [List.nodup_cons] at hl
    have h1 := nodup_sub l (m.erase x) hl.2 (fun y hy => (List.mem_erase_of_ne (fun e => hl.1 (by rw [← e]; exact hy))).2 (h y (by simp [hy])))
    rw [List.length_erase_of_mem (h x (by simp))] at h1
    have h2 : 0 < m.length := List.length_pos_of_mem (h x (by simp))
    simp only [List.length_cons]
    omega

def tot (L : List (List Int)) (i : Nat) : Nat := (L.take i).flatten.length

theorem tot_more {L : List (List Int)} {i : Nat} (h : i < L.length) : tot L (i + 1) = tot L i + (L.getD i []).length := by
  unfold tot
  rw [List.take_add_one, List.getElem?_eq_getElem h, List.flatten_append, List.length_append, List.getD_eq_getElem?_getD, List.getElem?_eq_getElem h]
  simp

theorem flat_nodup {nx L : List (List Int)} (hc : Classes nx L) : L.flatten.Nodup := by
  unfold List.Nodup
  rw [List.pairwise_flatten]
  refine ⟨fun l hl => ?_, hc.dis.imp (fun h x hx y hy e => h x hx (by rw [e]; exact hy))⟩
  obtain ⟨m, _, rfl⟩ := hc.cl l hl
  exact rising_nodup (cls_sorted nx m)

theorem flat_rng {nx L : List (List Int)} (hc : Classes nx L) : ∀ x ∈ L.flatten, 0 ≤ x ∧ x < (nx.length : Int) := by
  intro x hx
  obtain ⟨l, hl, hxl⟩ := List.mem_flatten.1 hx
  obtain ⟨m, _, rfl⟩ := hc.cl l hl
  obtain ⟨b, rfl, hb, _⟩ := mem_cls.1 hxl
  omega

theorem tot_le {nx L : List (List Int)} (hc : Classes nx L) (i : Nat) : tot L i ≤ nx.length := by
  have h1 := nodup_len nx.length L.flatten (flat_nodup hc) (flat_rng hc)
  have h2 : (L.take i).flatten.length ≤ L.flatten.length := by
    conv => rhs; rw [← List.take_append_drop i L, List.flatten_append, List.length_append]
    omega
  unfold tot
  omega

theorem tot_all {nx L : List (List Int)} (hc : Classes nx L) : tot L L.length = nx.length := by
  have h1 := tot_le hc L.length
  unfold tot at h1 ⊢
  rw [List.take_length] at h1 ⊢
  have h2 := nodup_sub ((List.range nx.length).map fun (b : Nat) => (b : Int)) L.flatten (by
    unfold List.Nodup
    rw [List.pairwise_map]
    exact List.pairwise_lt_range.imp (fun h => by omega)) (fun x hx => by
      obtain ⟨b, hb, rfl⟩ := List.mem_map.1 hx
      obtain ⟨l, hl, hb2⟩ := hc.cov b (List.mem_range.1 hb)
      exact List.mem_flatten.2 ⟨l, hl, hb2⟩)
  simp only [List.length_map, List.length_range] at h2
  omega

inductive PS where
  | l0 (i : Nat)
  | l1 (i j : Nat)
  | l2 (a : Nat)
  | l3 (a b : Nat)

def PInv (nx L : List (List Int)) : PS → Prop
  | .l0 i => i ≤ L.length
  | .l1 i j => i < L.length ∧ j ≤ (L.getD i []).length
  | .l2 a => a ≤ nx.length
  | .l3 a b => a < nx.length ∧ b ≤ nx.length

def pAt (nx L : List (List Int)) (num : List Int) (k : Nat) : PS → Option Bool
  | .l0 i => runnellaw13_CompParts.l0 k nx L num ((tot L i : Nat) : Int) (i : Int)
  | .l1 i j => runnellaw13_CompParts.l1 k nx L num ((tot L (i + 1) : Nat) : Int) (i : Int) (j : Int)
  | .l2 a => runnellaw13_CompParts.l2 k nx num (nx.length : Int) (a : Int)
  | .l3 a b => runnellaw13_CompParts.l3 k nx num (nx.length : Int) (a : Int) (b : Int)

def pM (nx L : List (List Int)) : PS → Nat
  | .l0 i => 1125899906842624 + (L.length - i) * 4194304 + 2097152
  | .l1 i j => 1125899906842624 + (L.length - i) * 4194304 - j
  | .l2 a => (nx.length - a) * 4194304 + 2097152
  | .l3 a b => (nx.length - a) * 4194304 - b

theorem parts_from {nx L : List (List Int)} {num : List Int} {up : List (List Int)} (hN : nx.length < 1048576) (hdeg : ∀ a : Nat, (nx.getD a []).length < 1048576) (h : All nx L num up) :
    ∀ s, PInv nx L s → ∃ k r, pAt nx L num k s = some r ∧ r = true := by
  have hmany := h.parts.many
  have hlen := h.num.len
  have hrd : ∀ (l : List (List Int)) (i : Int), rd_L1 l i = l.getD i.toNat [] := fun l i => rfl
  refine loop_ends (pAt nx L num) (PInv nx L) (fun _ r => r = true) (pM nx L) ?_
  rintro (i | ⟨i, j⟩ | a | ⟨a, b⟩) hI
  · simp only [PInv] at hI
    by_cases hlt : i < L.length
    · have hr := h.parts.rows i
      have ht := tot_le h.cl (i + 1)
      have htm := tot_more hlt
      refine .inr ⟨.l1 i 0, ⟨hlt, by omega⟩, by simp only [pM]; omega, fun k r hk hp => ⟨k + 1, ?_, hp⟩⟩
      simp only [pAt] at hk ⊢
      simp only [runnellaw13_CompParts.l0, hrd, Int.toNat_natCast]
      rw [if_pos (by omega), if_pos (by omega), wrap_two (by omega), ← htm]
      exact hk
    · obtain rfl : i = L.length := by omega
      refine .inr ⟨.l2 0, by simp only [PInv]; omega, by simp only [pM]; omega, fun k r hk hp => ⟨k + 1, ?_, hp⟩⟩
      simp only [pAt] at hk ⊢
      simp only [runnellaw13_CompParts.l0]
      rw [if_neg (by omega), tot_all h.cl]
      exact hk
  · obtain ⟨hi, hj⟩ := hI
    have hr := h.parts.rows i
    by_cases hlt : j < (L.getD i []).length
    · have hx := h.parts.rng i _ (rd_mem hlt)
      have hn := h.num.is i _ (rd_mem hlt)
      obtain ⟨n, _, hcl⟩ := h.cls i hi
      have hup := cls_sorted nx n
      rw [← hcl] at hup
      refine .inr ⟨.l1 i (j + 1), ⟨hi, hlt⟩, by simp only [pM]; omega, fun k r hk hp => ⟨k + 2, ?_, hp⟩⟩
      simp only [pAt] at hk ⊢
      simp only [runnellaw13_CompParts.l1, runnellaw13_CompParts.j3, hrd, Int.toNat_natCast]
      have hn' : rd num (rd (L.getD i []) (j : Int)) = (i : Int) := hn
      rw [if_pos (by omega), if_pos (by omega), if_pos (by omega), if_pos (by omega), if_neg (by omega), if_neg (by omega), if_pos (by omega), if_pos (by omega), if_pos hn']
      by_cases h0 : 0 < j
      · have h1 := rising_rd hup h0 hlt
        rw [if_pos (by omega), wrap_dec h0 (by omega), if_pos (by omega), if_pos (by omega), if_neg (by simp only [decide_eq_true_eq]; omega), wrap_nat (by omega)]
        exact hk
      · rw [if_neg (by omega)]
        simp only [Bool.false_eq_true, if_false]
        rw [wrap_nat (by omega)]
        exact hk
    · refine .inr ⟨.l0 (i + 1), hi, by simp only [pM]; omega, fun k r hk hp => ⟨k + 1, ?_, hp⟩⟩
      simp only [pAt] at hk ⊢
      simp only [runnellaw13_CompParts.l1, hrd, Int.toNat_natCast]
      rw [if_pos (by omega), if_pos (by omega), if_neg (by omega), wrap_nat (by omega)]
      exact hk
  · simp only [PInv] at hI
    by_cases hlt : a < nx.length
    · refine .inr ⟨.l3 a 0, ⟨hlt, by omega⟩, by simp only [pM]; omega, fun k r hk hp => ⟨k + 1, ?_, hp⟩⟩
      simp only [pAt] at hk ⊢
      simp only [runnellaw13_CompParts.l2]
      rw [if_pos (by omega)]
      exact hk
    · refine .inl ⟨1, true, ?_, rfl⟩
      simp only [pAt, runnellaw13_CompParts.l2]
      rw [if_neg (by omega)]
      simp
  · obtain ⟨ha, hb⟩ := hI
    by_cases hlt : b < nx.length
    · obtain ⟨k1, e1⟩ := both_num hN hdeg h ha hlt
      refine .inr ⟨.l3 a (b + 1), ⟨ha, hlt⟩, by simp only [pM]; omega, fun k r hk hp => ⟨max k k1 + 1, ?_, hp⟩⟩
      simp only [pAt] at hk ⊢
      simp only [runnellaw13_CompParts.l3]
      rw [if_pos (by omega), at_rounds (comp_Both.mono nx _ _) (Nat.le_max_right k k1) e1]
      simp only [Option.bind_some]
      rw [if_pos (by omega), if_pos (by omega), if_pos (by omega), if_pos (by omega)]
      simp only [bne_self_eq_false, Bool.false_eq_true, if_false]
      rw [wrap_nat (by omega)]
      exact at_rounds (g := fun j => runnellaw13_CompParts.l3 j nx num (nx.length : Int) (a : Int) ((b + 1 : Nat) : Int)) (fun j => (runnellaw13_CompParts.mono_l j).2.2.2.2.2 _ _ _ _ _) (Nat.le_max_left k k1) hk
    · refine .inr ⟨.l2 (a + 1), ha, by simp only [pM]; omega, fun k r hk hp => ⟨k + 1, ?_, hp⟩⟩
      simp only [pAt] at hk ⊢
      simp only [runnellaw13_CompParts.l3]
      rw [if_neg (by omega), wrap_nat (by omega)]
      exact hk

theorem parts_law (hs : ∃ k, runnellaw13_shown.f k = some true) (nx : List (List Int)) : ∃ k, runnellaw13_CompParts.f k nx = some true := by
  obtain ⟨k0, e0⟩ := hs
  obtain ⟨k1, v, e1, hv⟩ := small_ev nx
  cases v with
  | false =>
    refine ⟨max k0 k1 + 1, ?_⟩
    unfold runnellaw13_CompParts.f
    rw [at_rounds runnellaw13_shown.mono (show k0 ≤ max k0 k1 + 1 by omega) e0, at_rounds (runnellaw13_small.mono nx) (show k1 ≤ max k0 k1 + 1 by omega) e1]
    simp [runnellaw13_CompParts.j0]
  | true =>
    obtain ⟨hN, hrow⟩ := hv rfl
    have hN' : nx.length < 1048576 := by omega
    have hrow' : ∀ a : Nat, (nx.getD a []).length < 1048576 := fun a => by have := hrow a; omega
    obtain ⟨L, num, up, ⟨k2, e2⟩, ⟨k3, e3⟩, _, h⟩ := all_ev nx hN' hrow'
    obtain ⟨k4, r, e4, rfl⟩ := parts_from hN' hrow' h (.l0 0) (Nat.zero_le _)
    have e4' : runnellaw13_CompParts.l0 k4 nx L num 0 0 = some true := by simpa [pAt, tot] using e4
    have hlen := h.num.len
    generalize hK : k0 + k1 + k2 + k3 + k4 = K
    refine ⟨K + 1, ?_⟩
    unfold runnellaw13_CompParts.f
    rw [at_rounds runnellaw13_shown.mono (show k0 ≤ K + 1 by omega) e0, at_rounds (runnellaw13_small.mono nx) (show k1 ≤ K + 1 by omega) e1]
    simp only [Option.bind_some, if_true, runnellaw13_CompParts.j0]
    rw [at_rounds (comp_Components.mono nx) (show k2 ≤ K by omega) e2]
    simp only [Option.bind_some]
    rw [at_rounds (comp_Number.mono nx) (show k3 ≤ K by omega) e3]
    simp only [Option.bind_some, Bool.not_true, Bool.false_eq_true, if_false]
    rw [if_pos (by omega)]
    exact at_rounds (g := fun j => runnellaw13_CompParts.l0 j nx L num 0 0) (fun j => (runnellaw13_CompParts.mono_l j).2.1 _ _ _ _ _) (show k4 ≤ K by omega) e4'
end Go.Proofs.Ytkgkhakjodlpgaa.C
