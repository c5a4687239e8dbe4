/- The head of the laws: what is small, and what is the same as itself. -/
import Derived.Test.YtkgkhakjodlpgaaPFrom
import Derived.Test.YtkgkhakjodlpgaaC1
namespace Go.Proofs.Ytkgkhakjodlpgaa.C
open Go.RowKit Go.Proofs.YtkgkhakjodlpgaaW.PrintWords Go.Proofs.Ytkgkhakjodlpgaa.Ext

theorem sameInts_self (l : List Int) (hl : l.length < 1099511627776) : ∃ k, runnellaw13_sameInts.f k l l = some true := by
  have key : ∀ d k i : Nat, i + d = l.length → d < k → runnellaw13_sameInts.l0 k l l (i : Int) = some true := by
    intro d
    induction d with
    | zero =>
      intro k i h1 h2
      obtain ⟨k, rfl⟩ : ∃ m, k = m + 1 := ⟨k - 1, by omega⟩
      simp only [runnellaw13_sameInts.l0]
      rw [if_neg (by omega)]
    | succ d ih =>
      intro k i h1 h2
      obtain ⟨k, rfl⟩ : ∃ m, k = m + 1 := ⟨k - 1, by omega⟩
      simp only [runnellaw13_sameInts.l0]
      rw [if_pos (by omega), if_pos (by omega), if_pos (by omega), wrap_nat (by omega), if_true]
      exact ih k (i + 1) (by omega) (by omega)
  refine ⟨l.length + 1, ?_⟩
  unfold runnellaw13_sameInts.f
  rw [if_pos rfl]
  simpa using key l.length (l.length + 1) 0 (by omega) (by omega)

theorem sameLists_self (l : List (List Int)) (hl : l.length < 1099511627776) (hr : ∀ a : Nat, (l.getD a []).length < 1099511627776) : ∃ k, runnellaw13_sameLists.f k l l = some true := by
  have key : ∀ d i : Nat, i + d = l.length → ∃ k, runnellaw13_sameLists.l0 k l l (i : Int) = some true := by
    intro d
    induction d with
    | zero =>
      intro i h1
      refine ⟨1, ?_⟩
      simp only [runnellaw13_sameLists.l0]
      rw [if_neg (by omega)]
    | succ d ih =>
      intro i h1
      obtain ⟨k1, e1⟩ := ih (i + 1) (by omega)
      obtain ⟨k2, e2⟩ := sameInts_self (l.getD i []) (hr i)
      have hrd : rd_L1 l (i : Int) = l.getD i [] := by simp [rd_L1]
      refine ⟨max k1 k2 + 1, ?_⟩
      simp only [runnellaw13_sameLists.l0]
      rw [if_pos (by omega), if_pos (by omega), if_pos (by omega), hrd, at_rounds (runnellaw13_sameInts.mono _ _) (Nat.le_max_right k1 k2) e2, wrap_nat (by omega)]
      simp only [Option.bind_some, if_true]
      exact at_rounds (g := fun j => runnellaw13_sameLists.l0 j l l ((i + 1 : Nat) : Int)) (fun j => runnellaw13_sameLists.mono_l j _ _ _) (Nat.le_max_left k1 k2) e1
  obtain ⟨k, e⟩ := key l.length 0 (by omega)
  refine ⟨k, ?_⟩
  unfold runnellaw13_sameLists.f
  rw [if_pos rfl]
  simpa using e

theorem among_ev (l : List Int) (n : Int) (hl : l.length < 1099511627776) : ∃ k, runnellaw13_among.f k l n = some (decide (n ∈ l)) := by
  have key : ∀ d i : Nat, i + d = l.length → n ∉ l.take i → runnellaw13_among.l0 (d + 1) l n (i : Int) = some (decide (n ∈ l)) := by
    intro d
    induction d with
    | zero =>
      intro i h1 h2
      rw [List.take_of_length_le (by omega)] at h2
      simp only [runnellaw13_among.l0]
      rw [if_neg (by omega), decide_eq_false h2]
    | succ d ih =>
      intro i h1 h2
      have htk := take_more (show i < l.length by omega)
      simp only [runnellaw13_among.l0]
      rw [if_pos (by omega), if_pos (by omega)]
      by_cases h3 : rd l (i : Int) = n
      · rw [if_pos h3, decide_eq_true (by rw [← h3]; exact rd_mem (by omega))]
      · rw [if_neg h3, wrap_nat (by omega)]
        refine ih (i + 1) (by omega) (fun h4 => ?_)
        rw [htk] at h4
        rcases List.mem_append.1 h4 with h5 | h5
        · exact h2 h5
        · exact h3 (List.mem_singleton.1 h5).symm
  refine ⟨l.length + 1, ?_⟩
  unfold runnellaw13_among.f
  exact key l.length 0 (by omega) (by simp)

def Small (nx : List (List Int)) : Prop := nx.length ≤ 40 ∧ ∀ a : Nat, (nx.getD a []).length ≤ 60

theorem small_ev (nx : List (List Int)) : ∃ k v, runnellaw13_small.f k nx = some v ∧ (v = true → Small nx) := by
  by_cases h : nx.length ≤ 40
  · have key : ∀ d k i : Nat, i + d = nx.length → d < k → (∀ a, a < i → (nx.getD a []).length ≤ 60) → ∃ v, runnellaw13_small.l0 k nx (i : Int) = some v ∧ (v = true → Small nx) := by
      intro d
      induction d with
      | zero =>
        intro k i h1 h2 h3
        obtain ⟨k, rfl⟩ : ∃ m, k = m + 1 := ⟨k - 1, by omega⟩
        refine ⟨true, by simp only [runnellaw13_small.l0]; rw [if_neg (by omega)], fun _ => ⟨h, fun a => ?_⟩⟩
        by_cases ha : a < nx.length
        · exact h3 a (by omega)
        · rw [List.getD_eq_getElem?_getD, List.getElem?_eq_none (by omega)]; simp
      | succ d ih =>
        intro k i h1 h2 h3
        obtain ⟨k, rfl⟩ : ∃ m, k = m + 1 := ⟨k - 1, by omega⟩
        have hrd : rd_L1 nx (i : Int) = nx.getD i [] := by simp [rd_L1]
        by_cases h4 : (nx.getD i []).length ≤ 60
        · obtain ⟨v, e, hv⟩ := ih k (i + 1) (by omega) (by omega) (fun a ha => by
            by_cases e : a = i
            · subst e; exact h4
            · exact h3 a (by omega))
          refine ⟨v, ?_, hv⟩
          simp only [runnellaw13_small.l0]
          rw [if_pos (by omega), if_pos (by omega), hrd, if_neg (by omega), wrap_nat (by omega)]
          exact e
        · refine ⟨false, ?_, by simp⟩
          simp only [runnellaw13_small.l0]
          rw [if_pos (by omega), if_pos (by omega), hrd, if_pos (by omega)]
    obtain ⟨v, e, hv⟩ := key nx.length (nx.length + 1) 0 (by omega) (by omega) (by simp)
    refine ⟨nx.length + 1, v, ?_, hv⟩
    unfold runnellaw13_small.f
    rw [if_neg (by omega)]
    simpa using e
  · refine ⟨0, false, ?_, by simp⟩
    unfold runnellaw13_small.f
    rw [if_pos (by omega)]
end Go.Proofs.Ytkgkhakjodlpgaa.C
