/- comp.after, as printed, answers the filtered row. -/
import Derived.Test.YtkgkhakjodlpgaaCa1
import Derived.Test.YtkgkhakjodlpgaaPFound
namespace Go.Proofs.Ytkgkhakjodlpgaa.Ext
open Go.RowKit Go.Proofs.YtkgkhakjodlpgaaW.PrintWords Go.Proofs.Ytkgkhakjodlpgaa.Ca

theorem wrap_small {i : Int} (h0 : -4611686018427387904 ≤ i) (h1 : i < 4611686018427387904) : wrap64 (i + 1) = i + 1 := by unfold wrap64; omega

theorem drop_at {l : List Int} {i : Nat} (h : i < l.length) : l.drop i = rd l (i : Int) :: l.drop (i + 1) := by
  rw [List.drop_eq_getElem_cons h]
  simp [rd, List.getD_eq_getElem?_getD, List.getElem?_eq_getElem h]

theorem after_from (nx : List (List Int)) (row : List Int) (hl : row.length < 17592186044416) (d : Nat) : ∀ (k i : Nat) (acc : List Int), i + d = row.length → d < k → acc.length ≤ i →
    comp_after.l0 k nx acc row (row.length : Int) (i : Int) = some (acc ++ (row.drop i).filter fun j => decide (0 ≤ j) && decide (j < (nx.length : Int))) := by
  induction d with
  | zero =>
    intro k i acc h1 h2 h3
    obtain ⟨k, rfl⟩ : ∃ m, k = m + 1 := ⟨k - 1, by omega⟩
    simp only [comp_after.l0]
    rw [if_neg (by omega), List.drop_eq_nil_of_le (by omega)]; simp
  | succ d ih =>
    intro k i acc h1 h2 h3
    obtain ⟨k, rfl⟩ : ∃ m, k = m + 1 := ⟨k - 1, by omega⟩
    have hi : i < row.length := by omega
    simp only [comp_after.l0]
    rw [if_pos (by omega), if_pos (by omega), if_pos (by omega), wrap_small (by omega) (by omega), drop_at hi]
    have e : ((i : Int) + 1) = ((i + 1 : Nat) : Int) := by omega
    rw [e]
    by_cases c1 : 0 ≤ rd row (i : Int)
    · rw [if_pos c1]
      by_cases c2 : rd row (i : Int) < (nx.length : Int)
      · rw [if_pos c2, if_pos (by omega), ih k (i + 1) _ (by omega) (by omega) (by simp; omega)]
        rw [List.filter_cons_of_pos (by simp [c1, c2])]; simp
      · rw [if_neg c2, ih k (i + 1) _ (by omega) (by omega) (by omega), List.filter_cons_of_neg (by simp [c2])]
    · rw [if_neg c1, ih k (i + 1) _ (by omega) (by omega) (by omega), List.filter_cons_of_neg (by simp [c1])]

theorem after_eq (nx : List (List Int)) (n : Int) (h0 : 0 ≤ n) (h1 : n < (nx.length : Int)) (hl : (nx.getD n.toNat []).length < 17592186044416) :
    comp_after.f ((nx.getD n.toNat []).length + 1) nx n = some (afterL nx n) := by
  unfold comp_after.f
  rw [if_pos h0, if_pos h1]
  have := after_from nx (nx.getD n.toNat []) hl (nx.getD n.toNat []).length ((nx.getD n.toNat []).length + 1) 0 [] (by omega) (by omega) (by simp)
  simpa [afterL, rd_L1] using this
end Go.Proofs.Ytkgkhakjodlpgaa.Ext
