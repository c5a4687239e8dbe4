/- The law of a step more, of what is printed of it. -/
import Derived.Test.YtkgkhakjodlpgaaPMore
import Derived.Test.YtkgkhakjodlpgaaPSmall
import Derived.Test.YtkgkhakjodlpgaaGrows
namespace Go.Proofs.Ytkgkhakjodlpgaa.C
open Go.RowKit Go.Proofs.YtkgkhakjodlpgaaW.PrintWords Go.Proofs.Ytkgkhakjodlpgaa.Ext Go.Proofs.Ytkgkhakjodlpgaa.Ca Go.Proofs.Ytkgkhakjodlpgaa.Cv

theorem more_deg {nx : List (List Int)} {a : Nat} (b : Int) (ha : a < nx.length) (hd : ∀ x : Nat, (nx.getD x []).length ≤ 60) (x : Nat) : ((moreOf nx a b).getD x []).length ≤ 61 := by
  rw [more_row b ha]
  have h1 := hd a
  have h2 := hd x
  by_cases e : x = a
  · rw [if_pos e, List.length_append]; simp only [List.length_cons, List.length_nil]; omega
  · rw [if_neg e]; omega

theorem grows_l0 {nx mo : List (List Int)} {a b : Int} {was now : List Int} (hw : was.length < 1048576) (hn : now.length < 1048576) (hin : ∀ x ∈ was, x ∈ now)
    (hend : ∃ k, runnellaw13_CompGrows.l0 k nx a b mo was now (was.length : Int) = some true) : ∀ d i : Nat, i + d = was.length → ∃ k, runnellaw13_CompGrows.l0 k nx a b mo was now (i : Int) = some true := by
  intro d
  induction d with
  | zero => intro i h; obtain rfl : i = was.length := by omega
            exact hend
  | succ d ih =>
    intro i h
    obtain ⟨k1, e1⟩ := ih (i + 1) (by omega)
    obtain ⟨k2, e2⟩ := among_ev now (rd was (i : Int)) (by omega)
    rw [decide_eq_true (hin _ (rd_mem (by omega)))] at e2
    refine ⟨max k1 k2 + 1, ?_⟩
    simp only [runnellaw13_CompGrows.l0]
    rw [if_pos (by omega), if_pos (by omega), at_rounds (runnellaw13_among.mono _ _) (Nat.le_max_right k1 k2) e2]
    simp only [Option.bind_some, if_true]
    rw [wrap_nat (by omega)]
    exact at_rounds (g := fun j => runnellaw13_CompGrows.l0 j nx a b mo was now ((i + 1 : Nat) : Int)) (fun j => (runnellaw13_CompGrows.mono_l j).2.1 _ _ _ _ _ _ _) (Nat.le_max_left k1 k2) e1

theorem grows_law (hs : ∃ k, runnellaw13_shown.f k = some true) (nx : List (List Int)) (a b n : Int) : ∃ k, runnellaw13_CompGrows.f k nx a b n (nx.set a.toNat (rd_L1 nx a ++ [b])) = some true := by
  obtain ⟨k0, e0⟩ := hs
  obtain ⟨k1, v, e1, hv⟩ := small_ev nx
  cases v with
  | false =>
    refine ⟨max k0 k1 + 1, ?_⟩
    unfold runnellaw13_CompGrows.f
    rw [at_rounds runnellaw13_shown.mono (show k0 ≤ max k0 k1 + 1 by omega) e0, at_rounds (runnellaw13_small.mono nx) (show k1 ≤ max k0 k1 + 1 by omega) e1]
    simp [runnellaw13_CompGrows.j0]
  | true =>
    obtain ⟨hN, hrow⟩ := hv rfl
    by_cases ha : 0 ≤ a ∧ a < (nx.length : Int)
    · obtain ⟨a, rfl⟩ := Int.eq_ofNat_of_zero_le ha.1
      have ha' : a < nx.length := by omega
      have hN' : nx.length < 1048576 := by omega
      have hrow' : ∀ a : Nat, (nx.getD a []).length < 1048576 := fun a => by have := hrow a; omega
      have hmo : nx.set (a : Int).toNat (rd_L1 nx (a : Int) ++ [b]) = moreOf nx a b := by
        unfold moreOf rd_L1
        rw [Int.toNat_natCast]
      rw [hmo]
      have hml := more_len nx a b
      have hmd : ∀ x : Nat, ((moreOf nx a b).getD x []).length < 1048576 := fun x => by have := more_deg b ha' hrow x; omega
      generalize hM : moreOf nx a b = mo at hml hmd
      obtain ⟨L, num, up, ⟨k2, e2⟩, _, _, h⟩ := all_ev nx hN' hrow'
      obtain ⟨L2, num2, up2, ⟨k3, e3⟩, _, _, h2⟩ := all_ev mo (by omega) hmd
      have hfew : L2.length ≤ L.length := fewer hml (fun x y hxy => by rw [← hM]; exact more_rt b ha' hxy) h h2
      obtain ⟨k4, e4⟩ := reach_ev nx n hN' hrow'
      obtain ⟨k5, e5⟩ := reach_ev mo n (by omega) hmd
      obtain ⟨k6, e6⟩ := reach_ev mo (a : Int) (by omega) hmd
      have hl1 := listOf_len nx [n]
      have hl2 := listOf_len mo [n]
      have hl3 := listOf_len mo [(a : Int)]
      obtain ⟨k7, e7⟩ := among_ev (listOf (marksOf mo [(a : Int)])) b (by omega)
      have hj2 : ∀ K, k2 + k3 ≤ K → runnellaw13_CompGrows.j2 (K + 1) nx mo false = some true := fun K hK => by
        simp only [runnellaw13_CompGrows.j2, Bool.false_eq_true, if_false]
        rw [at_rounds (comp_Components.mono mo) (show k3 ≤ K by omega) e3]
        simp only [Option.bind_some]
        rw [at_rounds (comp_Components.mono nx) (show k2 ≤ K by omega) e2]
        simp only [Option.bind_some]
        rw [decide_eq_true (by omega)]
      have hend : ∃ k, runnellaw13_CompGrows.l0 k nx (a : Int) b mo (listOf (marksOf nx [n])) (listOf (marksOf mo [n])) ((listOf (marksOf nx [n])).length : Int) = some true := by
        generalize hJ : k2 + k3 + k6 + k7 = J
        refine ⟨J + 2, ?_⟩
        simp only [runnellaw13_CompGrows.l0]
        rw [if_neg (by omega)]
        by_cases hb0 : b ≥ 0
        · rw [if_pos hb0]
          by_cases hb1 : b < (nx.length : Int)
          · rw [if_pos hb1, at_rounds (comp_Reach.mono mo _) (show k6 ≤ J + 1 by omega) e6]
            simp only [Option.bind_some]
            rw [at_rounds (runnellaw13_among.mono _ _) (show k7 ≤ J + 1 by omega) e7]
            obtain ⟨b', rfl⟩ := Int.eq_ofNat_of_zero_le hb0
            have hin : (b' : Int) ∈ listOf (marksOf mo [(a : Int)]) := reach_mem.2 ⟨a, b', rfl, rfl, by omega, by omega, by rw [← hM]; exact more_new ha' (by omega)⟩
            rw [decide_eq_true hin]
            simp only [Option.bind_some, Bool.not_true]
            exact hj2 J (by omega)
          · rw [if_neg hb1]; exact hj2 J (by omega)
        · rw [if_neg hb0]; exact hj2 J (by omega)
      obtain ⟨k8, e8⟩ := grows_l0 (by omega) (by omega) (fun x hx => by
        obtain ⟨n', x', q1, q2, q3, q4, q5⟩ := reach_mem.1 hx
        exact reach_mem.2 ⟨n', x', q1, q2, by omega, by omega, by rw [← hM]; exact more_rt b ha' q5⟩) hend (listOf (marksOf nx [n])).length 0 (by omega)
      have hra := hrow a
      have hrd : rd_L1 nx (a : Int) = nx.getD a [] := by simp [rd_L1]
      generalize hK : k0 + k1 + k4 + k5 + k8 = K
      refine ⟨K + 1, ?_⟩
      unfold runnellaw13_CompGrows.f
      rw [at_rounds runnellaw13_shown.mono (show k0 ≤ K + 1 by omega) e0, at_rounds (runnellaw13_small.mono nx) (show k1 ≤ K + 1 by omega) e1]
      simp only [Option.bind_some, if_true]
      rw [if_neg (by omega), decide_eq_false (by omega)]
      simp only [runnellaw13_CompGrows.j0, Bool.false_eq_true, if_false]
      rw [if_pos (by omega), if_pos (by omega), if_pos (by omega), if_pos (by rw [hrd]; omega), at_rounds (comp_Reach.mono nx n) (show k4 ≤ K by omega) e4]
      simp only [Option.bind_some]
      rw [at_rounds (comp_Reach.mono mo n) (show k5 ≤ K by omega) e5]
      simp only [Option.bind_some]
      exact at_rounds (g := fun j => runnellaw13_CompGrows.l0 j nx (a : Int) b mo (listOf (marksOf nx [n])) (listOf (marksOf mo [n])) 0) (fun j => (runnellaw13_CompGrows.mono_l j).2.1 _ _ _ _ _ _ _) (show k8 ≤ K by omega) (by simpa using e8)
    · refine ⟨max k0 k1 + 1, ?_⟩
      unfold runnellaw13_CompGrows.f
      rw [at_rounds runnellaw13_shown.mono (show k0 ≤ max k0 k1 + 1 by omega) e0, at_rounds (runnellaw13_small.mono nx) (show k1 ≤ max k0 k1 + 1 by omega) e1]
      simp only [Option.bind_some, if_true]
      by_cases h0 : a < 0
      · rw [if_pos h0]; simp [runnellaw13_CompGrows.j0]
      · rw [if_neg h0, decide_eq_true (by omega)]; simp [runnellaw13_CompGrows.j0]
end Go.Proofs.Ytkgkhakjodlpgaa.C
