/- The law of what is come to, of what is printed of it. -/
import Derived.Test.YtkgkhakjodlpgaaPReach
import Derived.Test.YtkgkhakjodlpgaaC23
namespace Go.Proofs.Ytkgkhakjodlpgaa.C
open Go.RowKit Go.Proofs.YtkgkhakjodlpgaaW.PrintWords Go.Proofs.Ytkgkhakjodlpgaa.Ext Go.Proofs.Ytkgkhakjodlpgaa.Ca

def bothOf (m1 m2 : List Bool) (a b : Int) : Bool := m1.getD b.toNat false && m2.getD a.toNat false

/-- Two nodes that there are. -/
def Two (nx : List (List Int)) (a b : Int) : Prop := 0 ≤ a ∧ a < (nx.length : Int) ∧ 0 ≤ b ∧ b < (nx.length : Int)

theorem both_ev (nx : List (List Int)) (a b : Int) (hN : nx.length < 1048576) (hrow : ∀ a : Nat, (nx.getD a []).length < 1048576) (h : Two nx a b) : ∃ k, comp_Both.f k nx a b = some (bothOf (marksOf nx [a]) (marksOf nx [b]) a b) := by
  obtain ⟨h1, h2, h3, h4⟩ := h
  have la := (marksOf_ok nx [a]).len
  have lb := (marksOf_ok nx [b]).len
  obtain ⟨k1, e1⟩ := walk_ev nx [a] hN hrow (by simp) (fun x hx => ⟨a.toNat, by have := List.mem_singleton.1 hx; omega, by omega⟩)
  obtain ⟨k2, e2⟩ := walk_ev nx [b] hN hrow (by simp) (fun x hx => ⟨b.toNat, by have := List.mem_singleton.1 hx; omega, by omega⟩)
  refine ⟨max k1 k2 + 1, ?_⟩
  unfold comp_Both.f
  rw [if_neg (by omega), if_neg (by omega), if_neg (by omega)]
  simp only [comp_Both.j0]
  rw [if_neg (by simp; omega), at_rounds (comp_walk.mono nx [a]) (Nat.le_max_left k1 k2) e1]
  simp only [Option.bind_some]
  rw [if_pos h3, if_pos (by omega), at_rounds (comp_walk.mono nx [b]) (Nat.le_max_right k1 k2) e2]
  simp only [Option.bind_some]
  by_cases c : (marksOf nx [a]).getD b.toNat false = true
  · rw [if_pos (by exact c), if_pos h1, if_pos (by omega)]; unfold bothOf rdOf; rw [c]; simp
  · rw [if_neg (by exact c)]; unfold bothOf; rw [show (marksOf nx [a]).getD b.toNat false = false by simpa using c]; simp

theorem refBoth_ev (nx : List (List Int)) (a b : Int) (hN : nx.length < 1048576) (hrow : ∀ a : Nat, (nx.getD a []).length < 1048576) (h : Two nx a b) : ∃ k, runnelref13_Both.f k nx a b = some (bothOf (marksOf nx [a]) (marksOf nx [b]) a b) := by
  obtain ⟨h1, h2, h3, h4⟩ := h
  have la := (marksOf_ok nx [a]).len
  have lb := (marksOf_ok nx [b]).len
  obtain ⟨k1, e1⟩ := marks_ev nx [a] hN hrow (by simp)
  obtain ⟨k2, e2⟩ := marks_ev nx [b] hN hrow (by simp)
  refine ⟨max k1 k2 + 1, ?_⟩
  unfold runnelref13_Both.f
  rw [if_neg (by omega), if_neg (by omega), if_neg (by omega)]
  simp only [runnelref13_Both.j0]
  rw [if_neg (by simp; omega), at_rounds (runnelref13_marks.mono nx [a]) (Nat.le_max_left k1 k2) e1]
  simp only [Option.bind_some]
  rw [at_rounds (runnelref13_marks.mono nx [b]) (Nat.le_max_right k1 k2) e2]
  simp only [Option.bind_some]
  rw [if_pos h3, if_pos (by omega)]
  by_cases c : (marksOf nx [a]).getD b.toNat false = true
  · rw [if_pos (by exact c), if_pos h1, if_pos (by omega)]; unfold bothOf rdOf; rw [c]; simp
  · rw [if_neg (by exact c)]; unfold bothOf; rw [show (marksOf nx [a]).getD b.toNat false = false by simpa using c]; simp

theorem both_out (nx : List (List Int)) (a b : Int) (h : ¬ Two nx a b) : comp_Both.f 1 nx a b = some false ∧ runnelref13_Both.f 1 nx a b = some false := by
  unfold Two at h
  constructor
  · unfold comp_Both.f
    split; · simp [comp_Both.j0]
    split; · simp [comp_Both.j0]
    split; · simp [comp_Both.j0]
    simp only [comp_Both.j0]; rw [if_pos (by simp; omega)]
  · unfold runnelref13_Both.f
    split; · simp [runnelref13_Both.j0]
    split; · simp [runnelref13_Both.j0]
    split; · simp [runnelref13_Both.j0]
    simp only [runnelref13_Both.j0]; rw [if_pos (by simp; omega)]

theorem from_after {nx : List (List Int)} {a : Nat} (ha : a < nx.length) (b : Nat) : From nx (afterL nx (a : Int)) b ↔ From nx (nx.getD a []) b := by
  constructor
  · rintro ⟨c, h1, h2, h3⟩
    obtain ⟨d, hd, he⟩ := (mem_afterL ha).1 h1
    obtain rfl := Int.ofNat_inj.1 hd
    exact ⟨c, he.2.2, h2, h3⟩
  · rintro ⟨c, h1, h2, h3⟩
    exact ⟨c, (mem_afterL ha).2 ⟨c, rfl, ha, h2, h1⟩, h2, h3⟩

theorem marks_after {nx : List (List Int)} {a : Nat} (ha : a < nx.length) : marksOf nx (afterL nx (a : Int)) = marksOf nx (nx.getD a []) := by
  unfold marksOf
  refine List.map_congr_left fun b _ => ?_
  rw [from_after ha b]

theorem cyclic_ev (nx : List (List Int)) (a : Nat) (ha : a < nx.length) (hN : nx.length < 1048576) (hrow : ∀ a : Nat, (nx.getD a []).length < 1048576) : ∃ k, comp_Cyclic.f k nx (a : Int) = some ((marksOf nx (nx.getD a [])).getD a false) := by
  have hA : (afterL nx (a : Int)).length ≤ (nx.getD a []).length := by unfold afterL; rw [Int.toNat_natCast]; exact List.length_filter_le _ _
  have hr := hrow a
  have la := (marksOf_ok nx (afterL nx (a : Int))).len
  have e1 := after_eq nx (a : Int) (by omega) (by omega) (by rw [Int.toNat_natCast]; omega)
  obtain ⟨k2, e2⟩ := walk_ev nx (afterL nx (a : Int)) hN hrow (by omega) (fun x hx => by
    obtain ⟨b, rfl, hb⟩ := (mem_afterL ha).1 hx
    exact ⟨b, rfl, hb.2.1⟩)
  refine ⟨max ((nx.getD (a : Int).toNat []).length + 1) k2, ?_⟩
  unfold comp_Cyclic.f
  rw [if_pos (by omega), if_pos (by omega), at_rounds (comp_after.mono nx (a : Int)) (Nat.le_max_left _ k2) e1]
  simp only [Option.bind_some]
  rw [at_rounds (comp_walk.mono nx _) (Nat.le_max_right _ k2) e2]
  simp only [Option.bind_some]
  rw [if_pos (by omega), if_pos (by omega), marks_after ha]
  simp [rdOf]

theorem refCyclic_ev (nx : List (List Int)) (a : Nat) (ha : a < nx.length) (hN : nx.length < 1048576) (hrow : ∀ a : Nat, (nx.getD a []).length < 1048576) : ∃ k, runnelref13_Cyclic.f k nx (a : Int) = some ((marksOf nx (nx.getD a [])).getD a false) := by
  have hr := hrow a
  have la := (marksOf_ok nx (nx.getD a [])).len
  have hrd : rd_L1 nx (a : Int) = nx.getD a [] := by simp [rd_L1]
  obtain ⟨k2, e2⟩ := marks_ev nx (nx.getD a []) hN hrow (by omega)
  refine ⟨k2 + 1, ?_⟩
  unfold runnelref13_Cyclic.f
  rw [if_neg (by omega)]
  simp only [runnelref13_Cyclic.j0]
  rw [if_neg (by simp; omega), if_pos (by omega), if_pos (by omega), hrd, e2]
  simp only [Option.bind_some]
  rw [if_pos (by omega)]
  simp [rdOf]

theorem cyclic_out (nx : List (List Int)) (a : Int) (h : ¬ (0 ≤ a ∧ a < (nx.length : Int))) : comp_Cyclic.f 1 nx a = some false ∧ runnelref13_Cyclic.f 1 nx a = some false := by
  constructor
  · unfold comp_Cyclic.f
    split
    · rw [if_neg (by omega)]
    · rfl
  · unfold runnelref13_Cyclic.f
    split; · simp [runnelref13_Cyclic.j0]
    simp only [runnelref13_Cyclic.j0]; rw [if_pos (by simp; omega)]

def Small (nx : List (List Int)) : Prop := nx.length ≤ 40 ∧ ∀ a : Nat, (nx.getD a []).length ≤ 60

theorem small_ev (nx : List (List Int)) : ∃ k v, runnellaw13_small.f k nx = some v ∧ (v = true → Small nx) := by
  by_cases h : nx.length ≤ 40
  · have key : ∀ d k i : Nat, i + d = nx.length → d < k → (∀ a, a < i → (nx.getD a []).length ≤ 60) → ∃ v, runnellaw13_small.l0 k nx (i : Int) = some v ∧ (v = true → Small nx) := by
      intro d
      induction d with
      | zero =>
        intro k i h1 h2 h3
        obtain ⟨k, rfl⟩ : ∃ m, k = m + 1 := ⟨k - 1, by omega⟩
        refine ⟨true, by simp only [runnellaw13_small.l0]; rw [if_neg (by omega)], fun _ => ⟨h, fun a => ?_⟩⟩
        by_cases ha : a < nx.length
        · exact h3 a (by omega)
        · rw [List.getD_eq_getElem?_getD, List.getElem?_eq_none (by omega)]; simp
      | succ d ih =>
        intro k i h1 h2 h3
        obtain ⟨k, rfl⟩ : ∃ m, k = m + 1 := ⟨k - 1, by omega⟩
        have hrd : rd_L1 nx (i : Int) = nx.getD i [] := by simp [rd_L1]
        by_cases h4 : (nx.getD i []).length ≤ 60
        · obtain ⟨v, e, hv⟩ := ih k (i + 1) (by omega) (by omega) (fun a ha => by
            by_cases e : a = i
            · subst e; exact h4
            · exact h3 a (by omega))
          refine ⟨v, ?_, hv⟩
          simp only [runnellaw13_small.l0]
          rw [if_pos (by omega), if_pos (by omega), hrd, if_neg (by omega), wrap_nat (by omega)]
          exact e
        · refine ⟨false, ?_, by simp⟩
          simp only [runnellaw13_small.l0]
          rw [if_pos (by omega), if_pos (by omega), hrd, if_pos (by omega)]
    obtain ⟨v, e, hv⟩ := key nx.length (nx.length + 1) 0 (by omega) (by omega) (by simp)
    refine ⟨nx.length + 1, v, ?_, hv⟩
    unfold runnellaw13_small.f
    rw [if_neg (by omega)]
    simpa using e
  · refine ⟨0, false, ?_, by simp⟩
    unfold runnellaw13_small.f
    rw [if_pos (by omega)]

theorem reaches_law (hs : ∃ k, runnellaw13_shown.f k = some true) (nx : List (List Int)) (a b : Int) : ∃ k, runnellaw13_CompReaches.f k nx a b = some true := by
  obtain ⟨k0, e0⟩ := hs
  obtain ⟨k1, v, e1, hv⟩ := small_ev nx
  cases v with
  | false =>
    refine ⟨max k0 k1 + 1, ?_⟩
    unfold runnellaw13_CompReaches.f
    rw [at_rounds runnellaw13_shown.mono (show k0 ≤ max k0 k1 + 1 by omega) e0, at_rounds (runnellaw13_small.mono nx) (show k1 ≤ max k0 k1 + 1 by omega) e1]
    simp [runnellaw13_CompReaches.j0]
  | true =>
    obtain ⟨hN, hrow⟩ := hv rfl
    have hN' : nx.length < 1048576 := by omega
    have hrow' : ∀ a : Nat, (nx.getD a []).length < 1048576 := fun a => by have := hrow a; omega
    obtain ⟨k2, e2⟩ := reach_ev nx a hN' hrow'
    obtain ⟨k3, e3⟩ := refReach_ev nx a hN' hrow'
    have hl : (listOf (marksOf nx [a])).length < 1099511627776 := by
      unfold listOf
      have h1 := List.length_filter_le (fun i => (marksOf nx [a]).getD i false) (List.range (marksOf nx [a]).length)
      have h2 := (marksOf_ok nx [a]).len
      rw [List.length_range] at h1
      rw [List.length_map]; omega
    obtain ⟨k4, e4⟩ := sameInts_self (listOf (marksOf nx [a])) hl
    have hB : ∃ k v, comp_Both.f k nx a b = some v ∧ runnelref13_Both.f k nx a b = some v := by
      by_cases h : Two nx a b
      · obtain ⟨j1, f1⟩ := both_ev nx a b hN' hrow' h
        obtain ⟨j2, f2⟩ := refBoth_ev nx a b hN' hrow' h
        exact ⟨max j1 j2, _, at_rounds (comp_Both.mono nx a b) (Nat.le_max_left j1 j2) f1, at_rounds (runnelref13_Both.mono nx a b) (Nat.le_max_right j1 j2) f2⟩
      · exact ⟨1, false, both_out nx a b h⟩
    have hC : ∃ k v, comp_Cyclic.f k nx a = some v ∧ runnelref13_Cyclic.f k nx a = some v := by
      by_cases h : 0 ≤ a ∧ a < (nx.length : Int)
      · obtain ⟨c, rfl⟩ := Int.eq_ofNat_of_zero_le h.1
        obtain ⟨j1, f1⟩ := cyclic_ev nx c (by omega) hN' hrow'
        obtain ⟨j2, f2⟩ := refCyclic_ev nx c (by omega) hN' hrow'
        exact ⟨max j1 j2, _, at_rounds (comp_Cyclic.mono nx _) (Nat.le_max_left j1 j2) f1, at_rounds (runnelref13_Cyclic.mono nx _) (Nat.le_max_right j1 j2) f2⟩
      · exact ⟨1, false, cyclic_out nx a h⟩
    obtain ⟨k5, v5, e5, e6⟩ := hB
    obtain ⟨k6, v6, e7, e8⟩ := hC
    refine ⟨k0 + k1 + k2 + k3 + k4 + k5 + k6 + 1, ?_⟩
    unfold runnellaw13_CompReaches.f
    rw [at_rounds runnellaw13_shown.mono (show k0 ≤ k0 + k1 + k2 + k3 + k4 + k5 + k6 + 1 by omega) e0, at_rounds (runnellaw13_small.mono nx) (show k1 ≤ k0 + k1 + k2 + k3 + k4 + k5 + k6 + 1 by omega) e1]
    simp only [Option.bind_some, if_true, runnellaw13_CompReaches.j0]
    rw [at_rounds (comp_Reach.mono nx a) (show k2 ≤ k0 + k1 + k2 + k3 + k4 + k5 + k6 by omega) e2, at_rounds (runnelref13_Reach.mono nx a) (show k3 ≤ k0 + k1 + k2 + k3 + k4 + k5 + k6 by omega) e3]
    simp only [Option.bind_some]
    rw [at_rounds (runnellaw13_sameInts.mono _ _) (show k4 ≤ k0 + k1 + k2 + k3 + k4 + k5 + k6 by omega) e4]
    simp only [Option.bind_some]
    rw [at_rounds (comp_Both.mono nx a b) (show k5 ≤ k0 + k1 + k2 + k3 + k4 + k5 + k6 by omega) e5, at_rounds (runnelref13_Both.mono nx a b) (show k5 ≤ k0 + k1 + k2 + k3 + k4 + k5 + k6 by omega) e6]
    simp only [Option.bind_some]
    rw [at_rounds (comp_Cyclic.mono nx a) (show k6 ≤ k0 + k1 + k2 + k3 + k4 + k5 + k6 by omega) e7, at_rounds (runnelref13_Cyclic.mono nx a) (show k6 ≤ k0 + k1 + k2 + k3 + k4 + k5 + k6 by omega) e8]
    simp
end Go.Proofs.Ytkgkhakjodlpgaa.C
