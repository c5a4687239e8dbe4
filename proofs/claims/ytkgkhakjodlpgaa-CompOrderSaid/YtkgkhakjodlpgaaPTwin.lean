/- The functions that reach slices.Sort once more, with a sort that the kernel can run; and the law's own graph. (Written by gen_twin.py.) -/
import Derived.Test.YtkgkhakjodlpgaaPTarjan
import Derived.Test.YtkgkhakjodlpgaaC3
import Derived.Test.YtkgkhakjodlpgaaC1
namespace Go.Proofs.Ytkgkhakjodlpgaa.C
open Go.RowKit Go.Proofs.YtkgkhakjodlpgaaW.PrintWords Go.Proofs.Ytkgkhakjodlpgaa.Ext Go.Proofs.Ytkgkhakjodlpgaa.Ca Go.Proofs.Ytkgkhakjodlpgaa.Cv

set_option linter.unusedSimpArgs false
set_option linter.unusedVariables false
def insI (x : Int) : List Int → List Int
  | [] => [x]
  | y :: l => if x ≤ y then x :: y :: l else y :: insI x l
def insort (l : List Int) : List Int := l.foldr insI []

theorem insI_perm (x : Int) : ∀ l, (insI x l).Perm (x :: l)
  | [] => .refl _
  | y :: l => by
    simp only [insI]
    split
    · exact .refl _
    · exact ((insI_perm x l).cons y).trans (.swap x y l)
theorem insort_perm : ∀ l, (insort l).Perm l
  | [] => .refl _
  | x :: l => (insI_perm x (insort l)).trans ((insort_perm l).cons x)
theorem insI_sorted (x : Int) : ∀ {l : List Int}, l.Pairwise (· ≤ ·) → (insI x l).Pairwise (· ≤ ·)
  | [], _ => by simp [insI]
  | y :: l, h => by
    rw [List.pairwise_cons] at h
    simp only [insI]
    split
    · rw [List.pairwise_cons, List.pairwise_cons]
      refine ⟨fun z hz => ?_, h.1, h.2⟩
      rcases List.mem_cons.1 hz with rfl | hz
      · assumption
      · have := h.1 z hz; omega
    · rw [List.pairwise_cons]
      refine ⟨fun z hz => ?_, insI_sorted x h.2⟩
      rcases List.mem_cons.1 ((insI_perm x l).mem_iff.1 hz) with rfl | hz
      · omega
      · exact h.1 z hz
theorem insort_sorted : ∀ l, (insort l).Pairwise (· ≤ ·)
  | [] => .nil
  | x :: l => insI_sorted x (insort_sorted l)
theorem insort_eq (l : List Int) : insort l = l.mergeSort fun x y => decide (x ≤ y) := by
  have hs : (l.mergeSort fun x y => decide (x ≤ y)).Pairwise (fun a b => decide (a ≤ b) = true) := List.pairwise_mergeSort (fun a b c h1 h2 => by simp at *; omega) (fun a b => by simp; omega) l
  exact List.Perm.eq_of_pairwise (le := fun a b : Int => a ≤ b) (fun a b _ _ h1 h2 => by omega) (insort_sorted l) (hs.imp (fun h => by simpa using h)) ((insort_perm l).trans (List.mergeSort_perm l _).symm)

def twSort (l0 : List Int) : Option (List Int) := if l0.length < 17592186044416 then some (insort l0) else none
theorem twSort_eq : twSort = slices_Sort_int.f := by funext l; unfold twSort slices_Sort_int.f; rw [insort_eq]

def closeF2 (N : Nat) (n : Int) (T : TS) : Option TS :=
  if T.low.getD n.toNat 0 ≠ T.number.getD n.toNat 0 then some T
  else if n ∈ T.stack ∧ (∀ j ∈ T.stack.drop (T.stack.idxOf n), 0 ≤ j ∧ j < (N : Int)) ∧ T.out.length < 1099511627776 ∧ T.stack.length < 1099511627776 then
    some { T with on := offF T.on (T.stack.drop (T.stack.idxOf n)), stack := T.stack.take (T.stack.idxOf n), out := T.out ++ [insort (T.stack.drop (T.stack.idxOf n))] }
  else none
theorem closeF2_eq (N : Nat) (n : Int) (T : TS) : closeF2 N n T = closeF N n T := by unfold closeF2 closeF sortL; rw [insort_eq]
def visitF2 (nx : List (List Int)) : Nat → TS → Int → Option TS
  | 0, _, _ => none
  | k + 1, T, n =>
    if 0 ≤ n ∧ n < (nx.length : Int) ∧ 0 ≤ T.count ∧ T.count < 1099511627776 ∧ T.stack.length < 1099511627776 ∧ (nx.getD n.toNat []).length < 1099511627776 then
      (eachF (visitF2 nx k) nx.length n (openF n T) (afterL nx n)).bind fun T' => closeF2 nx.length n T'
    else none
theorem visitF2_eq (nx : List (List Int)) : ∀ k, visitF2 nx k = visitF nx k
  | 0 => rfl
  | k + 1 => by
    funext T n
    have ih := visitF2_eq nx k
    simp only [visitF2, visitF, ih, closeF2_eq]
def foundF2 (nx : List (List Int)) : Option (List (List Int)) :=
  if nx.length < 1048576 then ((List.range nx.length).foldlM (fun (T : TS) n => if T.number.getD n 0 = 0 then visitF2 nx (nx.length + 1) T n else some T) (startF nx.length)).map TS.out else none
theorem foundF2_eq : foundF2 = foundF := by
  funext nx
  unfold foundF2 foundF
  simp only [visitF2_eq]
  rfl

mutual
def tw_comp_leads.l0 : Nat → List (List Int) → List Int → Int → List Int → List Int → Int → Int → Option (List Int)
  | 0, _, _, _, _, _, _, _ => none
  | k + 1, x0, x2, x3, x9, x17, x18, x19 => if x19 < x18 then (if 0 ≤ x19 then (if x19 < (x17.length : Int) then ((comp_after.f k x0 (rd x17 x19)).bind fun t112 => (tw_comp_leads.l1 k x0 x2 x3 x9 x17 x18 x19 t112 (t112.length : Int) 0)) else (none)) else (none)) else ((twSort x9).bind fun t107 => ((slices_Compact_int.f t107).bind fun t108 => (some t108)))
def tw_comp_leads.l1 : Nat → List (List Int) → List Int → Int → List Int → List Int → Int → Int → List Int → Int → Int → Option (List Int)
  | 0, _, _, _, _, _, _, _, _, _, _ => none
  | k + 1, x0, x2, x3, x9, x17, x18, x19, x25, x26, x27 => if x27 < x26 then (if 0 ≤ x27 then (if x27 < (x25.length : Int) then (if 0 ≤ (rd x25 x27) then (if (rd x25 x27) < (x2.length : Int) then (if (rd x2 (rd x25 x27)) = x3 then (tw_comp_leads.l1 k x0 x2 x3 x9 x17 x18 x19 x25 x26 (wrap64 (x27 + 1))) else (if x9.length < 17592186044416 then (tw_comp_leads.l1 k x0 x2 x3 (x9 ++ [rd x2 (rd x25 x27)]) x17 x18 x19 x25 x26 (wrap64 (x27 + 1))) else (none))) else (none)) else (none)) else (none)) else (none)) else (tw_comp_leads.l0 k x0 x2 x3 x9 x17 x18 (wrap64 (x19 + 1)))
end
def tw_comp_leads.f (k : Nat) (l0 : List (List Int)) (l1 : List (List Int)) (l2 : List Int) (a3 : Int) : Option (List Int) := if 0 ≤ a3 then (if a3 < (l1.length : Int) then (tw_comp_leads.l0 k l0 l2 a3 ([] : List Int) (rd_L1 l1 a3) ((rd_L1 l1 a3).length : Int) 0) else (none)) else (none)
theorem tw_comp_leads.same_l : ∀ k, (∀ y0 y1 y2 y3 y4 y5 y6, tw_comp_leads.l0 k y0 y1 y2 y3 y4 y5 y6 = comp_leads.l0 k y0 y1 y2 y3 y4 y5 y6) ∧ (∀ y0 y1 y2 y3 y4 y5 y6 y7 y8 y9, tw_comp_leads.l1 k y0 y1 y2 y3 y4 y5 y6 y7 y8 y9 = comp_leads.l1 k y0 y1 y2 y3 y4 y5 y6 y7 y8 y9)
  | 0 => ⟨fun _ _ _ _ _ _ _ => by simp only [tw_comp_leads.l0, comp_leads.l0], fun _ _ _ _ _ _ _ _ _ _ => by simp only [tw_comp_leads.l1, comp_leads.l1]⟩
  | k + 1 => by
    obtain ⟨ih0, ih1⟩ := tw_comp_leads.same_l k
    exact ⟨fun _ _ _ _ _ _ _ => by simp only [tw_comp_leads.l0, comp_leads.l0, ih0, ih1, twSort_eq]; try rfl, fun _ _ _ _ _ _ _ _ _ _ => by simp only [tw_comp_leads.l1, comp_leads.l1, ih0, ih1, twSort_eq]; try rfl⟩
theorem tw_comp_leads.same (k : Nat) (a : List (List Int)) (b : List (List Int)) (c : List Int) (d : Int) : tw_comp_leads.f k a b c d = comp_leads.f k a b c d := by
  obtain ⟨ih0, ih1⟩ := tw_comp_leads.same_l k
  unfold tw_comp_leads.f comp_leads.f
  simp only [ih0, ih1, twSort_eq]; try rfl
mutual
def tw_comp_ids.l0 : Nat → List (List Int) → List (List Int) → List Int → List Int → List (List Int) → List Int → Int → Int → Option (List Int)
  | 0, _, _, _, _, _, _, _, _ => none
  | k + 1, x0, x3, x4, x5, x6, x7, x32, x33 => if x33 < x32 then ((tw_comp_leads.f k x0 x3 x4 x33).bind fun t110 => (if 0 ≤ x33 then (if x33 < (x5.length : Int) then (tw_comp_ids.l1 k x0 x3 x4 (x5.set (x33 : Int).toNat (t110.length : Int)) x6 x7 x33 t110 x32 x33 t110 (t110.length : Int) 0) else (none)) else (none))) else (tw_comp_ids.l2 k x3 x5 x6 x7 ([] : List Int))
def tw_comp_ids.l1 : Nat → List (List Int) → List (List Int) → List Int → List Int → List (List Int) → List Int → Int → List Int → Int → Int → List Int → Int → Int → Option (List Int)
  | 0, _, _, _, _, _, _, _, _, _, _, _, _, _ => none
  | k + 1, x0, x3, x4, x5, x6, x7, x8, x9, x32, x33, x46, x47, x48 => if x48 < x47 then (if 0 ≤ x48 then (if x48 < (x46.length : Int) then (if 0 ≤ (rd x46 x48) then (if (rd x46 x48) < (x6.length : Int) then (if (rd_L1 x6 (rd x46 x48)).length < 17592186044416 then (tw_comp_ids.l1 k x0 x3 x4 x5 (x6.set ((rd x46 x48) : Int).toNat ((rd_L1 x6 (rd x46 x48)) ++ [x8])) x7 x8 x9 x32 x33 x46 x47 (wrap64 (x48 + 1))) else (none)) else (none)) else (none)) else (none)) else (none)) else (if (x9.length : Int) = 0 then (if x7.length < 17592186044416 then (tw_comp_ids.l0 k x0 x3 x4 x5 x6 (x7 ++ [x8]) x32 (wrap64 (x33 + 1))) else (none)) else (tw_comp_ids.l0 k x0 x3 x4 x5 x6 x7 x32 (wrap64 (x33 + 1))))
def tw_comp_ids.l2 : Nat → List (List Int) → List Int → List (List Int) → List Int → List Int → Option (List Int)
  | 0, _, _, _, _, _ => none
  | k + 1, x3, x5, x6, x7, x12 => if (x7.length : Int) > 0 then (tw_comp_ids.l3 k x3 x5 x6 x7 x12 0 x7 (x7.length : Int) 0) else (some x12)
def tw_comp_ids.l3 : Nat → List (List Int) → List Int → List (List Int) → List Int → List Int → Int → List Int → Int → Int → Option (List Int)
  | 0, _, _, _, _, _, _, _, _, _ => none
  | k + 1, x3, x5, x6, x7, x12, x13, x74, x75, x76 => if x76 < x75 then (if 0 ≤ x76 then (if x76 < (x74.length : Int) then (if 0 ≤ (rd x74 x76) then (if (rd x74 x76) < (x3.length : Int) then (if 0 < ((rd_L1 x3 (rd x74 x76)).length : Int) then (if 0 ≤ x13 then (if x13 < (x7.length : Int) then (if 0 ≤ (rd x7 x13) then (if (rd x7 x13) < (x3.length : Int) then (if 0 < ((rd_L1 x3 (rd x7 x13)).length : Int) then (if (rd (rd_L1 x3 (rd x74 x76)) 0) < (rd (rd_L1 x3 (rd x7 x13)) 0) then (tw_comp_ids.l3 k x3 x5 x6 x7 x12 x76 x74 x75 (wrap64 (x76 + 1))) else (tw_comp_ids.l3 k x3 x5 x6 x7 x12 x13 x74 x75 (wrap64 (x76 + 1)))) else (none)) else (none)) else (none)) else (none)) else (none)) else (none)) else (none)) else (none)) else (none)) else (none)) else (if 0 ≤ x13 then (if x13 < (x7.length : Int) then (if x13 ≤ (x7.length : Int) then (if 0 ≤ (wrap64 (x13 + 1)) then (if (wrap64 (x13 + 1)) ≤ (x7.length : Int) then (if 0 ≤ (rd x7 x13) then (if (rd x7 x13) < (x3.length : Int) then (if x12.length < 5864062014805 then (if (rd x7 x13) < (x6.length : Int) then (tw_comp_ids.l4 k x3 x5 x6 (x7.eraseIdx (x13 : Int).toNat) (x12 ++ [rd x7 x13]) (rd_L1 x6 (rd x7 x13)) ((rd_L1 x6 (rd x7 x13)).length : Int) 0) else (none)) else (none)) else (none)) else (none)) else (none)) else (none)) else (none)) else (none)) else (none))
def tw_comp_ids.l4 : Nat → List (List Int) → List Int → List (List Int) → List Int → List Int → List Int → Int → Int → Option (List Int)
  | 0, _, _, _, _, _, _, _, _ => none
  | k + 1, x3, x5, x6, x7, x12, x118, x119, x120 => if x120 < x119 then (if 0 ≤ x120 then (if x120 < (x118.length : Int) then (if 0 ≤ (rd x118 x120) then (if (rd x118 x120) < (x5.length : Int) then ((some (x5.set ((rd x118 x120) : Int).toNat (wrap64 ((rd x5 (rd x118 x120)) - 1)) : List Int)).bind fun y148 => (if (rd y148 (rd x118 x120)) = 0 then (if x7.length < 17592186044416 then (tw_comp_ids.l4 k x3 y148 x6 (x7 ++ [rd x118 x120]) x12 x118 x119 (wrap64 (x120 + 1))) else (none)) else (tw_comp_ids.l4 k x3 y148 x6 x7 x12 x118 x119 (wrap64 (x120 + 1))))) else (none)) else (none)) else (none)) else (none)) else (tw_comp_ids.l2 k x3 x5 x6 x7 x12)
end
def tw_comp_ids.f (k : Nat) (l0 : List (List Int)) (l1 : List (List Int)) : Option (List Int) := (comp_numbers.f k l1 (l0.length : Int)).bind fun t101 => (if 0 ≤ (l1.length : Int) then (if ((l1.length : Int) : Int).toNat ≤ 35184372088832 then (if ((l1.length : Int) : Int).toNat ≤ 11728124029610 then (tw_comp_ids.l0 k l0 l1 t101 (List.replicate ((l1.length : Int) : Int).toNat 0) (List.replicate ((l1.length : Int) : Int).toNat []) ([] : List Int) (l1.length : Int) 0) else (none)) else (none)) else (none))
theorem tw_comp_ids.same_l : ∀ k, (∀ y0 y1 y2 y3 y4 y5 y6 y7, tw_comp_ids.l0 k y0 y1 y2 y3 y4 y5 y6 y7 = comp_ids.l0 k y0 y1 y2 y3 y4 y5 y6 y7) ∧ (∀ y0 y1 y2 y3 y4 y5 y6 y7 y8 y9 y10 y11 y12, tw_comp_ids.l1 k y0 y1 y2 y3 y4 y5 y6 y7 y8 y9 y10 y11 y12 = comp_ids.l1 k y0 y1 y2 y3 y4 y5 y6 y7 y8 y9 y10 y11 y12) ∧ (∀ y0 y1 y2 y3 y4, tw_comp_ids.l2 k y0 y1 y2 y3 y4 = comp_ids.l2 k y0 y1 y2 y3 y4) ∧ (∀ y0 y1 y2 y3 y4 y5 y6 y7 y8, tw_comp_ids.l3 k y0 y1 y2 y3 y4 y5 y6 y7 y8 = comp_ids.l3 k y0 y1 y2 y3 y4 y5 y6 y7 y8) ∧ (∀ y0 y1 y2 y3 y4 y5 y6 y7, tw_comp_ids.l4 k y0 y1 y2 y3 y4 y5 y6 y7 = comp_ids.l4 k y0 y1 y2 y3 y4 y5 y6 y7)
  | 0 => ⟨fun _ _ _ _ _ _ _ _ => by simp only [tw_comp_ids.l0, comp_ids.l0], fun _ _ _ _ _ _ _ _ _ _ _ _ _ => by simp only [tw_comp_ids.l1, comp_ids.l1], fun _ _ _ _ _ => by simp only [tw_comp_ids.l2, comp_ids.l2], fun _ _ _ _ _ _ _ _ _ => by simp only [tw_comp_ids.l3, comp_ids.l3], fun _ _ _ _ _ _ _ _ => by simp only [tw_comp_ids.l4, comp_ids.l4]⟩
  | k + 1 => by
    obtain ⟨ih0, ih1, ih2, ih3, ih4⟩ := tw_comp_ids.same_l k
    exact ⟨fun _ _ _ _ _ _ _ _ => by simp only [tw_comp_ids.l0, comp_ids.l0, ih0, ih1, ih2, ih3, ih4, tw_comp_leads.same]; try rfl, fun _ _ _ _ _ _ _ _ _ _ _ _ _ => by simp only [tw_comp_ids.l1, comp_ids.l1, ih0, ih1, ih2, ih3, ih4, tw_comp_leads.same]; try rfl, fun _ _ _ _ _ => by simp only [tw_comp_ids.l2, comp_ids.l2, ih0, ih1, ih2, ih3, ih4, tw_comp_leads.same]; try rfl, fun _ _ _ _ _ _ _ _ _ => by simp only [tw_comp_ids.l3, comp_ids.l3, ih0, ih1, ih2, ih3, ih4, tw_comp_leads.same]; try rfl, fun _ _ _ _ _ _ _ _ => by simp only [tw_comp_ids.l4, comp_ids.l4, ih0, ih1, ih2, ih3, ih4, tw_comp_leads.same]; try rfl⟩
theorem tw_comp_ids.same (k : Nat) (a : List (List Int)) (b : List (List Int)) : tw_comp_ids.f k a b = comp_ids.f k a b := by
  obtain ⟨ih0, ih1, ih2, ih3, ih4⟩ := tw_comp_ids.same_l k
  unfold tw_comp_ids.f comp_ids.f
  simp only [ih0, ih1, ih2, ih3, ih4]; try rfl
def tw_Components (k : Nat) (l0 : List (List Int)) : Option (List (List Int)) := (foundF2 l0).bind fun l1 => (tw_comp_ids.f k l0 l1).bind fun ids => if ids.Nodup ∧ ∀ i ∈ ids, 0 ≤ i ∧ i < (l1.length : Int) then some (ids.map (rd_L1 l1)) else none
theorem tw_Components.same (k : Nat) (a : List (List Int)) : tw_Components k a = comp_Components.f k a := by
  unfold tw_Components comp_Components.f comp_found.f
  rw [foundF2_eq]
  simp only [tw_comp_ids.same]; try rfl
def tw_comp_Above.l0 : Nat → List (List Int) → List (List Int) → List Int → List (List Int) → Int → Int → Option ((List (List Int)))
  | 0, _, _, _, _, _, _ => none
  | k + 1, x0, x3, x4, x5, x14, x15 => if x15 < x14 then ((tw_comp_leads.f k x0 x3 x4 x15).bind fun t118 => (if x5.length < 5864062014805 then (tw_comp_Above.l0 k x0 x3 x4 (x5 ++ [t118]) x14 (wrap64 (x15 + 1))) else (none))) else (some x5)
def tw_comp_Above.f (k : Nat) (l0 : List (List Int)) : Option ((List (List Int))) := (tw_Components k l0).bind fun t112 => ((comp_numbers.f k t112 (l0.length : Int)).bind fun t115 => (tw_comp_Above.l0 k l0 t112 t115 ([] : List (List Int)) (t112.length : Int) 0))
theorem tw_comp_Above.same_l : ∀ k, (∀ y0 y1 y2 y3 y4 y5, tw_comp_Above.l0 k y0 y1 y2 y3 y4 y5 = comp_Above.l0 k y0 y1 y2 y3 y4 y5)
  | 0 => fun _ _ _ _ _ _ => by simp only [tw_comp_Above.l0, comp_Above.l0]
  | k + 1 => fun _ _ _ _ _ _ => by
    have ih0 := tw_comp_Above.same_l k
    simp only [tw_comp_Above.l0, comp_Above.l0, ih0, tw_comp_leads.same]; try rfl
theorem tw_comp_Above.same (k : Nat) (a : List (List Int)) : tw_comp_Above.f k a = comp_Above.f k a := by
  have ih0 := tw_comp_Above.same_l k
  unfold tw_comp_Above.f comp_Above.f
  simp only [ih0, tw_Components.same, tw_comp_leads.same]; try rfl

def nx0 : List (List Int) := [[1], [2], [1, 3], [], [4]]
theorem comps0 : tw_Components 60 nx0 = some [[3], [1, 2], [0], [4]] := by decide +kernel
theorem above0 : tw_comp_Above.f 60 nx0 = some [[], [0], [1], []] := by decide +kernel
theorem comps_ok : comp_Components.f 60 nx0 = some [[3], [1, 2], [0], [4]] := by rw [← tw_Components.same]; exact comps0
theorem aboves_ok : comp_Above.f 60 nx0 = some [[], [0], [1], []] := by rw [← tw_comp_Above.same]; exact above0
theorem number_ok : comp_Number.f 60 nx0 = some [2, 1, 1, 0, 3] := by unfold comp_Number.f; rw [comps_ok]; decide +kernel
theorem two_rounds {α : Type} {g : Nat → Option α} (hg : ∀ k, LeO (g k) (g (k + 1))) {k j : Nat} {a b : α} (h : g k = some a) (h2 : g j = some b) : a = b := by
  have e1 := at_rounds hg (Nat.le_max_left k j) h
  have e2 := at_rounds hg (Nat.le_max_right k j) h2
  rw [e1] at e2
  exact Option.some.inj e2
theorem comps_same {k : Nat} {y t z : List (List Int)} {b : Bool} (hy : y = nx0) (h : comp_Components.f k y = some t) (hz : z = [[3], [1, 2], [0], [4]]) (h2 : runnellaw13_sameLists.f k t z = some b) : b = true := by
  subst hy hz
  obtain rfl := two_rounds (comp_Components.mono nx0) h comps_ok
  exact two_rounds (runnellaw13_sameLists.mono _ _) h2 (show runnellaw13_sameLists.f 60 [[3], [1, 2], [0], [4]] [[3], [1, 2], [0], [4]] = some true by decide +kernel)
theorem number_same {k : Nat} {y : List (List Int)} {t z : List Int} {b : Bool} (hy : y = nx0) (h : comp_Number.f k y = some t) (hz : z = [2, 1, 1, 0, 3]) (h2 : runnellaw13_sameInts.f k t z = some b) : b = true := by
  subst hy hz
  obtain rfl := two_rounds (comp_Number.mono nx0) h number_ok
  exact two_rounds (runnellaw13_sameInts.mono _ _) h2 (show runnellaw13_sameInts.f 60 [2, 1, 1, 0, 3] [2, 1, 1, 0, 3] = some true by decide +kernel)
end Go.Proofs.Ytkgkhakjodlpgaa.C
