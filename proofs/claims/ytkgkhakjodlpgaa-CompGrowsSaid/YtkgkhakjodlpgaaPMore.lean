/- A graph with a step more: what was come to is come to, and it has no more components. -/
import Derived.Test.YtkgkhakjodlpgaaPTold
namespace Go.Proofs.Ytkgkhakjodlpgaa.C
open Go.RowKit Go.Proofs.YtkgkhakjodlpgaaW.PrintWords Go.Proofs.Ytkgkhakjodlpgaa.Ext Go.Proofs.Ytkgkhakjodlpgaa.Ca Go.Proofs.Ytkgkhakjodlpgaa.Cv

/-- A graph with a step more. -/
def moreOf (nx : List (List Int)) (a : Nat) (b : Int) : List (List Int) := nx.set a (nx.getD a [] ++ [b])

theorem more_len (nx : List (List Int)) (a : Nat) (b : Int) : (moreOf nx a b).length = nx.length := by simp [moreOf]

theorem more_row {nx : List (List Int)} {a : Nat} (b : Int) (ha : a < nx.length) (x : Nat) : (moreOf nx a b).getD x [] = if x = a then nx.getD a [] ++ [b] else nx.getD x [] := by
  unfold moreOf
  simp only [List.getD_eq_getElem?_getD, List.getElem?_set]
  by_cases h : a = x
  · subst h; simp [ha]
  · rw [if_neg h, if_neg (fun e => h e.symm)]

theorem more_ed {nx : List (List Int)} {a : Nat} (b : Int) (ha : a < nx.length) {x y : Nat} (h : Ed nx x y) : Ed (moreOf nx a b) x y := by
  obtain ⟨h1, h2, h3⟩ := h
  refine ⟨by rw [more_len]; exact h1, by rw [more_len]; exact h2, ?_⟩
  rw [more_row b ha]
  by_cases e : x = a
  · subst e; rw [if_pos rfl]; exact List.mem_append_left _ h3
  · rw [if_neg e]; exact h3

theorem more_rt {nx : List (List Int)} {a : Nat} (b : Int) (ha : a < nx.length) {x y : Nat} (h : Rt nx x y) : Rt (moreOf nx a b) x y := by
  induction h with
  | refl => exact .refl _
  | step _ e ih => exact .step ih (more_ed b ha e)

theorem more_new {nx : List (List Int)} {a b : Nat} (ha : a < nx.length) (hb : b < nx.length) : Rt (moreOf nx a (b : Int)) a b := by
  refine .edge ⟨by rw [more_len]; exact ha, by rw [more_len]; exact hb, ?_⟩
  rw [more_row _ ha, if_pos rfl]
  simp

theorem fewer {nx mo L L2 : List (List Int)} {num num2 : List Int} {up up2 : List (List Int)} (hl : mo.length = nx.length) (hR : ∀ x y, Rt nx x y → Rt mo x y) (h : All nx L num up) (h2 : All mo L2 num2 up2) : L2.length ≤ L.length := by
  have key : ∀ m, m ≤ L2.length → ∃ l : List Int, l.length = m ∧ l.Nodup ∧ ∀ x ∈ l, 0 ≤ x ∧ x < (L.length : Int) ∧ ∃ t c : Nat, t < m ∧ (c : Int) ∈ L2.getD t [] ∧ x = num.getD c 0 := by
    intro m
    induction m with
    | zero => intro _; exact ⟨[], rfl, .nil, by simp⟩
    | succ m ih =>
      intro hm
      obtain ⟨l, h3, h4, h5⟩ := ih (by omega)
      obtain ⟨n, hn, hcl⟩ := h2.cls m (by omega)
      have hself : (n : Int) ∈ L2.getD m [] := by rw [hcl]; exact cls_self hn
      obtain ⟨s, hs, hns⟩ := h.cov n (by omega)
      have e := h.num.is s _ hns
      rw [Int.toNat_natCast] at e
      refine ⟨num.getD n 0 :: l, by simp [h3], List.nodup_cons.2 ⟨fun he => ?_, h4⟩, fun x hx => ?_⟩
      · obtain ⟨_, _, t, c, ht, hc, h6⟩ := h5 _ he
        have hc2 := h2.parts.rng t _ hc
        have hr := (h.same (a := n) (b := c) (by omega) (by omega)).1 h6
        have : (c : Int) ∈ L2.getD m [] := by rw [hcl]; exact cls_mem.2 ⟨by omega, hR _ _ hr.1, hR _ _ hr.2⟩
        have := h2.parts.dis _ _ _ hc this
        omega
      · rcases List.mem_cons.1 hx with rfl | hx
        · exact ⟨by omega, by omega, m, n, by omega, hself, rfl⟩
        · obtain ⟨a1, a2, t, c, a3, a4, a5⟩ := h5 x hx
          exact ⟨a1, a2, t, c, by omega, a4, a5⟩
  obtain ⟨l, h3, h4, h5⟩ := key L2.length (Nat.le_refl _)
  have := nodup_len L.length l h4 (fun x hx => ⟨(h5 x hx).1, (h5 x hx).2.1⟩)
  omega
end Go.Proofs.Ytkgkhakjodlpgaa.C
