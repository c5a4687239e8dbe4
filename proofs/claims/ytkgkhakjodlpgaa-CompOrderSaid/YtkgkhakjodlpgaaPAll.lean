/- The components, their numbers and what each leads to, of what is printed of them: what they are. -/
import Derived.Test.YtkgkhakjodlpgaaPIds
namespace Go.Proofs.Ytkgkhakjodlpgaa.C
open Go.RowKit Go.Proofs.YtkgkhakjodlpgaaW.PrintWords Go.Proofs.Ytkgkhakjodlpgaa.Ext Go.Proofs.Ytkgkhakjodlpgaa.Ca Go.Proofs.Ytkgkhakjodlpgaa.Cv

theorem seq_classes {nx : List (List Int)} {U : Nat → Prop} {l : List (List Int)} (h : Seq nx U l) (hU : ∀ a b, U a → Rt nx a b → Rt nx b a → U b) :
    (∀ x ∈ l, ∃ m, m < nx.length ∧ x = cls nx m) ∧ (∀ a, a < nx.length → U a ∨ ∃ x ∈ l, (a : Int) ∈ x) ∧ l.Pairwise (fun x y => ∀ z, z ∈ x → z ∉ y) ∧ ∀ x ∈ l, ∀ a : Nat, (a : Int) ∈ x → ¬ U a := by
  induction h with
  | nil h1 => exact ⟨by simp, fun a ha => .inl (h1 a ha), .nil, by simp⟩
  | @cons U i l h1 h2 ih =>
    obtain ⟨a1, a2, a3, a4⟩ := ih (fun a b ha hab hba => by
      rcases ha with ha | ha
      · exact .inl (hU a b ha hab hba)
      · obtain ⟨_, h4, h5⟩ := cls_mem.1 ha
        exact .inr (cls_mem.2 ⟨(h4.trans hab).lt h1.lt, h4.trans hab, hba.trans h5⟩))
    refine ⟨fun x hx => ?_, fun a ha => ?_, List.pairwise_cons.2 ⟨fun y hy z hz hzy => ?_, a3⟩, fun x hx a ha hu => ?_⟩
    · rcases List.mem_cons.1 hx with rfl | hx
      · exact ⟨i, h1.lt, rfl⟩
      · exact a1 x hx
    · rcases a2 a ha with (h3 | h3) | ⟨x, hx, h3⟩
      · exact .inl h3
      · exact .inr ⟨_, by simp, h3⟩
      · exact .inr ⟨x, by simp [hx], h3⟩
    · obtain ⟨b, rfl, _⟩ := mem_cls.1 hz
      exact a4 y hy b hzy (.inr hz)
    · rcases List.mem_cons.1 hx with rfl | hx
      · obtain ⟨_, h4, h5⟩ := cls_mem.1 ha
        exact h1.new (hU a i hu h5 h4)
      · exact a4 x hx a ha (.inl hu)

theorem seq_ok {nx : List (List Int)} {l : List (List Int)} (h : Seq nx (fun _ => False) l) : Classes nx l := by
  obtain ⟨a1, a2, a3, _⟩ := seq_classes h (fun _ _ h => h.elim)
  exact ⟨a1, fun a ha => (a2 a ha).resolve_left id, a3⟩

theorem seq_order {nx : List (List Int)} {U : Nat → Prop} {l : List (List Int)} (h : Seq nx U l) : ∀ t, ∀ a b : Nat, (a : Int) ∈ l.getD t [] → Ed nx a b → U b ∨ ∃ s, s ≤ t ∧ (b : Int) ∈ l.getD s [] := by
  induction h with
  | nil h1 => intro t a b ha; simp at ha
  | @cons U i l h1 h2 ih =>
    intro t a b ha he
    cases t with
    | zero =>
      have ha' : (a : Int) ∈ cls nx i := by simpa using ha
      obtain ⟨_, h4, h5⟩ := cls_mem.1 ha'
      by_cases hu : U b
      · exact .inl hu
      · have hb : Rt nx i b := .step h4 he
        exact .inr ⟨0, by omega, by simpa using cls_mem.2 ⟨he.2.1, hb, h1.free b hb hu⟩⟩
    | succ t =>
      rcases ih t a b (by simpa using ha) he with (h3 | h3) | ⟨s, hs, h3⟩
      · exact .inl h3
      · exact .inr ⟨0, by omega, by simpa using h3⟩
      · exact .inr ⟨s + 1, by omega, by simpa using h3⟩

/-! What each leads to. -/
structure AboveIs (nx c : List (List Int)) (num : List Int) (n : Nat) (r : List (List Int)) : Prop where
  len : r.length = n
  is : ∀ t, t < n → LeadsIs nx num (c.getD t []) (t : Int) (r.getD t [])

theorem AboveIs.snoc {nx c : List (List Int)} {num : List Int} {n : Nat} {r : List (List Int)} {x : List Int} (h : AboveIs nx c num n r) (hx : LeadsIs nx num (c.getD n []) (n : Int) x) : AboveIs nx c num (n + 1) (r ++ [x]) := by
  refine ⟨by simp [h.len], fun t ht => ?_⟩
  have hl := h.len
  by_cases e : t = n
  · subst e
    have e2 : (r ++ [x]).getD t [] = x := by rw [List.getD_eq_getElem?_getD, List.getElem?_append_right (by omega), hl]; simp
    rw [e2]; exact hx
  · have e2 : (r ++ [x]).getD t [] = r.getD t [] := by rw [List.getD_eq_getElem?_getD, List.getElem?_append_left (by omega), List.getD_eq_getElem?_getD]
    rw [e2]; exact h.is t (by omega)

theorem AboveIs.uniq {nx c : List (List Int)} {num : List Int} {n : Nat} {r s : List (List Int)} (hr : AboveIs nx c num n r) (hs : AboveIs nx c num n s) : r = s := by
  apply List.ext_getElem (by rw [hr.len, hs.len])
  intro t h1 h2
  have a := hr.is t (by rw [← hr.len]; exact h1)
  have b := hs.is t (by rw [← hr.len]; exact h1)
  have e1 : r.getD t [] = r[t] := by rw [List.getD_eq_getElem?_getD, List.getElem?_eq_getElem h1]; rfl
  have e2 : s.getD t [] = s[t] := by rw [List.getD_eq_getElem?_getD, List.getElem?_eq_getElem h2]; rfl
  rw [e1] at a
  rw [e2] at b
  exact a.uniq b

theorem above_from {nx c : List (List Int)} {num : List Int} (hc : Parts nx.length c) (hn : num.length = nx.length) (hdeg : ∀ a : Nat, (nx.getD a []).length < 1048576) :
    ∀ s : List (List Int) × Nat, (AboveIs nx c num s.2 s.1 ∧ s.2 ≤ c.length) → ∃ k r, comp_Above.l0 k nx c num s.1 (c.length : Int) (s.2 : Int) = some r ∧ AboveIs nx c num c.length r := by
  have hmany := hc.many
  refine loop_ends (fun k (s : List (List Int) × Nat) => comp_Above.l0 k nx c num s.1 (c.length : Int) (s.2 : Int)) _ (fun _ r => AboveIs nx c num c.length r) (fun s => c.length - s.2) ?_
  rintro ⟨acc, i⟩ ⟨hA, hi⟩
  dsimp only at hA hi ⊢
  have hl := hA.len
  by_cases hlt : i < c.length
  · obtain ⟨k1, x, e1, hx⟩ := leads_ev hc hlt hn hdeg
    refine .inr ⟨(acc ++ [x], i + 1), ⟨hA.snoc hx, hlt⟩, by dsimp only; omega, fun k r hk hp => ⟨max k k1 + 1, ?_, hp⟩⟩
    dsimp only at hk
    simp only [comp_Above.l0]
    rw [if_pos (by omega), at_rounds (comp_leads.mono nx c num (i : Int)) (Nat.le_max_right k k1) e1]
    simp only [Option.bind_some]
    rw [if_pos (by omega), wrap_nat (by omega)]
    exact at_rounds (g := fun j => comp_Above.l0 j nx c num (acc ++ [x]) (c.length : Int) ((i + 1 : Nat) : Int)) (fun j => comp_Above.mono_l j _ _ _ _ _ _) (Nat.le_max_left k k1) hk
  · obtain rfl : i = c.length := by omega
    refine .inl ⟨1, acc, ?_, hA⟩
    simp only [comp_Above.l0]
    rw [if_neg (by omega)]

/-- What a component leads to is a place. -/
theorem lead_place {nx c : List (List Int)} {num : List Int} (hcov : ∀ a, a < nx.length → ∃ t, t < c.length ∧ (a : Int) ∈ c.getD t []) (hn : NumOf nx.length c num) {row : List Int} {i : Int} {r : List Int} (h : LeadsIs nx num row i r) : ∀ x ∈ r, 0 ≤ x ∧ x < (c.length : Int) := by
  intro x hx
  obtain ⟨a, _, b, hb, h1, _⟩ := (h.is x).1 hx
  have hb2 := (List.mem_filter.1 hb).2
  simp only [Bool.and_eq_true, decide_eq_true_eq] at hb2
  obtain ⟨t, ht, hbt⟩ := hcov b.toNat (by omega)
  have := hn.is t _ hbt
  rw [Int.toNat_natCast] at this
  omega

theorem rows_len {nx : List (List Int)} {num : List Int} {row : List Int} {i : Int} {r : List Int} (h : LeadsIs nx num row i r) {N : Nat} (hp : ∀ x ∈ r, 0 ≤ x ∧ x < (N : Int)) : r.length ≤ N :=
  nodup_len N r (rising_nodup h.up) hp

structure All (nx L : List (List Int)) (num : List Int) (up : List (List Int)) : Prop where
  seq : Seq nx (fun _ => False) L
  cl : Classes nx L
  parts : Parts nx.length L
  cov : ∀ a, a < nx.length → ∃ t, t < L.length ∧ (a : Int) ∈ L.getD t []
  cls : ∀ t, t < L.length → ∃ n, n < nx.length ∧ L.getD t [] = cls nx n
  up : AboveIs nx L num L.length up
  num : NumOf nx.length L num

/-- All that comp tells of a graph. -/
theorem all_ev (nx : List (List Int)) (hN : nx.length < 1048576) (hdeg : ∀ a : Nat, (nx.getD a []).length < 1048576) :
    ∃ L num up, (∃ k, comp_Components.f k nx = some L) ∧ (∃ k, comp_Number.f k nx = some num) ∧ (∃ k, comp_Above.f k nx = some up) ∧ All nx L num up := by
  obtain ⟨k1, L, e1, hs⟩ := comps_ev nx hN hdeg
  have hcl := seq_ok hs
  obtain ⟨hp, hcov, hcls⟩ := classes_parts hN hcl
  obtain ⟨k2, num, e2, hnum⟩ := numbers_ev hp hN
  obtain ⟨k3, up, e3, hup⟩ := above_from hp hnum.len hdeg ([], 0) ⟨⟨rfl, fun t ht => absurd ht (by simp)⟩, by simp⟩
  refine ⟨L, num, up, ⟨k1, e1⟩, ⟨max k1 k2, ?_⟩, ⟨max (max k1 k2) k3, ?_⟩, hs, hcl, hp, hcov, hcls, hup, hnum⟩
  · unfold comp_Number.f
    rw [at_rounds (comp_Components.mono nx) (Nat.le_max_left k1 k2) e1]
    simp only [Option.bind_some]
    rw [at_rounds (comp_numbers.mono L (nx.length : Int)) (Nat.le_max_right k1 k2) e2]
    rfl
  · unfold comp_Above.f
    rw [at_rounds (comp_Components.mono nx) (show k1 ≤ max (max k1 k2) k3 by omega) e1]
    simp only [Option.bind_some]
    rw [at_rounds (comp_numbers.mono L (nx.length : Int)) (show k2 ≤ max (max k1 k2) k3 by omega) e2]
    simp only [Option.bind_some]
    exact at_rounds (g := fun j => comp_Above.l0 j nx L num [] (L.length : Int) 0) (fun j => comp_Above.mono_l j _ _ _ _ _ _) (Nat.le_max_right (max k1 k2) k3) e3
end Go.Proofs.Ytkgkhakjodlpgaa.C
