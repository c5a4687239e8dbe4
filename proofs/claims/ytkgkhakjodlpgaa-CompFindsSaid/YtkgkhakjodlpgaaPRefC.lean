/- The document's components are the classes, the least free one first. -/
import Derived.Test.YtkgkhakjodlpgaaPMarks
import Derived.Test.YtkgkhakjodlpgaaC8
namespace Go.Proofs.Ytkgkhakjodlpgaa.C
open Go.RowKit Go.Proofs.YtkgkhakjodlpgaaW.PrintWords Go.Proofs.Ytkgkhakjodlpgaa.Ext Go.Proofs.Ytkgkhakjodlpgaa.Ca

noncomputable def tabOf (nx : List (List Int)) (n : Nat) : List (List Bool) := (List.range n).map fun (t : Nat) => marksOf nx [(t : Int)]

theorem from_one {nx : List (List Int)} {i : Nat} (hi : i < nx.length) (b : Nat) : From nx [(i : Int)] b ↔ Rt nx i b := by
  constructor
  · rintro ⟨a, h1, _, h3⟩
    obtain rfl := Int.ofNat_inj.1 (List.mem_singleton.1 h1); exact h3
  · intro h; exact ⟨i, by simp, hi, h⟩

theorem tab_row {nx : List (List Int)} {i : Nat} (hi : i < nx.length) : (tabOf nx nx.length).getD i [] = marksOf nx [(i : Int)] := by
  simp [tabOf, List.getD_eq_getElem?_getD, hi]

theorem tab_at {nx : List (List Int)} {i b : Nat} (hi : i < nx.length) (hb : b < nx.length) : (marksOf nx [(i : Int)]).getD b false = true ↔ Rt nx i b := by
  rw [(marksOf_ok nx [(i : Int)]).is b hb, from_one hi]

inductive RS where
  | one (u : List Bool) (out : List (List Int)) (i : Nat)
  | two (u : List Bool) (out : List (List Int)) (i : Nat) (g : Bool) (j : Nat)
  | three (u0 u : List Bool) (out : List (List Int)) (i : Nat) (cc : List Int) (j : Nat)

def used (u : List Bool) (a : Nat) : Prop := u.getD a false = true

open Classical in
noncomputable def clsTo (nx : List (List Int)) (i j : Nat) : List Int := ((List.range j).filter fun b => decide (Rt nx i b ∧ Rt nx b i)).map fun (b : Nat) => (b : Int)

structure RCore (nx : List (List Int)) (u : List Bool) (out : List (List Int)) : Prop where
  len : u.length = nx.length
  few : out.length + load (fun _ => 1) u nx.length ≤ nx.length

def RInv (nx : List (List Int)) : RS → Prop
  | .one u out i => RCore nx u out ∧ i ≤ nx.length ∧ ∀ a, a < i → ¬ used u a → ¬ Free nx (used u) a
  | .two u out i g j => RCore nx u out ∧ i < nx.length ∧ j ≤ nx.length ∧ ¬ used u i ∧ (∀ a, a < i → ¬ used u a → ¬ Free nx (used u) a) ∧ (g = true ↔ ∀ b, b < j → Rt nx i b → ¬ used u b → Rt nx b i)
  | .three u0 u out i cc j => RCore nx u0 out ∧ u.length = nx.length ∧ j ≤ nx.length ∧ NextOf nx (used u0) i ∧ cc = clsTo nx i j ∧ (∀ a, a < nx.length → (used u a ↔ used u0 a ∨ (a < j ∧ Rt nx i a ∧ Rt nx a i)))

def RPost (nx : List (List Int)) : RS → List (List Int) → Prop
  | .one u out _, r => ∃ l, r = out ++ l ∧ Seq nx (used u) l
  | .two u out _ _ _, r => ∃ l, r = out ++ l ∧ Seq nx (used u) l
  | .three u0 _ out _ _ _, r => ∃ l, r = out ++ l ∧ Seq nx (used u0) l

noncomputable def refAt (nx : List (List Int)) (k : Nat) : RS → Option (List (List Int))
  | .one u out i => runnelref13_Components.l1 k (nx.length : Int) (tabOf nx nx.length) u out (i : Int)
  | .two u out i g j => runnelref13_Components.l2 k (nx.length : Int) (tabOf nx nx.length) u out (i : Int) g (j : Int)
  | .three _ u out i cc j => runnelref13_Components.l3 k (nx.length : Int) (tabOf nx nx.length) u out (i : Int) cc (j : Int)

def refM (nx : List (List Int)) : RS → Nat
  | .one u _ i => load (fun _ => 1) u nx.length * 17592186044416 + (nx.length - i) * 2097152 + 1
  | .two u _ i _ j => load (fun _ => 1) u nx.length * 17592186044416 + (nx.length - i) * 2097152 - j
  | .three _ u _ i _ j => load (fun _ => 1) (u.set i true) nx.length * 17592186044416 + 4398046511104 - j

theorem load_mono (w : Nat → Nat) {m m' : List Bool} : ∀ n, (∀ a, a < n → m.getD a false = true → m'.getD a false = true) → load w m' n ≤ load w m n
  | 0, _ => by simp [load]
  | n + 1, h => by
    have ih := load_mono w n (fun a ha => h a (by omega))
    simp only [load]
    by_cases h1 : m.getD n false = true
    · rw [if_pos h1, if_pos (h n (by omega) h1)]; omega
    · rw [if_neg h1]
      split <;> omega

theorem used_out {u : List Bool} {a : Nat} (h : u.length ≤ a) : ¬ used u a := by
  unfold used
  rw [List.getD_eq_getElem?_getD, List.getElem?_eq_none h]; simp

theorem ref_from (nx : List (List Int)) (hN : nx.length < 1048576) : ∀ s, RInv nx s → ∃ k r, refAt nx k s = some r ∧ RPost nx s r := by
  have hrd : ∀ (i : Int), rd_L3 (tabOf nx nx.length) i = (tabOf nx nx.length).getD i.toNat [] := fun i => rfl
  have hro : ∀ (l : List Bool) (z : Nat), rdOf false l (z : Int) = l.getD z false := fun l z => by simp [rdOf]
  have htl : (tabOf nx nx.length).length = nx.length := by simp [tabOf]
  have hml : ∀ i : Nat, (marksOf nx [(i : Int)]).length = nx.length := fun i => (marksOf_ok nx [(i : Int)]).len
  refine loop_ends (refAt nx) (RInv nx) (RPost nx) (refM nx) ?_
  rintro (⟨u, out, i⟩ | ⟨u, out, i, g, j⟩ | ⟨u0, u, out, i, cc, j⟩) hI
  · obtain ⟨hC, hi, hno⟩ := hI
    have hul := hC.len
    by_cases hlt : i < nx.length
    · by_cases hu : u.getD i false = true
      · refine .inr ⟨.one u out (i + 1), ⟨hC, hlt, fun a ha h1 => ?_⟩, by simp only [refM]; omega, fun k r hk hp => ⟨k + 1, ?_, hp⟩⟩
        · by_cases e : a = i
          · subst e; exact absurd hu h1
          · exact hno a (by omega) h1
        · simp only [refAt] at hk ⊢
          simp only [runnelref13_Components.l1]
          rw [if_pos (by omega), if_pos (by omega), if_pos (by omega), hro, if_pos hu, wrap_nat (by omega)]
          exact hk
      · refine .inr ⟨.two u out i true 0, ⟨hC, hlt, by omega, hu, hno, by simp⟩, by simp only [refM]; omega, fun k r hk hp => ⟨k + 1, ?_, hp⟩⟩
        simp only [refAt] at hk ⊢
        simp only [runnelref13_Components.l1]
        rw [if_pos (by omega), if_pos (by omega), if_pos (by omega), hro, if_neg hu]
        exact hk
    · refine .inl ⟨1, out, ?_, [], by simp, .nil fun a ha => ?_⟩
      · simp only [refAt, runnelref13_Components.l1]
        rw [if_neg (by omega)]
      · by_cases hu : used u a
        · exact hu
        · exfalso
          obtain ⟨z, h1, h2, h3, _⟩ := free_ex (U := used u) (rank nx a) a (Nat.le_refl _) ha hu
          exact hno z (by omega) h2 h3
  · obtain ⟨hC, hi, hj, hnu, hno, hg⟩ := hI
    have hul := hC.len
    by_cases hlt : j < nx.length
    · have hstep : ∀ g', (g' = true ↔ (∀ b, b < j + 1 → Rt nx i b → ¬ used u b → Rt nx b i)) → RInv nx (.two u out i g' (j + 1)) := fun g' h => ⟨hC, hi, hlt, hnu, hno, h⟩
      have hsucc : (∀ b, b < j + 1 → Rt nx i b → ¬ used u b → Rt nx b i) ↔ ((∀ b, b < j → Rt nx i b → ¬ used u b → Rt nx b i) ∧ (Rt nx i j → ¬ used u j → Rt nx j i)) := by
        constructor
        · intro h; exact ⟨fun b hb => h b (by omega), h j (by omega)⟩
        · rintro ⟨h1, h2⟩ b hb
          by_cases e : b = j
          · subst e; exact h2
          · exact h1 b (by omega)
      have hm : refM nx (.two u out i g (j + 1)) < refM nx (.two u out i g j) := by simp only [refM]; omega
      cases g with
      | false =>
        refine .inr ⟨.two u out i false (j + 1), hstep false (by rw [hsucc, ← hg]; simp), by simp only [refM]; omega, fun k r hk hp => ⟨k + 1, ?_, hp⟩⟩
        simp only [refAt] at hk ⊢
        simp only [runnelref13_Components.l2]
        rw [if_pos (by omega), if_neg (by decide), wrap_nat (by omega)]
        exact hk
      | true =>
        have hg1 := hg.1 rfl
        by_cases hu : u.getD j false = true
        · refine .inr ⟨.two u out i true (j + 1), hstep true (by rw [hsucc]; exact ⟨fun _ => ⟨hg1, fun _ h => absurd hu h⟩, fun _ => rfl⟩), by simp only [refM]; omega, fun k r hk hp => ⟨k + 1, ?_, hp⟩⟩
          simp only [refAt] at hk ⊢
          simp only [runnelref13_Components.l2]
          rw [if_pos (by omega), if_pos trivial, if_pos (by omega), if_pos (by omega), hro, if_pos hu, wrap_nat (by omega)]
          exact hk
        · by_cases h1 : (marksOf nx [(i : Int)]).getD j false = true
          · refine .inr ⟨.two u out i ((marksOf nx [(j : Int)]).getD i false) (j + 1), hstep _ (by
              rw [hsucc, tab_at hlt hi]
              exact ⟨fun h => ⟨hg1, fun _ _ => h⟩, fun h => h.2 ((tab_at hi hlt).1 h1) hu⟩), by simp only [refM]; omega, fun k r hk hp => ⟨k + 1, ?_, hp⟩⟩
            simp only [refAt] at hk ⊢
            simp only [runnelref13_Components.l2, hrd, Int.toNat_natCast, tab_row hi, tab_row hlt, hro]
            have e1 := hml i
            have e2 := hml j
            rw [if_pos (by omega), if_pos trivial, if_pos (by omega), if_pos (by omega), if_neg hu, if_pos (by omega), if_pos (by omega), if_pos (by omega), if_pos h1, if_pos (by omega), if_pos (by omega), wrap_nat (by omega)]
            exact hk
          · refine .inr ⟨.two u out i true (j + 1), hstep true (by rw [hsucc]; exact ⟨fun _ => ⟨hg1, fun h => absurd ((tab_at hi hlt).2 h) h1⟩, fun _ => rfl⟩), by simp only [refM]; omega, fun k r hk hp => ⟨k + 1, ?_, hp⟩⟩
            simp only [refAt] at hk ⊢
            simp only [runnelref13_Components.l2, hrd, Int.toNat_natCast, tab_row hi, hro]
            have e1 := hml i
            rw [if_pos (by omega), if_pos trivial, if_pos (by omega), if_pos (by omega), if_neg hu, if_pos (by omega), if_pos (by omega), if_pos (by omega), if_neg h1, wrap_nat (by omega)]
            exact hk
    · have hfree : (∀ b, b < j → Rt nx i b → ¬ used u b → Rt nx b i) ↔ Free nx (used u) i := by
        constructor
        · intro h b hb hu; exact h b (by have := hb.lt hi; omega) hb hu
        · intro h b _ hb hu; exact h b hb hu
      rw [hfree] at hg
      have hu0 : u.getD i false = false := by
        cases h : u.getD i false with
        | false => rfl
        | true => exact absurd h hnu
      have hL := load_set (fun _ => 1) u i (by omega) hu0 nx.length
      rw [if_pos hi] at hL
      cases g with
      | true =>
        refine .inr ⟨.three u u out i [] 0, ⟨hC, hul, by omega, ⟨hi, hnu, hg.1 rfl, hno⟩, by simp [clsTo], fun a _ => by simp⟩, by simp only [refM]; omega, fun k r hk hp => ⟨k + 1, ?_, hp⟩⟩
        simp only [refAt] at hk ⊢
        simp only [runnelref13_Components.l2]
        rw [if_neg (by omega), if_pos trivial]
        exact hk
      | false =>
        refine .inr ⟨.one u out (i + 1), ⟨hC, hi, fun a ha h1 h2 => ?_⟩, by simp only [refM]; omega, fun k r hk hp => ⟨k + 1, ?_, hp⟩⟩
        · by_cases e : a = i
          · subst e; have := hg.2 h2; simp at this
          · exact hno a (by omega) h1 h2
        · simp only [refAt] at hk ⊢
          simp only [runnelref13_Components.l2]
          rw [if_neg (by omega), if_neg (by decide), wrap_nat (by omega)]
          exact hk
  · obtain ⟨hC, hul, hj, hn, hcc, hu⟩ := hI
    have hi := hn.lt
    have hcl : cc.length ≤ j := by
      rw [hcc]; unfold clsTo
      rw [List.length_map]
      exact Nat.le_trans (List.length_filter_le _ _) (by simp)
    by_cases hlt : j < nx.length
    · have e1 := hml i
      have e2 := hml j
      by_cases hm : Rt nx i j ∧ Rt nx j i
      · have hc2 : clsTo nx i (j + 1) = cc ++ [(j : Int)] := by
          rw [hcc]; unfold clsTo
          rw [List.range_succ, List.filter_append, List.filter_cons_of_pos (by simpa using hm)]; simp
        refine .inr ⟨.three u0 (u.set j true) out i (cc ++ [(j : Int)]) (j + 1), ⟨hC, by simpa using hul, hlt, hn, hc2.symm, fun a ha => ?_⟩, ?_, fun k r hk hp => ⟨k + 2, ?_, hp⟩⟩
        · unfold used
          rw [getD_set_b u j (by omega)]
          by_cases e : a = j
          · subst e; rw [if_pos rfl]; exact ⟨fun _ => .inr ⟨by omega, hm⟩, fun _ => rfl⟩
          · rw [if_neg e]
            have := hu a ha
            unfold used at this
            rw [this]
            constructor
            · rintro (h1 | ⟨h1, h2⟩)
              · exact .inl h1
              · exact .inr ⟨by omega, h2⟩
            · rintro (h1 | ⟨h1, h2⟩)
              · exact .inl h1
              · exact .inr ⟨by omega, h2⟩
        · simp only [refM]
          have := load_mono (fun _ => 1) (m := u.set i true) (m' := (u.set j true).set i true) nx.length (fun a ha h1 => by
            rw [getD_set_b _ _ (by omega)] at h1
            rw [getD_set_b _ _ (by simp; omega), getD_set_b _ _ (by omega)]
            by_cases e3 : a = i
            · rw [if_pos e3]
            · rw [if_neg e3] at h1 ⊢
              by_cases e4 : a = j
              · rw [if_pos e4]
              · rw [if_neg e4]; exact h1)
          omega
        · simp only [refAt] at hk ⊢
          simp only [runnelref13_Components.l3, runnelref13_Components.j4, hrd, Int.toNat_natCast, tab_row hi, tab_row hlt, hro]
          rw [if_pos (by omega), if_pos (by omega), if_pos (by omega), if_pos (by omega), if_pos (by omega), if_pos ((tab_at hi hlt).2 hm.1), if_pos (by omega), if_pos (by omega), if_pos ((tab_at hlt hi).2 hm.2), if_pos (by omega), if_pos (by omega), if_pos (by omega), wrap_nat (by omega)]
          exact hk
      · have hc2 : clsTo nx i (j + 1) = cc := by
          rw [hcc]; unfold clsTo
          rw [List.range_succ, List.filter_append, List.filter_cons_of_neg (by simpa using hm)]; simp
        refine .inr ⟨.three u0 u out i cc (j + 1), ⟨hC, hul, hlt, hn, hc2.symm, fun a ha => ?_⟩, by simp only [refM]; omega, fun k r hk hp => ⟨k + 2, ?_, hp⟩⟩
        · rw [hu a ha]
          constructor
          · rintro (h1 | ⟨h1, h2⟩)
            · exact .inl h1
            · exact .inr ⟨by omega, h2⟩
          · rintro (h1 | ⟨h1, h2⟩)
            · exact .inl h1
            · by_cases e : a = j
              · subst e; exact absurd h2 hm
              · exact .inr ⟨by omega, h2⟩
        · simp only [refAt] at hk ⊢
          simp only [runnelref13_Components.l3, runnelref13_Components.j4, hrd, Int.toNat_natCast, tab_row hi, tab_row hlt, hro]
          rw [if_pos (by omega), if_pos (by omega), if_pos (by omega), if_pos (by omega), if_pos (by omega)]
          by_cases h1 : (marksOf nx [(i : Int)]).getD j false = true
          · rw [if_pos h1, if_pos (by omega), if_pos (by omega), if_neg (fun h2 => hm ⟨(tab_at hi hlt).1 h1, (tab_at hlt hi).1 h2⟩), wrap_nat (by omega)]
            exact hk
          · rw [if_neg h1]
            simp only [Bool.false_eq_true, if_false]
            rw [wrap_nat (by omega)]
            exact hk
    · obtain rfl : j = nx.length := by omega
      have hcc2 : cc = cls nx i := by rw [hcc]; unfold clsTo cls; rfl
      have hul0 := hC.len
      have hi0 : u0.getD i false = false := by
        cases h : u0.getD i false with
        | false => rfl
        | true => exact absurd h hn.new
      have hL := load_set (fun _ => 1) u0 i (by omega) hi0 nx.length
      rw [if_pos hi] at hL
      have hui : used u i := (hu i hi).2 (.inr ⟨hi, .refl i, .refl i⟩)
      have hM := load_mono (fun _ => 1) (m := u0.set i true) (m' := u) nx.length (fun a ha h1 => by
        rw [getD_set_b _ _ (by omega)] at h1
        by_cases e : a = i
        · subst e; exact hui
        · rw [if_neg e] at h1; exact (hu a ha).2 (.inl h1))
      have hM2 := load_mono (fun _ => 1) (m := u.set i true) (m' := u) nx.length (fun a ha h1 => by
        rw [getD_set_b _ _ (by omega)] at h1
        by_cases e : a = i
        · subst e; exact hui
        · rw [if_neg e] at h1; exact h1)
      have hfew := hC.few
      refine .inr ⟨.one u (out ++ [cc]) 0, ⟨⟨hul, by rw [List.length_append, List.length_singleton]; omega⟩, by omega, fun a ha => by omega⟩, by simp only [refM]; omega, fun k r hk hp => ⟨k + 1, ?_, ?_⟩⟩
      · simp only [refAt] at hk ⊢
        simp only [runnelref13_Components.l3]
        rw [if_neg (by omega), if_pos (by omega)]
        exact hk
      · obtain ⟨l, p1, p2⟩ := hp
        refine ⟨cc :: l, by rw [p1]; simp, ?_⟩
        rw [hcc2]
        refine .cons hn ?_
        have : used u = fun a => used u0 a ∨ (a : Int) ∈ cls nx i := by
          funext a
          apply propext
          by_cases ha : a < nx.length
          · rw [hu a ha, cls_mem]
          · constructor
            · intro h1; exact absurd h1 (used_out (by omega))
            · rintro (h1 | h1)
              · exact absurd h1 (used_out (by omega))
              · exact absurd (cls_mem.1 h1).1 ha
        rw [← this]; exact p2

theorem tab_from (nx : List (List Int)) (hN : nx.length < 1048576) (hrow : ∀ a : Nat, (nx.getD a []).length < 1048576) :
    ∀ i : Nat, i ≤ nx.length → ∃ k r, runnelref13_Components.l0 k nx (nx.length : Int) (tabOf nx i) (i : Int) = some r ∧ Seq nx (fun _ => False) r := by
  refine loop_ends (fun k (i : Nat) => runnelref13_Components.l0 k nx (nx.length : Int) (tabOf nx i) (i : Int)) (fun i => i ≤ nx.length) (fun _ r => Seq nx (fun _ => False) r) (fun i => nx.length - i) ?_
  intro i hi
  by_cases hlt : i < nx.length
  · obtain ⟨k1, e1⟩ := marks_ev nx [(i : Int)] hN hrow (by simp)
    have htl : (tabOf nx i).length = i := by simp [tabOf]
    have hts : tabOf nx (i + 1) = tabOf nx i ++ [marksOf nx [(i : Int)]] := by simp [tabOf, List.range_succ]
    refine .inr ⟨i + 1, hlt, by omega, fun k r hk hp => ⟨max k k1 + 1, ?_, hp⟩⟩
    simp only [runnelref13_Components.l0]
    rw [if_pos (by omega), at_rounds (runnelref13_marks.mono nx _) (Nat.le_max_right k k1) e1]
    simp only [Option.bind_some]
    rw [if_pos (by omega), wrap_nat (by omega), ← hts]
    exact at_rounds (g := fun j => runnelref13_Components.l0 j nx (nx.length : Int) (tabOf nx (i + 1)) ((i + 1 : Nat) : Int)) (fun j => (runnelref13_Components.mono_l j).1 _ _ _ _) (Nat.le_max_left k k1) hk
  · obtain rfl : i = nx.length := by omega
    have hz : load (fun _ => 1) (List.replicate nx.length false) nx.length ≤ nx.length * 1 := load_le _ _ 1 (fun _ => Nat.le_refl _) _
    obtain ⟨k, r, h1, l, h2, h3⟩ := ref_from nx hN (.one (List.replicate nx.length false) [] 0) ⟨⟨by simp, by simpa using hz⟩, by omega, fun a ha => by omega⟩
    rw [List.nil_append] at h2
    subst h2
    refine .inl ⟨k + 1, r, ?_, ?_⟩
    · simp only [runnelref13_Components.l0]
      rw [if_neg (by omega), if_pos (by omega), if_pos (by omega)]
      simpa [refAt] using h1
    · have : used (List.replicate nx.length false) = fun _ => False := by
        funext a; apply propext; unfold used; rw [replicate_getD]; simp
      rw [← this]; exact h3

theorem refComps_ev (nx : List (List Int)) (hN : nx.length < 1048576) (hrow : ∀ a : Nat, (nx.getD a []).length < 1048576) : ∃ k L, runnelref13_Components.f k nx = some L ∧ Seq nx (fun _ => False) L := by
  obtain ⟨k, r, h1, h2⟩ := tab_from nx hN hrow 0 (by omega)
  exact ⟨k, r, by unfold runnelref13_Components.f; simpa [tabOf] using h1, h2⟩
end Go.Proofs.Ytkgkhakjodlpgaa.C
