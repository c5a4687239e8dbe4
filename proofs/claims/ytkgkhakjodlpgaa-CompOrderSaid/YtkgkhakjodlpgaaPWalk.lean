/- The program's walk marks what is come to. -/
import Derived.Test.YtkgkhakjodlpgaaPFrom
import Derived.Test.YtkgkhakjodlpgaaC13
namespace Go.Proofs.Ytkgkhakjodlpgaa.C
open Go.RowKit Go.Proofs.YtkgkhakjodlpgaaW.PrintWords Go.Proofs.Ytkgkhakjodlpgaa.Ext Go.Proofs.Ytkgkhakjodlpgaa.Ca

theorem wrap_dec {n : Nat} (h0 : 0 < n) (h1 : n < 4611686018427387904) : wrap64 ((n : Int) - 1) = ((n - 1 : Nat) : Int) := by unfold wrap64; omega

theorem walk_from (nx : List (List Int)) (l : List Int) (_hN : nx.length < 1048576) (hrow : ∀ a : Nat, (nx.getD a []).length < 1048576) :
    ∀ s : List Bool × List Int, (s.1.length = nx.length ∧ (∀ b, b < nx.length → s.1.getD b false = true → From nx l b) ∧ (∀ x ∈ s.2, ∃ b : Nat, x = (b : Int) ∧ b < nx.length ∧ From nx l b) ∧
      (∀ a : Nat, (a : Int) ∈ l → a < nx.length → s.1.getD a false = true ∨ (a : Int) ∈ s.2) ∧ (∀ a b : Nat, a < nx.length → s.1.getD a false = true → Ed nx a b → s.1.getD b false = true ∨ (b : Int) ∈ s.2) ∧
      s.2.length + load (fun a => (nx.getD a []).length + 1) s.1 nx.length < 8796093022208) →
    ∃ k r, comp_walk.l0 k nx s.1 s.2 = some r ∧ Marks nx l r := by
  refine loop_ends (fun k (s : List Bool × List Int) => comp_walk.l0 k nx s.1 s.2) _ (fun _ r => Marks nx l r) (fun s => s.2.length + load (fun a => (nx.getD a []).length + 1) s.1 nx.length) ?_
  rintro ⟨m, left⟩ ⟨hl, hs, hq, hc, he, hb⟩
  dsimp only at hl hs hq hc he hb ⊢
  rcases List.eq_nil_or_concat left with rfl | ⟨init, x, rfl⟩
  · refine .inl ⟨1, m, by simp [comp_walk.l0], ⟨hl, fun b hb => ⟨hs b hb, fun ⟨a, h1, h2, h3⟩ => ?_⟩⟩⟩
    have hcl := h3.closed (S := fun z => z < nx.length ∧ m.getD z false = true) (fun p q hp hpq => ⟨hpq.2.1, by simpa using he p q hp.1 hp.2 hpq⟩) ⟨h2, by simpa using hc a h1 h2⟩
    exact hcl.2
  · rw [List.concat_eq_append] at hq hb ⊢
    simp only [List.concat_eq_append] at hc he
    obtain ⟨b, rfl, hbN, hbF⟩ := hq x (by simp)
    have hlen : ((init ++ [(b : Int)]).length : Int) = ((init.length + 1 : Nat) : Int) := by simp
    have hin : init.length + 1 < 4611686018427387904 := by simp at hb; omega
    have hw : wrap64 (((init ++ [(b : Int)]).length : Int) - 1) = (init.length : Int) := by rw [hlen, wrap_dec (by omega) hin]; simp
    have hrd : rd (init ++ [(b : Int)]) (init.length : Int) = (b : Int) := by simp [rd, List.getD_eq_getElem?_getD]
    have htk : (init ++ [(b : Int)]).take (init.length : Int).toNat = init := by simp
    by_cases hm : m.getD b false = true
    · refine .inr ⟨(m, init), ⟨hl, hs, fun x hx => hq x (by simp [hx]), fun a h1 h2 => ?_, fun a c h1 h2 h3 => ?_, by simp at hb ⊢; omega⟩, by simp, fun k r hk hp => ⟨k + 1, ?_, hp⟩⟩
      · rcases hc a h1 h2 with h | h
        · exact .inl h
        · rcases List.mem_append.1 h with h | h
          · exact .inr h
          · obtain rfl : _ = b := Int.ofNat_inj.1 (List.mem_singleton.1 h); exact .inl hm
      · rcases he a c h1 h2 h3 with h | h
        · exact .inl h
        · rcases List.mem_append.1 h with h | h
          · exact .inr h
          · obtain rfl : _ = b := Int.ofNat_inj.1 (List.mem_singleton.1 h); exact .inl hm
      · dsimp only at hk
        simp only [comp_walk.l0]
        rw [if_pos (by rw [hlen]; omega), hw, if_pos (by omega), if_pos (by rw [hlen]; omega), if_pos (by rw [hlen]; omega), htk, hrd]
        simp only [Option.bind_some]
        rw [if_pos (by omega), if_pos (by omega), if_pos (by simpa [rdOf] using hm)]
        exact hk
    · have hm0 : m.getD b false = false := by simpa using hm
      have hL := load_set (fun a => (nx.getD a []).length + 1) m b (by omega) hm0 nx.length
      rw [if_pos hbN] at hL
      have hA : (afterL nx (b : Int)).length ≤ (nx.getD b []).length := by unfold afterL; rw [Int.toNat_natCast]; exact List.length_filter_le _ _
      have hbl : init.length + 1 + load (fun a => (nx.getD a []).length + 1) m nx.length < 8796093022208 := by simpa using hb
      refine .inr ⟨(m.set b true, init ++ afterL nx (b : Int)), ⟨by simpa using hl, fun c h1 h2 => ?_, fun x hx => ?_, fun a h1 h2 => ?_, fun a c h1 h2 h3 => ?_, ?_⟩, ?_, fun k r hk hp => ?_⟩
      · dsimp only at h2
        rw [getD_set_b m b (by omega)] at h2
        by_cases e : c = b
        · subst e; exact hbF
        · rw [if_neg e] at h2; exact hs c h1 h2
      · rcases List.mem_append.1 hx with h | h
        · exact hq x (by simp [h])
        · obtain ⟨c, rfl, hc⟩ := (mem_afterL hbN).1 h
          obtain ⟨a, h1, h2, h3⟩ := hbF
          exact ⟨c, rfl, hc.2.1, a, h1, h2, .step h3 hc⟩
      · dsimp only
        rw [getD_set_b m b (by omega)]
        by_cases e : a = b
        · exact .inl (by simp [e])
        · rw [if_neg e]
          rcases hc a h1 h2 with h | h
          · exact .inl h
          · rcases List.mem_append.1 h with h | h
            · exact .inr (by simp [h])
            · exact absurd (Int.ofNat_inj.1 (List.mem_singleton.1 h)) e
      · dsimp only at h2 ⊢
        rw [getD_set_b m b (by omega)] at h2 ⊢
        by_cases e : c = b
        · exact .inl (by simp [e])
        · rw [if_neg e]
          by_cases e2 : a = b
          · subst e2
            exact .inr (List.mem_append_right _ ((mem_afterL hbN).2 ⟨c, rfl, h3⟩))
          · rw [if_neg e2] at h2
            rcases he a c h1 h2 h3 with h | h
            · exact .inl h
            · rcases List.mem_append.1 h with h | h
              · exact .inr (by simp [h])
              · exact absurd (Int.ofNat_inj.1 (List.mem_singleton.1 h)) e
      · simp only [List.length_append]; omega
      · simp only [List.length_append, List.length_cons, List.length_nil]; omega
      · dsimp only at hk
        have hafter := after_eq nx (b : Int) (by omega) (by omega) (by rw [Int.toNat_natCast]; have := hrow b; omega)
        refine ⟨max k ((nx.getD (b : Int).toNat []).length + 1) + 1, ?_, hp⟩
        have e1 := at_rounds (comp_after.mono nx (b : Int)) (Nat.le_max_right k _) hafter
        have e2 := at_rounds (g := fun j => comp_walk.l0 j nx (m.set b true) (init ++ afterL nx (b : Int))) (fun j => comp_walk.mono_l j _ _ _) (Nat.le_max_left k ((nx.getD (b : Int).toNat []).length + 1)) hk
        simp only [comp_walk.l0]
        rw [if_pos (by rw [hlen]; omega), hw, if_pos (by omega), if_pos (by rw [hlen]; omega), if_pos (by rw [hlen]; omega), htk, hrd]
        simp only [Option.bind_some]
        rw [if_pos (by omega), if_pos (by omega), if_neg (by simpa [rdOf] using hm), e1]
        simp only [Option.bind_some]
        rw [if_pos (by omega)]
        simpa using e2

theorem walk_ev (nx : List (List Int)) (l : List Int) (hN : nx.length < 1048576) (hrow : ∀ a : Nat, (nx.getD a []).length < 1048576) (hl : l.length < 1099511627776) (hin : ∀ x ∈ l, ∃ b : Nat, x = (b : Int) ∧ b < nx.length) :
    ∃ k, comp_walk.f k nx l = some (marksOf nx l) := by
  have hw := load_le (fun a => (nx.getD a []).length + 1) (List.replicate nx.length false) 1048576 (fun a => hrow a) nx.length
  have : nx.length * 1048576 ≤ 1048576 * 1048576 := Nat.mul_le_mul (by omega) (Nat.le_refl _)
  obtain ⟨k, r, h1, h2⟩ := walk_from nx l hN hrow (List.replicate nx.length false, l) ⟨by simp, fun b _ h => by rw [replicate_getD] at h; simp at h, fun x hx => by
    obtain ⟨b, rfl, hb⟩ := hin x hx
    exact ⟨b, rfl, hb, b, hx, hb, .refl b⟩, fun a h1 _ => .inr h1, fun a b _ h => by rw [replicate_getD] at h; simp at h, by dsimp only; omega⟩
  refine ⟨k, ?_⟩
  rw [h2.uniq (marksOf_ok nx l)] at h1
  unfold comp_walk.f
  rw [if_pos (by omega), if_pos (by omega), show slices_Clone_int.f l = some l from if_pos (by omega)]
  simpa using h1

theorem reach_l0 (m : List Bool) (hm : m.length < 1048576) (d : Nat) : ∀ (k i : Nat) (acc : List Int), i + d = m.length → d < k → acc.length ≤ i →
    comp_Reach.l0 k acc m (m.length : Int) (i : Int) = some (acc ++ tailOf m i d) := by
  induction d with
  | zero =>
    intro k i acc h1 h2 h3
    obtain ⟨k, rfl⟩ : ∃ m, k = m + 1 := ⟨k - 1, by omega⟩
    simp only [comp_Reach.l0]
    rw [if_neg (by omega)]; simp [tailOf]
  | succ d ih =>
    intro k i acc h1 h2 h3
    obtain ⟨k, rfl⟩ : ∃ m, k = m + 1 := ⟨k - 1, by omega⟩
    simp only [comp_Reach.l0]
    rw [if_pos (by omega), if_pos (by omega), if_pos (by omega), wrap_nat (by omega)]
    have hro : rdOf false m (i : Int) = m.getD i false := by simp [rdOf]
    rw [hro]
    by_cases c : m.getD i false = true
    · rw [if_pos c, if_pos (by omega), ih k (i + 1) _ (by omega) (by omega) (by simp; omega)]
      simp only [tailOf, List.range'_succ]
      rw [List.filter_cons_of_pos (by simpa using c)]; simp
    · rw [if_neg c, ih k (i + 1) _ (by omega) (by omega) (by omega)]
      simp only [tailOf, List.range'_succ]
      rw [List.filter_cons_of_neg (by simpa using c)]

theorem reach_ev (nx : List (List Int)) (a : Int) (hN : nx.length < 1048576) (hrow : ∀ a : Nat, (nx.getD a []).length < 1048576) : ∃ k, comp_Reach.f k nx a = some (listOf (marksOf nx [a])) := by
  by_cases h : 0 ≤ a ∧ a < (nx.length : Int)
  · obtain ⟨b, rfl⟩ := Int.eq_ofNat_of_zero_le h.1
    obtain ⟨k1, h1⟩ := walk_ev nx [(b : Int)] hN hrow (by simp) (fun x hx => ⟨b, List.mem_singleton.1 hx, by omega⟩)
    have hlen := (marksOf_ok nx [(b : Int)]).len
    refine ⟨max k1 (nx.length + 1) + 1, ?_⟩
    unfold comp_Reach.f
    rw [if_neg (by omega)]
    simp only [comp_Reach.j0]
    rw [if_neg (by simp; omega), at_rounds (comp_walk.mono nx _) (Nat.le_max_left k1 (nx.length + 1)) h1]
    simp only [Option.bind_some]
    have := reach_l0 (marksOf nx [(b : Int)]) (by omega) nx.length (max k1 (nx.length + 1)) 0 [] (by omega) (by omega) (by simp)
    rw [← listOf_eq, hlen]
    rw [hlen] at this
    simpa using this
  · refine ⟨1, ?_⟩
    rw [listOf_none nx [a] (from_out h)]
    unfold comp_Reach.f
    by_cases h0 : a < 0
    · rw [if_pos h0]; simp [comp_Reach.j0]
    · rw [if_neg h0]; simp only [comp_Reach.j0]; rw [if_pos (by simp; omega)]

def bothOf (m1 m2 : List Bool) (a b : Int) : Bool := m1.getD b.toNat false && m2.getD a.toNat false

/-- Two nodes that there are. -/
def Two (nx : List (List Int)) (a b : Int) : Prop := 0 ≤ a ∧ a < (nx.length : Int) ∧ 0 ≤ b ∧ b < (nx.length : Int)

theorem both_ev (nx : List (List Int)) (a b : Int) (hN : nx.length < 1048576) (hrow : ∀ a : Nat, (nx.getD a []).length < 1048576) (h : Two nx a b) : ∃ k, comp_Both.f k nx a b = some (bothOf (marksOf nx [a]) (marksOf nx [b]) a b) := by
  obtain ⟨h1, h2, h3, h4⟩ := h
  have la := (marksOf_ok nx [a]).len
  have lb := (marksOf_ok nx [b]).len
  obtain ⟨k1, e1⟩ := walk_ev nx [a] hN hrow (by simp) (fun x hx => ⟨a.toNat, by have := List.mem_singleton.1 hx; omega, by omega⟩)
  obtain ⟨k2, e2⟩ := walk_ev nx [b] hN hrow (by simp) (fun x hx => ⟨b.toNat, by have := List.mem_singleton.1 hx; omega, by omega⟩)
  refine ⟨max k1 k2 + 1, ?_⟩
  unfold comp_Both.f
  rw [if_neg (by omega), if_neg (by omega), if_neg (by omega)]
  simp only [comp_Both.j0]
  rw [if_neg (by simp; omega), at_rounds (comp_walk.mono nx [a]) (Nat.le_max_left k1 k2) e1]
  simp only [Option.bind_some]
  rw [if_pos h3, if_pos (by omega), at_rounds (comp_walk.mono nx [b]) (Nat.le_max_right k1 k2) e2]
  simp only [Option.bind_some]
  by_cases c : (marksOf nx [a]).getD b.toNat false = true
  · rw [if_pos (by exact c), if_pos h1, if_pos (by omega)]; unfold bothOf rdOf; rw [c]; simp
  · rw [if_neg (by exact c)]; unfold bothOf; rw [show (marksOf nx [a]).getD b.toNat false = false by simpa using c]; simp

theorem from_after {nx : List (List Int)} {a : Nat} (ha : a < nx.length) (b : Nat) : From nx (afterL nx (a : Int)) b ↔ From nx (nx.getD a []) b := by
  constructor
  · rintro ⟨c, h1, h2, h3⟩
    obtain ⟨d, hd, he⟩ := (mem_afterL ha).1 h1
    obtain rfl := Int.ofNat_inj.1 hd
    exact ⟨c, he.2.2, h2, h3⟩
  · rintro ⟨c, h1, h2, h3⟩
    exact ⟨c, (mem_afterL ha).2 ⟨c, rfl, ha, h2, h1⟩, h2, h3⟩

theorem marks_after {nx : List (List Int)} {a : Nat} (ha : a < nx.length) : marksOf nx (afterL nx (a : Int)) = marksOf nx (nx.getD a []) := by
  unfold marksOf
  refine List.map_congr_left fun b _ => ?_
  rw [from_after ha b]

theorem cyclic_ev (nx : List (List Int)) (a : Nat) (ha : a < nx.length) (hN : nx.length < 1048576) (hrow : ∀ a : Nat, (nx.getD a []).length < 1048576) : ∃ k, comp_Cyclic.f k nx (a : Int) = some ((marksOf nx (nx.getD a [])).getD a false) := by
  have hA : (afterL nx (a : Int)).length ≤ (nx.getD a []).length := by unfold afterL; rw [Int.toNat_natCast]; exact List.length_filter_le _ _
  have hr := hrow a
  have la := (marksOf_ok nx (afterL nx (a : Int))).len
  have e1 := after_eq nx (a : Int) (by omega) (by omega) (by rw [Int.toNat_natCast]; omega)
  obtain ⟨k2, e2⟩ := walk_ev nx (afterL nx (a : Int)) hN hrow (by omega) (fun x hx => by
    obtain ⟨b, rfl, hb⟩ := (mem_afterL ha).1 hx
    exact ⟨b, rfl, hb.2.1⟩)
  refine ⟨max ((nx.getD (a : Int).toNat []).length + 1) k2, ?_⟩
  unfold comp_Cyclic.f
  rw [if_pos (by omega), if_pos (by omega), at_rounds (comp_after.mono nx (a : Int)) (Nat.le_max_left _ k2) e1]
  simp only [Option.bind_some]
  rw [at_rounds (comp_walk.mono nx _) (Nat.le_max_right _ k2) e2]
  simp only [Option.bind_some]
  rw [if_pos (by omega), if_pos (by omega), marks_after ha]
  simp [rdOf]
end Go.Proofs.Ytkgkhakjodlpgaa.C
