/- The law of the other way round, of what is printed of it. -/
import Derived.Test.YtkgkhakjodlpgaaPTold
import Derived.Test.YtkgkhakjodlpgaaPSmall
import Derived.Test.YtkgkhakjodlpgaaC24
namespace Go.Proofs.Ytkgkhakjodlpgaa.C
open Go.RowKit Go.Proofs.YtkgkhakjodlpgaaW.PrintWords Go.Proofs.Ytkgkhakjodlpgaa.Ext Go.Proofs.Ytkgkhakjodlpgaa.Ca Go.Proofs.Ytkgkhakjodlpgaa.Cv

/-- A graph turned round, as far as it has been gone through: the first i nodes, and the first j edges of the next one. -/
structure BackTo (nx bk : List (List Int)) (i j : Nat) : Prop where
  len : bk.length = nx.length
  is : ∀ n : Nat, n < nx.length → ∀ x, x ∈ bk.getD n [] ↔ (∃ a : Nat, x = (a : Int) ∧ a < i ∧ (n : Int) ∈ nx.getD a []) ∨ (x = (i : Int) ∧ (n : Int) ∈ (nx.getD i []).take j)
  few : ∀ n : Nat, (bk.getD n []).length ≤ i * 60 + j

theorem getD_setB (m : List (List Int)) (x : Nat) (v : List Int) (hx : x < m.length) (a : Nat) : (m.set x v).getD a [] = (if a = x then v else m.getD a []) := by
  simp only [List.getD_eq_getElem?_getD, List.getElem?_set]
  by_cases h : x = a
  · subst h; simp [hx]
  · rw [if_neg h, if_neg (fun e => h e.symm)]

theorem back_start (nx : List (List Int)) : BackTo nx (List.replicate nx.length []) 0 0 := by
  have h : ∀ n : Nat, (List.replicate nx.length ([] : List Int)).getD n [] = [] := fun n => by
    simp only [List.getD_eq_getElem?_getD, List.getElem?_replicate]; split <;> rfl
  refine ⟨by simp, fun n _ x => ?_, fun n => ?_⟩
  · rw [h]; simp
  · rw [h]; simp

theorem back_next {nx bk : List (List Int)} {i : Nat} (hd : ∀ a : Nat, (nx.getD a []).length ≤ 60) (h : BackTo nx bk i (nx.getD i []).length) : BackTo nx bk (i + 1) 0 := by
  refine ⟨h.len, fun n hn x => ?_, fun n => ?_⟩
  · rw [h.is n hn, List.take_length]
    constructor
    · rintro (⟨a, h1, h2, h3⟩ | ⟨h1, h2⟩)
      · exact .inl ⟨a, h1, by omega, h3⟩
      · exact .inl ⟨i, h1, by omega, h2⟩
    · rintro (⟨a, h1, h2, h3⟩ | ⟨_, h2⟩)
      · by_cases e : a = i
        · subst e; exact .inr ⟨h1, h3⟩
        · exact .inl ⟨a, h1, by omega, h3⟩
      · simp at h2
  · have h1 := h.few n
    have h2 := hd i
    omega

theorem back_out {nx bk : List (List Int)} {i j : Nat} (h : BackTo nx bk i j) (hj : j < (nx.getD i []).length) (hx : ¬ (0 ≤ rd (nx.getD i []) (j : Int) ∧ rd (nx.getD i []) (j : Int) < (nx.length : Int))) : BackTo nx bk i (j + 1) := by
  refine ⟨h.len, fun n hn x => ?_, fun n => by have := h.few n; omega⟩
  rw [h.is n hn, take_more hj, List.mem_append, List.mem_singleton]
  have : ¬ (n : Int) = rd (nx.getD i []) (j : Int) := fun e => hx (by omega)
  simp only [this, or_false]

theorem back_in {nx bk : List (List Int)} {i j m : Nat} (h : BackTo nx bk i j) (hj : j < (nx.getD i []).length) (hx : rd (nx.getD i []) (j : Int) = (m : Int)) (hm : m < nx.length) : BackTo nx (bk.set m (bk.getD m [] ++ [(i : Int)])) i (j + 1) := by
  have hl := h.len
  refine ⟨by simpa using hl, fun n hn x => ?_, fun n => ?_⟩
  · rw [getD_setB _ _ _ (by omega), take_more hj, List.mem_append, List.mem_singleton, hx]
    by_cases e : n = m
    · subst e
      rw [if_pos rfl, List.mem_append, List.mem_singleton, h.is n hn]
      constructor
      · rintro ((h1 | ⟨h1, h2⟩) | h1)
        · exact .inl h1
        · exact .inr ⟨h1, .inl h2⟩
        · exact .inr ⟨h1, .inr rfl⟩
      · rintro (h1 | ⟨h1, _⟩)
        · exact .inl (.inl h1)
        · exact .inr h1
    · rw [if_neg e, h.is n hn]
      have : ¬ (n : Int) = (m : Int) := by omega
      simp only [this, or_false]
  · rw [getD_setB _ _ _ (by omega)]
    by_cases e : n = m
    · rw [if_pos e, List.length_append]
      have := h.few m
      simp only [List.length_cons, List.length_nil]
      omega
    · rw [if_neg e]
      have := h.few n
      omega

theorem back_ed {nx bk : List (List Int)} (h : BackTo nx bk nx.length 0) {a b : Nat} : Ed bk a b ↔ Ed nx b a := by
  have hl := h.len
  unfold Ed
  rw [hl]
  constructor
  · rintro ⟨h1, h2, h3⟩
    rcases (h.is a h1 _).1 h3 with ⟨c, h4, h5, h6⟩ | ⟨_, h4⟩
    · have : b = c := by omega
      subst this
      exact ⟨h2, h1, h6⟩
    · simp at h4
  · rintro ⟨h1, h2, h3⟩
    exact ⟨h2, h1, (h.is a h2 _).2 (.inl ⟨b, rfl, h1, h3⟩)⟩

theorem rt_front {nx : List (List Int)} {a b c : Nat} (e : Ed nx a b) (h : Rt nx b c) : Rt nx a c := (Rt.edge e).trans h

theorem back_rt {nx bk : List (List Int)} (h : BackTo nx bk nx.length 0) {a b : Nat} : Rt bk a b ↔ Rt nx b a := by
  constructor
  · intro h1
    induction h1 with
    | refl => exact .refl _
    | step _ e ih => exact rt_front (back_ed h |>.1 e) ih
  · intro h1
    induction h1 with
    | refl => exact .refl _
    | step _ e ih => exact rt_front (back_ed h |>.2 e) ih

theorem back_round {nx bk : List (List Int)} (h : BackTo nx bk nx.length 0) {a : Nat} : Round bk a ↔ Round nx a := by
  have one : ∀ {g : List (List Int)} {a c : Nat}, Rt g a c → Ed g c a → Round g a := fun {g a c} h1 h2 => by
    rcases rt_first h1 with rfl | ⟨d, h3, h4⟩
    · exact ⟨a, h2, .refl a⟩
    · exact ⟨d, h3, .step h4 h2⟩
  constructor
  · rintro ⟨c, h1, h2⟩; exact one ((back_rt h).1 h2) ((back_ed h).1 h1)
  · rintro ⟨c, h1, h2⟩; exact one ((back_rt h).2 h2) ((back_ed h).2 h1)

inductive KS where
  | l0 (bk : List (List Int)) (i : Nat)
  | l1 (bk : List (List Int)) (i j : Nat)

def KInv (nx : List (List Int)) : KS → Prop
  | .l0 bk i => BackTo nx bk i 0 ∧ i ≤ nx.length
  | .l1 bk i j => BackTo nx bk i j ∧ i < nx.length ∧ j ≤ (nx.getD i []).length

def kAt (nx : List (List Int)) (a b : Int) (k : Nat) : KS → Option Bool
  | .l0 bk i => runnellaw13_CompBack.l0 k nx a b bk (i : Int)
  | .l1 bk i j => runnellaw13_CompBack.l1 k nx a b bk (i : Int) (j : Int)

def kM (nx : List (List Int)) : KS → Nat
  | .l0 _ i => (nx.length - i) * 4096 + 2048
  | .l1 _ i j => (nx.length - i) * 4096 - j

theorem back_from {nx : List (List Int)} {a b : Int} (hN : nx.length ≤ 40) (hd : ∀ a : Nat, (nx.getD a []).length ≤ 60)
    (hend : ∀ bk, BackTo nx bk nx.length 0 → ∃ k, runnellaw13_CompBack.l0 k nx a b bk (nx.length : Int) = some true) :
    ∀ s, KInv nx s → ∃ k r, kAt nx a b k s = some r ∧ r = true := by
  have hrd : ∀ (l : List (List Int)) (i : Int), rd_L1 l i = l.getD i.toNat [] := fun l i => rfl
  refine loop_ends (kAt nx a b) (KInv nx) (fun _ r => r = true) (kM nx) ?_
  rintro (⟨bk, i⟩ | ⟨bk, i, j⟩) hI
  · obtain ⟨hB, hi⟩ := hI
    by_cases hlt : i < nx.length
    · refine .inr ⟨.l1 bk i 0, ⟨hB, hlt, by omega⟩, by simp only [kM]; omega, fun k r hk hp => ⟨k + 1, ?_, hp⟩⟩
      simp only [kAt] at hk ⊢
      simp only [runnellaw13_CompBack.l0]
      rw [if_pos (by omega)]
      exact hk
    · obtain rfl : i = nx.length := by omega
      obtain ⟨k, e⟩ := hend bk hB
      exact .inl ⟨k, true, e, rfl⟩
  · obtain ⟨hB, hi, hj⟩ := hI
    have hl := hB.len
    have hdi := hd i
    by_cases hlt : j < (nx.getD i []).length
    · by_cases hx : 0 ≤ rd (nx.getD i []) (j : Int) ∧ rd (nx.getD i []) (j : Int) < (nx.length : Int)
      · obtain ⟨m, hm⟩ := Int.eq_ofNat_of_zero_le hx.1
        have hB2 := back_in hB hlt hm (by omega)
        have hf := hB.few m
        refine .inr ⟨.l1 _ i (j + 1), ⟨hB2, hi, hlt⟩, by simp only [kM]; omega, fun k r hk hp => ⟨k + 2, ?_, hp⟩⟩
        simp only [kAt] at hk ⊢
        simp only [runnellaw13_CompBack.l1, runnellaw13_CompBack.j3, hrd, Int.toNat_natCast]
        rw [if_pos (by omega), if_pos (by omega), if_pos (by omega), if_pos (by omega), hm, if_pos (by omega), if_pos (by simp only [decide_eq_true_eq]; omega)]
        simp only [Option.bind_some, List.nil_append, List.length_nil, Int.toNat_natCast]
        rw [if_pos (by omega), if_pos (by omega), if_pos (by omega), if_pos (by omega), wrap_nat (by omega)]
        exact hk
      · refine .inr ⟨.l1 bk i (j + 1), ⟨back_out hB hlt hx, hi, hlt⟩, by simp only [kM]; omega, fun k r hk hp => ⟨k + 2, ?_, hp⟩⟩
        simp only [kAt] at hk ⊢
        simp only [runnellaw13_CompBack.l1, runnellaw13_CompBack.j3, hrd, Int.toNat_natCast]
        rw [if_pos (by omega), if_pos (by omega), if_pos (by omega), if_pos (by omega)]
        by_cases h0 : 0 ≤ rd (nx.getD i []) (j : Int)
        · rw [if_pos (by omega), if_neg (by simp only [decide_eq_true_eq]; omega), wrap_nat (by omega)]
          exact hk
        · rw [if_neg (by omega)]
          simp only [Bool.false_eq_true, if_false]
          rw [wrap_nat (by omega)]
          exact hk
    · obtain rfl : j = (nx.getD i []).length := by omega
      refine .inr ⟨.l0 bk (i + 1), ⟨back_next hd hB, hi⟩, by simp only [kM]; omega, fun k r hk hp => ⟨k + 1, ?_, hp⟩⟩
      simp only [kAt] at hk ⊢
      simp only [runnellaw13_CompBack.l1, hrd, Int.toNat_natCast]
      rw [if_pos (by omega), if_pos (by omega), if_neg (by omega), wrap_nat (by omega)]
      exact hk

/-- The end: what is compared of the two graphs, from the rows of numbers on. -/
def bM (N : Nat) : Nat × Nat × Nat → Nat
  | (0, i, _) => (N - i) * 4096 + 2048
  | (_, i, j) => (N - i) * 4096 - j

def bAt (nx : List (List Int)) (a b : Int) (bk : List (List Int)) (x y : List Int) (k : Nat) : Nat × Nat × Nat → Option Bool
  | (0, i, _) => runnellaw13_CompBack.l2 k nx a b bk x y (i : Int)
  | (_, i, j) => runnellaw13_CompBack.l3 k nx a b bk x y (i : Int) (j : Int)

theorem same_from {nx bk : List (List Int)} {a b : Int} {x y : List Int} (hN : nx.length ≤ 40) (hx : x.length = nx.length) (hy : y.length = nx.length)
    (hs : ∀ i j : Nat, i < nx.length → j < nx.length → (x.getD i 0 = x.getD j 0 ↔ y.getD i 0 = y.getD j 0))
    (hend : ∃ k, runnellaw13_CompBack.l2 k nx a b bk x y (nx.length : Int) = some true) :
    ∀ s : Nat × Nat × Nat, ((s.1 = 0 ∧ s.2.1 ≤ nx.length) ∨ (s.1 = 1 ∧ s.2.1 < nx.length ∧ s.2.2 ≤ s.2.1)) → ∃ k r, bAt nx a b bk x y k s = some r ∧ r = true := by
  refine loop_ends (bAt nx a b bk x y) _ (fun _ r => r = true) (bM nx.length) ?_
  rintro ⟨t, i, j⟩ hI
  dsimp only at hI
  rcases hI with ⟨rfl, hi⟩ | ⟨rfl, hi, hj⟩
  · by_cases hlt : i < nx.length
    · refine .inr ⟨(1, i, 0), .inr ⟨rfl, hlt, Nat.zero_le _⟩, by simp only [bM]; omega, fun k r hk hp => ⟨k + 1, ?_, hp⟩⟩
      simp only [bAt] at hk ⊢
      simp only [runnellaw13_CompBack.l2]
      rw [if_pos (by omega)]
      exact hk
    · obtain rfl : i = nx.length := by omega
      obtain ⟨k, e⟩ := hend
      exact .inl ⟨k, true, e, rfl⟩
  · by_cases hlt : j < i
    · refine .inr ⟨(1, i, j + 1), .inr ⟨rfl, hi, hlt⟩, by simp only [bM]; omega, fun k r hk hp => ⟨k + 1, ?_, hp⟩⟩
      simp only [bAt] at hk ⊢
      have e : (rd x (i : Int) == rd x (j : Int)) = (rd y (i : Int) == rd y (j : Int)) := by
        rw [Bool.eq_iff_iff]
        simpa [rd] using hs i j hi (by omega)
      simp only [runnellaw13_CompBack.l3, e, bne_self_eq_false, Bool.false_eq_true, if_false]
      rw [if_pos (by omega), if_pos (by omega), if_pos (by omega), if_pos (by omega), if_pos (by omega), if_pos (by omega), if_pos (by omega), wrap_nat (by omega)]
      exact hk
    · refine .inr ⟨(0, i + 1, 0), .inl ⟨rfl, hi⟩, by simp only [bM]; omega, fun k r hk hp => ⟨k + 1, ?_, hp⟩⟩
      simp only [bAt] at hk ⊢
      simp only [runnellaw13_CompBack.l3]
      rw [if_neg (by omega), wrap_nat (by omega)]
      exact hk

theorem back_both {nx bk : List (List Int)} (h : BackTo nx bk nx.length 0) (hN : nx.length < 1048576) (hd : ∀ a : Nat, (nx.getD a []).length < 1048576) (hdb : ∀ a : Nat, (bk.getD a []).length < 1048576) (a b : Int) :
    ∃ k v, comp_Both.f k nx a b = some v ∧ comp_Both.f k bk a b = some v := by
  have hl := h.len
  by_cases ht : Two nx a b
  · have ht2 : Two bk a b := by unfold Two at ht ⊢; rw [hl]; exact ht
    obtain ⟨k1, e1⟩ := both_ev nx a b hN hd ht
    obtain ⟨k2, e2⟩ := both_ev bk a b (by omega) hdb ht2
    obtain ⟨h1, h2, h3, h4⟩ := ht
    obtain ⟨a', rfl⟩ := Int.eq_ofNat_of_zero_le h1
    obtain ⟨b', rfl⟩ := Int.eq_ofNat_of_zero_le h3
    refine ⟨max k1 k2, _, at_rounds (comp_Both.mono nx _ _) (Nat.le_max_left k1 k2) e1, ?_⟩
    rw [at_rounds (comp_Both.mono bk _ _) (Nat.le_max_right k1 k2) e2, Option.some.injEq, Bool.eq_iff_iff]
    simp only [bothOf, Bool.and_eq_true, Int.toNat_natCast]
    rw [marks_at (by omega) (by omega), marks_at (by omega) (by omega), marks_at (by omega) (by omega), marks_at (by omega) (by omega), back_rt h, back_rt h]
    exact And.comm
  · exact ⟨1, false, both_none ht, both_none (by unfold Two at ht ⊢; rw [hl]; exact ht)⟩

theorem back_reach {nx bk : List (List Int)} (h : BackTo nx bk nx.length 0) (a b : Int) : b ∈ listOf (marksOf nx [a]) ↔ a ∈ listOf (marksOf bk [b]) := by
  rw [reach_mem, reach_mem, h.len]
  constructor
  · rintro ⟨a', b', h1, h2, h3, h4, h5⟩; exact ⟨b', a', h2, h1, h4, h3, (back_rt h).2 h5⟩
  · rintro ⟨a', b', h1, h2, h3, h4, h5⟩; exact ⟨b', a', h2, h1, h4, h3, (back_rt h).1 h5⟩

theorem back_cyclic {nx bk : List (List Int)} (h : BackTo nx bk nx.length 0) (hN : nx.length < 1048576) (hd : ∀ a : Nat, (nx.getD a []).length < 1048576) (hdb : ∀ a : Nat, (bk.getD a []).length < 1048576) (a : Int) :
    ∃ k v, comp_Cyclic.f k nx a = some v ∧ comp_Cyclic.f k bk a = some v := by
  have hl := h.len
  by_cases ht : 0 ≤ a ∧ a < (nx.length : Int)
  · obtain ⟨c, rfl⟩ := Int.eq_ofNat_of_zero_le ht.1
    obtain ⟨j1, f1⟩ := cyclic_ev nx c (by omega) hN hd
    obtain ⟨j2, f2⟩ := cyclic_ev bk c (by omega) (by omega) hdb
    refine ⟨max j1 j2, _, at_rounds (comp_Cyclic.mono nx _) (Nat.le_max_left j1 j2) f1, ?_⟩
    rw [at_rounds (comp_Cyclic.mono bk _) (Nat.le_max_right j1 j2) f2, Option.some.injEq, Bool.eq_iff_iff, cyclic_at (by omega), cyclic_at (by omega), back_round h]
  · exact ⟨1, false, cyclic_none ht, cyclic_none (by rw [hl]; exact ht)⟩

theorem back_law (hs : ∃ k, runnellaw13_shown.f k = some true) (nx : List (List Int)) (a b : Int) : ∃ k, runnellaw13_CompBack.f k nx a b = some true := by
  obtain ⟨k0, e0⟩ := hs
  obtain ⟨k1, v, e1, hv⟩ := small_ev nx
  cases v with
  | false =>
    refine ⟨max k0 k1 + 1, ?_⟩
    unfold runnellaw13_CompBack.f
    rw [at_rounds runnellaw13_shown.mono (show k0 ≤ max k0 k1 + 1 by omega) e0, at_rounds (runnellaw13_small.mono nx) (show k1 ≤ max k0 k1 + 1 by omega) e1]
    simp [runnellaw13_CompBack.j0]
  | true =>
    obtain ⟨hN, hrow⟩ := hv rfl
    have hN' : nx.length < 1048576 := by omega
    have hrow' : ∀ a : Nat, (nx.getD a []).length < 1048576 := fun a => by have := hrow a; omega
    obtain ⟨L, num, up, _, ⟨k2, e2⟩, _, h⟩ := all_ev nx hN' hrow'
    have hlen := h.num.len
    obtain ⟨k3, r, e3, rfl⟩ := back_from (a := a) (b := b) hN hrow (fun bk hB => by
      have hl := hB.len
      have hdb : ∀ a : Nat, (bk.getD a []).length < 1048576 := fun a => by have := hB.few a; omega
      obtain ⟨L2, num2, up2, _, ⟨j2, f2⟩, _, h2⟩ := all_ev bk (by omega) hdb
      have hlen2 := h2.num.len
      obtain ⟨j3, v3, f3, f3'⟩ := back_both hB hN' hrow' hdb a b
      obtain ⟨j4, f4⟩ := reach_ev nx a hN' hrow'
      obtain ⟨j5, f5⟩ := among_ev (listOf (marksOf nx [a])) b (by have := listOf_len nx [a]; omega)
      obtain ⟨j6, f6⟩ := reach_ev bk b (by omega) hdb
      obtain ⟨j7, f7⟩ := among_ev (listOf (marksOf bk [b])) a (by have := listOf_len bk [b]; omega)
      obtain ⟨j8, v8, f8, f8'⟩ := back_cyclic hB hN' hrow' hdb a
      have e7 : decide (b ∈ listOf (marksOf nx [a])) = decide (a ∈ listOf (marksOf bk [b])) := by
        rw [Bool.eq_iff_iff, decide_eq_true_eq, decide_eq_true_eq]; exact back_reach hB a b
      have hend : ∃ k, runnellaw13_CompBack.l2 k nx a b bk num num2 (nx.length : Int) = some true := by
        generalize hJ : j3 + j4 + j5 + j6 + j7 + j8 = J
        refine ⟨J + 1, ?_⟩
        simp only [runnellaw13_CompBack.l2]
        rw [if_neg (by omega), at_rounds (comp_Both.mono nx a b) (show j3 ≤ J by omega) f3, at_rounds (comp_Both.mono bk a b) (show j3 ≤ J by omega) f3']
        simp only [Option.bind_some, beq_self_eq_true, if_true]
        rw [at_rounds (comp_Reach.mono nx a) (show j4 ≤ J by omega) f4]
        simp only [Option.bind_some]
        rw [at_rounds (runnellaw13_among.mono _ _) (show j5 ≤ J by omega) f5]
        simp only [Option.bind_some]
        rw [at_rounds (comp_Reach.mono bk b) (show j6 ≤ J by omega) f6]
        simp only [Option.bind_some]
        rw [at_rounds (runnellaw13_among.mono _ _) (show j7 ≤ J by omega) f7, e7]
        simp only [Option.bind_some, beq_self_eq_true, if_true]
        rw [at_rounds (comp_Cyclic.mono nx a) (show j8 ≤ J by omega) f8]
        simp only [Option.bind_some]
        rw [at_rounds (comp_Cyclic.mono bk a) (show j8 ≤ J by omega) f8']
        simp
      obtain ⟨j9, r, f9, rfl⟩ := same_from hN hlen (by omega) (fun i j hi hj => by
        rw [h.same hi hj, h2.same (by omega) (by omega), back_rt hB, back_rt hB]
        exact And.comm) hend (0, 0, 0) (.inl ⟨rfl, Nat.zero_le _⟩)
      refine ⟨k2 + j2 + j9 + 1, ?_⟩
      simp only [runnellaw13_CompBack.l0]
      rw [if_neg (by omega), at_rounds (comp_Number.mono nx) (show k2 ≤ k2 + j2 + j9 by omega) e2]
      simp only [Option.bind_some]
      rw [at_rounds (comp_Number.mono bk) (show j2 ≤ k2 + j2 + j9 by omega) f2]
      simp only [Option.bind_some]
      exact at_rounds (g := fun j => runnellaw13_CompBack.l2 j nx a b bk num num2 0) (fun j => (runnellaw13_CompBack.mono_l j).2.2.2.2.1 _ _ _ _ _ _ _) (show j9 ≤ k2 + j2 + j9 by omega) (by simpa [bAt] using f9))
      (.l0 (List.replicate nx.length []) 0) ⟨back_start nx, Nat.zero_le _⟩
    have e3' : runnellaw13_CompBack.l0 k3 nx a b (List.replicate nx.length []) 0 = some true := by simpa [kAt] using e3
    generalize hK : k0 + k1 + k2 + k3 = K
    refine ⟨K + 1, ?_⟩
    unfold runnellaw13_CompBack.f
    rw [at_rounds runnellaw13_shown.mono (show k0 ≤ K + 1 by omega) e0, at_rounds (runnellaw13_small.mono nx) (show k1 ≤ K + 1 by omega) e1]
    simp only [Option.bind_some, if_true, runnellaw13_CompBack.j0, Bool.not_true, Bool.false_eq_true, if_false, Int.toNat_natCast]
    rw [if_pos (by omega), if_pos (by omega)]
    exact at_rounds (g := fun j => runnellaw13_CompBack.l0 j nx a b (List.replicate nx.length []) 0) (fun j => (runnellaw13_CompBack.mono_l j).2.1 _ _ _ _ _) (show k3 ≤ K by omega) e3'
end Go.Proofs.Ytkgkhakjodlpgaa.C
