/- The plain laws of package levels: what New makes is a lattice. -/
import Derived.Test.YtckpffkofeoinaaDoorNew
namespace Go.Proofs.YtckpffkofeoinaaDoor

/-- a is below b, in rows of sets. -/
def leB (u : List Nat) (a b : Nat) : Bool := (u.getD a 0).testBit b

theorem getD_set (u : List Nat) (a s j : Nat) : (u.set a s).getD j 0 = if a = j ∧ a < u.length then s else u.getD j 0 := by
  simp only [List.getD_eq_getElem?_getD, List.getElem?_set]
  by_cases e : a = j
  · subst e
    by_cases h : a < u.length
    · simp [h]
    · simp [h]
  · simp [e]

theorem wStep_eq (k : Nat) (u : List Nat) (a : Nat) : wStep k u a = if (u.getD a 0).testBit k then u.set a (u.getD a 0 ||| u.getD k 0) else u := rfl
theorem dStep_eq (u : List Nat) (a : Nat) (d : List Nat) (b : Nat) : dStep u a d b = if (u.getD a 0).testBit b then d.set b (d.getD b 0 ||| 2 ^ a) else d := rfl
theorem dRow_eq (n : Nat) (u d : List Nat) (a : Nat) : dRow n u d a = (List.range n).foldl (dStep u a) d := rfl

/-! ### Warshall's rounds -/
theorem rowTo_succ (k : Nat) (u : List Nat) (m : Nat) : (List.range (m + 1)).foldl (wStep k) u = wStep k ((List.range m).foldl (wStep k) u) m := by
  rw [List.range_succ, List.foldl_append]; rfl

theorem wStep_len (k : Nat) (u : List Nat) (a : Nat) : (wStep k u a).length = u.length := by
  unfold wStep; split
  · exact List.length_set
  · rfl

theorem wRow_get (k : Nat) (u : List Nat) (m : Nat) (hm : m ≤ u.length) : ((List.range m).foldl (wStep k) u).length = u.length ∧
    ∀ j, ((List.range m).foldl (wStep k) u).getD j 0 = if j < m ∧ (u.getD j 0).testBit k = true then u.getD j 0 ||| u.getD k 0 else u.getD j 0 := by
  induction m with
  | zero => exact ⟨rfl, fun j => by simp⟩
  | succ m ih =>
    obtain ⟨h1, h2⟩ := ih (by omega)
    rw [rowTo_succ]
    refine ⟨by rw [wStep_len, h1], fun j => ?_⟩
    have hk : ((List.range m).foldl (wStep k) u).getD k 0 = u.getD k 0 := by
      rw [h2]; split
      · exact Nat.or_self _
      · rfl
    have hmm : ((List.range m).foldl (wStep k) u).getD m 0 = u.getD m 0 := by
      rw [h2, if_neg (by omega)]
    rw [wStep_eq, hmm, hk]
    by_cases hb : (u.getD m 0).testBit k = true
    · rw [if_pos hb, getD_set, h1]
      by_cases e : m = j
      · subst e
        rw [if_pos ⟨rfl, by omega⟩, if_pos ⟨by omega, hb⟩]
      · rw [if_neg (by omega), h2]
        by_cases e2 : j < m ∧ (u.getD j 0).testBit k = true
        · rw [if_pos e2, if_pos ⟨by omega, e2.2⟩]
        · rw [if_neg e2, if_neg]
          intro e3
          exact e2 ⟨by omega, e3.2⟩
    · rw [if_neg hb, h2]
      by_cases e2 : j < m ∧ (u.getD j 0).testBit k = true
      · rw [if_pos e2, if_pos ⟨by omega, e2.2⟩]
      · rw [if_neg e2, if_neg]
        intro e3
        by_cases e : j = m
        · subst e; exact hb e3.2
        · exact e2 ⟨by omega, e3.2⟩

theorem wRow_le (n k : Nat) (u : List Nat) (hu : u.length = n) (a b : Nat) (ha : a < n) : leB (wRow n u k) a b = (leB u a b || (leB u a k && leB u k b)) := by
  unfold leB wRow
  rw [(wRow_get k u n (by omega)).2]
  by_cases hb : (u.getD a 0).testBit k = true
  · rw [if_pos ⟨ha, hb⟩, Nat.testBit_or, hb, Bool.true_and]
  · rw [if_neg (fun h => hb h.2)]
    simp only [Bool.not_eq_true] at hb
    rw [hb]; simp
theorem wRow_len (n k : Nat) (u : List Nat) (hu : u.length = n) : (wRow n u k).length = n := by
  unfold wRow; rw [(wRow_get k u n (by omega)).1, hu]

def warshK (n : Nat) (u : List Nat) (k : Nat) : List Nat := (List.range k).foldl (wRow n) u
theorem warshK_succ (n : Nat) (u : List Nat) (k : Nat) : warshK n u (k + 1) = wRow n (warshK n u k) k := by
  rw [warshK, List.range_succ, List.foldl_append]; rfl
theorem warshK_len (n : Nat) (u : List Nat) (hu : u.length = n) (k : Nat) : (warshK n u k).length = n := by
  induction k with
  | zero => exact hu
  | succ k ih => rw [warshK_succ]; exact wRow_len n k _ ih

theorem warshK_through (n : Nat) (u : List Nat) (hu : u.length = n) (k : Nat) (hk : k ≤ n) : ∀ j, j < k → ∀ a b, a < n → leB (warshK n u k) a j = true → leB (warshK n u k) j b = true → leB (warshK n u k) a b = true := by
  induction k with
  | zero => intro j hj; omega
  | succ k ih =>
    intro j hj a b ha h1 h2
    have hl := warshK_len n u hu k
    rw [warshK_succ] at h1 h2 ⊢
    rw [wRow_le n k _ hl _ _ ha] at h1 ⊢
    rw [wRow_le n k _ hl _ _ (by omega)] at h2
    have ih := ih (by omega)
    generalize warshK n u k = R at *
    simp only [Bool.or_eq_true, Bool.and_eq_true] at *
    by_cases e : j = k
    · subst e
      have h1' : leB R a j = true := by rcases h1 with h | h; exact h; exact h.1
      have h2' : leB R j b = true := by rcases h2 with h | h; exact h; exact h.2
      exact .inr ⟨h1', h2'⟩
    · have hjk : j < k := by omega
      rcases h1 with h1 | ⟨h1, h1'⟩ <;> rcases h2 with h2 | ⟨h2, h2'⟩
      · exact .inl (ih j hjk a b ha h1 h2)
      · exact .inr ⟨ih j hjk a k ha h1 h2, h2'⟩
      · exact .inr ⟨h1, ih j hjk k b (by omega) h1' h2⟩
      · exact .inr ⟨h1, h2'⟩

theorem warshK_more (n : Nat) (u : List Nat) (hu : u.length = n) (k : Nat) (a b : Nat) (ha : a < n) (h : leB u a b = true) : leB (warshK n u k) a b = true := by
  induction k with
  | zero => exact h
  | succ k ih => rw [warshK_succ, wRow_le n k _ (warshK_len n u hu k) _ _ ha, ih]; rfl

/-- The least: what the pairs say, and what follows, is within each such relation. -/
theorem warshK_least (n : Nat) (u : List Nat) (hu : u.length = n) (Q : Nat → Nat → Prop) (hq : ∀ a b, a < n → leB u a b = true → Q a b) (ht : ∀ a b c, a < n → b < n → Q a b → Q b c → Q a c) (k : Nat) (hk : k ≤ n) :
    ∀ a b, a < n → leB (warshK n u k) a b = true → Q a b := by
  induction k with
  | zero => exact hq
  | succ k ih =>
    intro a b ha h
    rw [warshK_succ, wRow_le n k _ (warshK_len n u hu k) _ _ ha] at h
    have ih := ih (by omega)
    simp only [Bool.or_eq_true, Bool.and_eq_true] at h
    rcases h with h | h
    · exact ih a b ha h
    · exact ht a k b ha (by omega) (ih a k ha h.1) (ih k b (by omega) h.2)

/-! ### The pairs -/
theorem upP_len (names : List ByteArray) (pairs : List (ByteArray × ByteArray)) : (upP names pairs).length = names.length := by
  unfold upP
  have : ∀ (l : List (ByteArray × ByteArray)) (u : List Nat), (l.foldl (addP names) u).length = u.length := by
    intro l
    induction l with
    | nil => intro u; rfl
    | cons q l ih => intro u; rw [List.foldl_cons, ih]; exact List.length_set
  rw [this, upsTo_len]

theorem upsTo_le (n a b : Nat) (ha : a < n) : leB (upsTo n n) a b = decide (a = b) := by
  unfold leB upsTo
  rw [List.getD_eq_getElem?_getD, List.getElem?_map, List.getElem?_range ha]
  simp [ha, Nat.testBit_two_pow]

theorem addP_le (names : List ByteArray) (u : List Nat) (q : ByteArray × ByteArray) (hu : u.length = names.length) (a b : Nat) (hq : (placeI names q.1).toNat < names.length) :
    leB (addP names u q) a b = (leB u a b || (decide ((placeI names q.1).toNat = a) && decide ((placeI names q.2).toNat = b))) := by
  unfold leB addP
  rw [getD_set]
  by_cases e : (placeI names q.1).toNat = a
  · rw [if_pos ⟨e, by omega⟩, Nat.testBit_or, Nat.testBit_two_pow, e]; simp
  · rw [if_neg (fun h => e h.1)]; simp [e]

/-- What the pairs say: each place is below itself, and the first of a pair below its second. -/
theorem upP_le (names : List ByteArray) (pairs : List (ByteArray × ByteArray)) (hpos : 0 < names.length) (a b : Nat) (ha : a < names.length) :
    leB (upP names pairs) a b = true ↔ a = b ∨ ∃ q ∈ pairs, (placeI names q.1).toNat = a ∧ (placeI names q.2).toNat = b := by
  have key : ∀ (l : List (ByteArray × ByteArray)) (u : List Nat), u.length = names.length → (leB (l.foldl (addP names) u) a b = true ↔ leB u a b = true ∨ ∃ q ∈ l, (placeI names q.1).toNat = a ∧ (placeI names q.2).toNat = b) := by
    intro l
    induction l with
    | nil => intro u hu; simp
    | cons q l ih =>
      intro u hu
      have hq : (placeI names q.1).toNat < names.length := by have := placeI_lt names q.1 hpos; omega
      rw [List.foldl_cons, ih _ (by rw [addP, List.length_set]; exact hu), addP_le names u q hu a b hq]
      simp only [Bool.or_eq_true, Bool.and_eq_true, decide_eq_true_eq, List.mem_cons, exists_eq_or_imp]
      constructor
      · rintro ((h | h) | h)
        · exact .inl h
        · exact .inr (.inl h)
        · exact .inr (.inr h)
      · rintro (h | h | h)
        · exact .inl (.inl h)
        · exact .inl (.inr h)
        · exact .inr h
  rw [upP, key pairs _ (upsTo_len _ _), upsTo_le _ _ _ ha]
  simp

/-! ### The other way round -/
theorem dRow_get (u d : List Nat) (a m : Nat) (hm : m ≤ d.length) : ((List.range m).foldl (dStep u a) d).length = d.length ∧
    ∀ j, ((List.range m).foldl (dStep u a) d).getD j 0 = if j < m ∧ (u.getD a 0).testBit j = true then d.getD j 0 ||| 2 ^ a else d.getD j 0 := by
  induction m with
  | zero => exact ⟨rfl, fun j => by simp⟩
  | succ m ih =>
    obtain ⟨h1, h2⟩ := ih (by omega)
    have hs : (List.range (m + 1)).foldl (dStep u a) d = dStep u a ((List.range m).foldl (dStep u a) d) m := by rw [List.range_succ, List.foldl_append]; rfl
    rw [hs]
    have hmm : ((List.range m).foldl (dStep u a) d).getD m 0 = d.getD m 0 := by rw [h2, if_neg (by omega)]
    rw [dStep_eq, hmm]
    by_cases hb : (u.getD a 0).testBit m = true
    · rw [if_pos hb]
      refine ⟨by rw [List.length_set, h1], fun j => ?_⟩
      rw [getD_set, h1]
      by_cases e : m = j
      · subst e; rw [if_pos ⟨rfl, by omega⟩, if_pos ⟨by omega, hb⟩]
      · rw [if_neg (by omega), h2]
        by_cases e2 : j < m ∧ (u.getD a 0).testBit j = true
        · rw [if_pos e2, if_pos ⟨by omega, e2.2⟩]
        · rw [if_neg e2, if_neg]
          intro e3; exact e2 ⟨by omega, e3.2⟩
    · rw [if_neg hb]
      refine ⟨h1, fun j => ?_⟩
      rw [h2]
      by_cases e2 : j < m ∧ (u.getD a 0).testBit j = true
      · rw [if_pos e2, if_pos ⟨by omega, e2.2⟩]
      · rw [if_neg e2, if_neg]
        intro e3
        by_cases e : j = m
        · subst e; exact hb e3.2
        · exact e2 ⟨by omega, e3.2⟩

theorem downs_le (n : Nat) (u : List Nat) (a b : Nat) (ha : a < n) (hb : b < n) : leB (downs n u) b a = leB u a b := by
  have key : ∀ k, k ≤ n → ((List.range k).foldl (dRow n u) (List.replicate n 0)).length = n ∧ ∀ j, j < n → ∀ i, leB ((List.range k).foldl (dRow n u) (List.replicate n 0)) j i = (decide (i < k) && leB u i j) := by
    intro k
    induction k with
    | zero => intro _; exact ⟨List.length_replicate, fun j hj i => by simp [leB, List.getD_eq_getElem?_getD, hj]⟩
    | succ k ih =>
      intro hk
      obtain ⟨h1, h2⟩ := ih (by omega)
      have hs : (List.range (k + 1)).foldl (dRow n u) (List.replicate n 0) = dRow n u ((List.range k).foldl (dRow n u) (List.replicate n 0)) k := by rw [List.range_succ, List.foldl_append]; rfl
      rw [hs]
      obtain ⟨g1, g2⟩ := dRow_get u ((List.range k).foldl (dRow n u) (List.replicate n 0)) k n (by omega)
      rw [dRow_eq]
      refine ⟨by rw [g1, h1], fun j hj i => ?_⟩
      have h2 := h2 j hj i
      unfold leB at *
      rw [g2]
      by_cases hb : (u.getD k 0).testBit j = true
      · rw [if_pos ⟨hj, hb⟩, Nat.testBit_or, h2, Nat.testBit_two_pow]
        by_cases e : k = i
        · subst e; rw [hb]; simp
        · simp [e, show (i < k + 1) = (i < k) from by simp; omega]
      · rw [if_neg (fun h => hb h.2), h2]
        by_cases e : k = i
        · subst e; simp only [Bool.not_eq_true] at hb; rw [hb]; simp
        · simp [show (i < k + 1) = (i < k) from by simp; omega]
  rw [downs, (key n (Nat.le_refl _)).2 b hb a]
  simp [ha]

/-! ### Sets that make half a lattice -/
structure Half (n : Nat) (l : List Nat) : Prop where
  bnd : Bnd n l
  refl : ∀ a, a < n → leB l a a = true
  trans : ∀ a b c, a < n → b < n → leB l a b = true → leB l b c = true → leB l a c = true
  anti : ∀ a b, a < n → b < n → leB l a b = true → leB l b a = true → a = b
  ex : ∀ a b, a < n → b < n → 0 ≤ firstI l (l.getD a 0 &&& l.getD b 0)

theorem firstI_some {l : List Nat} {s : Nat} (h : 0 ≤ firstI l s) : ∃ c, c < l.length ∧ firstI l s = (c : Int) ∧ l.getD c 0 = s := by
  unfold firstI at *
  by_cases hm : s ∈ l
  · rw [if_pos hm]
    have hlt : l.idxOf s < l.length := List.idxOf_lt_length_iff.2 hm
    exact ⟨l.idxOf s, hlt, rfl, by rw [List.getD_eq_getElem?_getD, List.getElem?_eq_getElem hlt]; exact List.getElem_idxOf hlt⟩
  · rw [if_neg hm] at h; omega

namespace Half
variable {n : Nat} {l : List Nat} (H : Half n l)
include H

theorem lt_of {a b : Nat} (h : leB l a b = true) : b < n := by
  have h1 := H.bnd.get a
  rcases Nat.lt_or_ge b n with h2 | h2
  · exact h2
  · exfalso
    have : 2 ^ n ≤ 2 ^ b := Nat.pow_le_pow_right (by omega) h2
    have h3 := Nat.testBit_lt_two_pow (x := l.getD a 0) (i := b) (by omega)
    rw [leB, h3] at h; cases h

theorem inj {a b : Nat} (ha : a < n) (hb : b < n) (h : l.getD a 0 = l.getD b 0) : a = b := by
  refine H.anti a b ha hb ?_ ?_
  · rw [leB, h]; exact H.refl b hb
  · rw [leB, ← h]; exact H.refl a ha

/-- The place whose set both have in common. -/
theorem jn {a b : Nat} (ha : a < n) (hb : b < n) : ∃ c, c < n ∧ firstI l (l.getD a 0 &&& l.getD b 0) = (c : Int) ∧ l.getD c 0 = l.getD a 0 &&& l.getD b 0 := by
  obtain ⟨c, h1, h2, h3⟩ := firstI_some (H.ex a b ha hb)
  exact ⟨c, by rw [H.bnd.1] at h1; exact h1, h2, h3⟩

theorem first_eq {s c : Nat} (hc : c < n) (h : l.getD c 0 = s) : firstI l s = (c : Int) := by
  have hm : s ∈ l := by
    rw [← h, List.getD_eq_getElem?_getD, List.getElem?_eq_getElem (by rw [H.bnd.1]; exact hc)]; exact List.getElem_mem _
  have h0 : 0 ≤ firstI l s := by unfold firstI; rw [if_pos hm]; exact Int.natCast_nonneg _
  obtain ⟨d, h1, h2, h3⟩ := firstI_some h0
  rw [H.bnd.1] at h1
  rw [h2, H.inj h1 hc (h3.trans h.symm)]

theorem sub {a b : Nat} (ha : a < n) (hb : b < n) : leB l a b = true ↔ l.getD a 0 &&& l.getD b 0 = l.getD b 0 := by
  constructor
  · intro h
    apply Nat.eq_of_testBit_eq
    intro i
    rw [Nat.testBit_and]
    cases hi : (l.getD b 0).testBit i with
    | false => simp
    | true => rw [show (l.getD a 0).testBit i = true from H.trans a b i ha hb h hi]; rfl
  · intro h
    have := H.refl b hb
    rw [leB, ← h, Nat.testBit_and, Bool.and_eq_true] at this
    exact this.1

theorem join_eq {a b : Nat} (ha : a < n) (hb : b < n) : leB l a b = true ↔ firstI l (l.getD a 0 &&& l.getD b 0) = (b : Int) := by
  rw [H.sub ha hb]
  constructor
  · intro h; exact H.first_eq hb h.symm
  · intro h
    obtain ⟨c, _, h2, h3⟩ := H.jn ha hb
    rw [h2] at h
    have : c = b := by omega
    rw [← h3, this]

theorem up_l {a b c : Nat} (hc : c < n) (h : l.getD c 0 = l.getD a 0 &&& l.getD b 0) : leB l a c = true ∧ leB l b c = true := by
  have := H.refl c hc
  rw [leB, h, Nat.testBit_and, Bool.and_eq_true] at this
  exact this

omit H in
theorem least {a b c d : Nat} (h : l.getD c 0 = l.getD a 0 &&& l.getD b 0) (h1 : leB l a d = true) (h2 : leB l b d = true) : leB l c d = true := by
  rw [leB, h, Nat.testBit_and]
  unfold leB at h1 h2
  rw [h1, h2]; rfl

/-- A place that all others are in the set of: all sets together. -/
theorem all (hpos : 0 < n) : ∃ c, c < n ∧ ∀ d, d < n → leB l d c = true := by
  have key : ∀ k, k ≤ n → 0 < k → ∃ c, c < n ∧ ∀ d, d < k → leB l d c = true := by
    intro k
    induction k with
    | zero => intro _ h; omega
    | succ k ih =>
      intro hk _
      by_cases h0 : k = 0
      · subst h0
        exact ⟨0, hpos, fun d hd => (show d = 0 by omega) ▸ H.refl 0 hpos⟩
      · obtain ⟨c, hc, h⟩ := ih (by omega) (by omega)
        obtain ⟨e, he, _, h3⟩ := H.jn hc (show k < n by omega)
        obtain ⟨u1, u2⟩ := H.up_l he h3
        refine ⟨e, he, fun d hd => ?_⟩
        rcases Nat.lt_or_ge d k with h4 | h4
        · exact H.trans d c e (by omega) hc (h d h4) u1
        · have : d = k := by omega
          subst this; exact u2
  exact key n (Nat.le_refl _) hpos
end Half

theorem full_bits {n s : Nat} (hs : s < 2 ^ n) (h : ∀ i, i < n → s.testBit i = true) : s = 2 ^ n - 1 := by
  apply Nat.eq_of_testBit_eq
  intro i
  rw [Nat.testBit_two_pow_sub_one]
  rcases Nat.lt_or_ge i n with hi | hi
  · rw [h i hi]; simp [hi]
  · have : 2 ^ n ≤ 2 ^ i := Nat.pow_le_pow_right (by omega) hi
    rw [Nat.testBit_lt_two_pow (by omega)]; simp [Nat.not_lt.2 hi]

/-- A lattice: the sets above, and those below. -/
structure IsLat (L : LatD) : Prop where
  pos : 0 < L.names.length
  le : L.names.length ≤ 16
  up : Half L.names.length L.up
  down : Half L.names.length L.down
  conv : ∀ a b, a < L.names.length → b < L.names.length → leB L.down b a = leB L.up a b

theorem newE_zero {names : List ByteArray} {pairs : List (ByteArray × ByteArray)} (h : newE names pairs = 0) : checkE names = 0 ∧ pairs.all (pairOk names) = true ∧ rightB (newL names pairs) = true := by
  unfold newE at h
  by_cases h1 : checkE names = 0
  · rw [if_neg (by rw [h1]; simp)] at h
    by_cases h2 : pairs.all (pairOk names) = false
    · rw [if_pos h2] at h; omega
    · rw [if_neg h2] at h
      by_cases h3 : rightB (newL names pairs) = false
      · rw [if_pos h3] at h; omega
      · exact ⟨h1, by simpa using h2, by simpa using h3⟩
  · rw [if_pos h1] at h; exact absurd h h1

theorem right_all {L : LatD} (h : rightB L = true) {a b : Nat} (ha : a < L.names.length) (hb : b < L.names.length) : badB L a b = false := by
  cases hx : badB L a b with
  | false => rfl
  | true => rw [rightB_no L a b ha hb hx] at h; cases h

theorem bnd_warsh (n : Nat) (u : List Nat) (hu : Bnd n u) : Bnd n (warsh n u) := by
  have step : ∀ k u a, Bnd n u → Bnd n (wStep k u a) := fun k u a h => by
    rw [wStep_eq]; split
    · exact h.set _ _ (Bnd.or (h.get a) (h.get k))
    · exact h
  have row : ∀ k (u : List Nat) m, Bnd n u → Bnd n ((List.range m).foldl (wStep k) u) := fun k u m h => by
    induction m with
    | zero => exact h
    | succ m ih => rw [rowTo_succ]; exact step k _ m ih
  have : ∀ k, Bnd n (warshK n u k) := fun k => by
    induction k with
    | zero => exact hu
    | succ k ih => rw [warshK_succ]; exact row k _ n ih
  exact this n

theorem bnd_upP (names : List ByteArray) (pairs : List (ByteArray × ByteArray)) (hpos : 0 < names.length) (hok : pairs.all (pairOk names) = true) : Bnd names.length (upP names pairs) := by
  have : ∀ (l : List (ByteArray × ByteArray)) (u : List Nat), l.all (pairOk names) = true → Bnd names.length u → Bnd names.length (l.foldl (addP names) u) := by
    intro l
    induction l with
    | nil => intro u _ h; exact h
    | cons q l ih =>
      intro u hl h
      rw [List.all_cons, Bool.and_eq_true] at hl
      rw [List.foldl_cons]
      refine ih _ hl.2 (h.set _ _ (Bnd.or (h.get _) (pow_lt ?_)))
      have := placeI_lt names q.2 hpos
      omega
  exact this pairs _ hok (Bnd.upsTo _ _)

theorem newL_lat {names : List ByteArray} {pairs : List (ByteArray × ByteArray)} (h : newE names pairs = 0) : IsLat (newL names pairs) := by
  obtain ⟨hc, hp, hr⟩ := newE_zero h
  obtain ⟨hpos, hle⟩ := checkE_zero hc
  have hU := bnd_upP names pairs hpos hp
  have hW : Bnd names.length (newL names pairs).up := bnd_warsh _ _ hU
  have hul := upP_len names pairs
  have refl : ∀ a, a < names.length → leB (newL names pairs).up a a = true := fun a ha => warshK_more _ _ hul _ a a ha ((upP_le names pairs hpos a a ha).2 (.inl rfl))
  have bl : ∀ a b, leB (newL names pairs).up a b = true → b < names.length := fun a b h => by
    have h1 := hW.get a
    rcases Nat.lt_or_ge b names.length with h2 | h2
    · exact h2
    · exfalso
      have : 2 ^ names.length ≤ 2 ^ b := Nat.pow_le_pow_right (by omega) h2
      rw [leB, Nat.testBit_lt_two_pow (by omega)] at h; cases h
  have trans : ∀ a b c, a < names.length → b < names.length → leB (newL names pairs).up a b = true → leB (newL names pairs).up b c = true → leB (newL names pairs).up a c = true :=
    fun a b c ha hb h1 h2 => warshK_through names.length _ hul names.length (Nat.le_refl _) b hb a c ha h1 h2
  have conv : ∀ a b, a < names.length → b < names.length → leB (newL names pairs).down b a = leB (newL names pairs).up a b := fun a b ha hb => downs_le _ _ a b ha hb
  have hbad : ∀ a b, a < names.length → b < names.length → badB (newL names pairs) a b = false := fun a b ha hb => right_all hr ha hb
  have anti : ∀ a b, a < names.length → b < names.length → leB (newL names pairs).up a b = true → leB (newL names pairs).up b a = true → a = b := by
    intro a b ha hb h1 h2
    have := hbad a b ha hb
    rw [badB, Bool.or_eq_false_iff] at this
    unfold leB at h1 h2
    rw [h1, h2] at this
    simpa using this.1
  have ex1 : ∀ a b, a < names.length → b < names.length → 0 ≤ firstI (newL names pairs).up ((newL names pairs).up.getD a 0 &&& (newL names pairs).up.getD b 0) ∧ 0 ≤ firstI (newL names pairs).down ((newL names pairs).down.getD a 0 &&& (newL names pairs).down.getD b 0) := by
    intro a b ha hb
    have := hbad a b ha hb
    rw [badB, Bool.or_eq_false_iff, Bool.or_eq_false_iff] at this
    simp only [decide_eq_false_iff_not] at this
    omega
  have hD : Bnd names.length (newL names pairs).down := by
    have key : ∀ k, k ≤ names.length → Bnd names.length ((List.range k).foldl (dRow names.length (newL names pairs).up) (List.replicate names.length 0)) := by
      intro k
      induction k with
      | zero => intro _; exact Bnd.zeros _
      | succ k ih =>
        intro hk
        rw [List.range_succ, List.foldl_append]
        have h1 := ih (by omega)
        generalize (List.range k).foldl (dRow names.length (newL names pairs).up) (List.replicate names.length 0) = d at *
        have : ∀ m, Bnd names.length ((List.range m).foldl (dStep (newL names pairs).up k) d) := by
          intro m
          induction m with
          | zero => exact h1
          | succ m ihm =>
            rw [List.range_succ, List.foldl_append]
            show Bnd _ (dStep _ _ _ _)
            rw [dStep_eq]; split
            · exact ihm.set _ _ (Bnd.or (ihm.get m) (pow_lt (by omega)))
            · exact ihm
        exact this names.length
    exact key names.length (Nat.le_refl _)
  refine ⟨hpos, hle, ⟨hW, refl, trans, anti, fun a b ha hb => (ex1 a b ha hb).1⟩, ⟨hD, ?_, ?_, ?_, fun a b ha hb => (ex1 a b ha hb).2⟩, conv⟩
  · intro a ha; rw [conv a a ha ha]; exact refl a ha
  · intro a b c ha hb h1 h2
    have hcn : c < names.length := by
      have h3 := hD.get b
      rcases Nat.lt_or_ge c names.length with h4 | h4
      · exact h4
      · exfalso
        have : 2 ^ names.length ≤ 2 ^ c := Nat.pow_le_pow_right (by omega) h4
        rw [leB, Nat.testBit_lt_two_pow (by omega)] at h2; cases h2
    rw [conv b a hb ha] at h1
    rw [conv c b hcn hb] at h2
    rw [conv c a hcn ha]
    exact trans c b a hcn hb h2 h1
  · intro a b ha hb h1 h2
    rw [conv b a hb ha] at h1
    rw [conv a b ha hb] at h2
    exact anti a b ha hb h2 h1
end Go.Proofs.YtckpffkofeoinaaDoor
