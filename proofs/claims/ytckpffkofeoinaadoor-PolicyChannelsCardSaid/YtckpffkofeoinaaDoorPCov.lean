/- The plain law of covers: the pairs with nothing between make the same lattice (without joins). -/
import Derived.Test.YtckpffkofeoinaaDoorPolicyMay
import Derived.Test.YtckpffkofeoinaaDoorLev3
import Derived.Test.YtckpffkofeoinaaDoorNew
namespace Go.Proofs.YtckpffkofeoinaaDoor

theorem covers_mem {L : LatD} {q : Nat × Nat} (h : q ∈ covers L) : q.1 < L.names.length ∧ q.2 < L.names.length ∧ coverB L q.1 q.2 = true := by
  unfold covers coverTo coverRow at h
  simp only [List.mem_flatMap, List.mem_map, List.mem_filter, List.mem_range] at h
  obtain ⟨a, ha, b, ⟨hb, hc⟩, rfl⟩ := h
  exact ⟨ha, hb, hc⟩

theorem covers_of {L : LatD} {a b : Nat} (ha : a < L.names.length) (hb : b < L.names.length) (h : coverB L a b = true) : (a, b) ∈ covers L := by
  unfold covers coverTo coverRow
  simp only [List.mem_flatMap, List.mem_map, List.mem_filter, List.mem_range]
  exact ⟨a, ha, b, ⟨hb, h⟩, rfl⟩

theorem coverB_iff {L : LatD} (H : IsLat L) {a b : Nat} (ha : a < L.names.length) (hb : b < L.names.length) :
    coverB L a b = true ↔ a ≠ b ∧ leB L.up a b = true ∧ ∀ c, c < L.names.length → leB L.up a c = true → leB L.up c b = true → c = a ∨ c = b := by
  unfold coverB
  simp only [Bool.and_eq_true, bne_iff_ne, ne_eq, beq_iff_eq]
  constructor
  · rintro ⟨h1, h2, h3⟩
    refine ⟨h1, h2, fun c hc h4 h5 => ?_⟩
    rw [← H.conv c b hc hb] at h5
    have h6 : (L.up.getD a 0 &&& L.down.getD b 0).testBit c = true := by
      rw [Nat.testBit_and]; unfold leB at h4 h5; rw [h4, h5]; rfl
    rw [h3, Nat.testBit_or, Nat.testBit_two_pow, Nat.testBit_two_pow] at h6
    simp only [Bool.or_eq_true, decide_eq_true_eq] at h6
    omega
  · rintro ⟨h1, h2, h3⟩
    refine ⟨h1, h2, ?_⟩
    apply Nat.eq_of_testBit_eq
    intro i
    rw [Nat.testBit_and, Nat.testBit_or, Nat.testBit_two_pow, Nat.testBit_two_pow, Bool.eq_iff_iff]
    simp only [Bool.and_eq_true, Bool.or_eq_true, decide_eq_true_eq]
    constructor
    · rintro ⟨h4, h5⟩
      have hi : i < L.names.length := H.up.lt_of (a := a) h4
      have h5' : leB L.up i b = true := by rw [← H.conv i b hi hb]; exact h5
      have := h3 i hi h4 h5'
      omega
    · rintro (rfl | rfl)
      · exact ⟨H.up.refl _ ha, by have := H.conv a b ha hb; unfold leB at this h2; rw [this]; exact h2⟩
      · exact ⟨h2, by have := H.down.refl _ hb; exact this⟩

/-- Between the two of a cover there is nothing. -/
theorem covers_gap {L : LatD} (H : IsLat L) {q : Nat × Nat} (h : q ∈ covers L) {c : Nat} (hc : c < L.names.length) (h1 : c ≠ q.1) (h2 : c ≠ q.2) (h3 : belowB L (q.1 : Int) (c : Int) = true) : belowB L (c : Int) (q.2 : Int) = false := by
  obtain ⟨k1, k2, k3⟩ := covers_mem h
  rw [belowB_nat k1 hc] at h3
  rw [belowB_nat hc k2]
  cases hb : leB L.up c q.2 with
  | false => rfl
  | true =>
    have := ((coverB_iff H k1 k2).1 k3).2.2 c hc h3 hb
    omega

theorem pairsV_at (l : List (Nat × Nat)) {k : Nat} (h : k < l.length) : (pairsV l)[k * 2]? = some (.int .i64 (l[k].1 : Int)) ∧ (pairsV l)[k * 2 + 1]? = some (.int .i64 (l[k].2 : Int)) := by
  induction l generalizing k with
  | nil => simp at h
  | cons q l ih =>
    cases k with
    | zero => simp [pairsV]
    | succ k =>
      have := ih (k := k) (by simpa using h)
      simp only [pairsV, List.flatMap_cons, List.cons_append, List.nil_append] at this ⊢
      rw [show (k + 1) * 2 = k * 2 + 1 + 1 by omega]
      simpa using this

/-- Names, each once: a name's place is where it stands. -/
theorem placeI_get {names : List ByteArray} (h : checkE names = 0) {i : Nat} (hi : i < names.length) : placeI names names[i] = (i : Int) := by
  have hd : dupTo names names.length = false := by
    unfold checkE at h
    by_cases h0 : names.length = 0 ∨ 16 < names.length
    · rw [if_pos h0] at h; omega
    · rw [if_neg h0] at h
      by_cases h1 : names.all okS = false
      · rw [if_pos h1] at h; omega
      · rw [if_neg h1] at h
        cases hx : dupTo names names.length with
        | false => rfl
        | true => rw [hx] at h; simp at h
  unfold dupTo at hd
  rw [List.any_eq_false] at hd
  have hdi := hd i (List.mem_range.2 hi)
  have hg : names.getD i ByteArray.empty = names[i] := by rw [List.getD_eq_getElem?_getD, List.getElem?_eq_getElem hi]; rfl
  rw [hg] at hdi
  unfold placeI Lib.idxOfS
  rw [Lib.idxFromS_hit names[i] names i 0 hi hg ?_]
  · simp
  · intro j hj he
    apply hdi
    rw [Lib.containsS_iff]
    have hj' : j < names.length := by omega
    have : names.getD j ByteArray.empty = names[j] := by rw [List.getD_eq_getElem?_getD, List.getElem?_eq_getElem hj']; rfl
    rw [this] at he
    refine List.mem_iff_getElem.2 ⟨j, by simp; omega, ?_⟩
    rw [List.getElem_take]
    exact he

/-- The pairs of names that the covers are. -/
def coverPairs (names : List ByteArray) (l : List (Nat × Nat)) : List (ByteArray × ByteArray) := l.map fun q => (names.getD q.1 ByteArray.empty, names.getD q.2 ByteArray.empty)

/-- What lies between two places. -/
def midB (u : List Nat) (a b c : Nat) : Bool := leB u a c && leB u c b

theorem ext_sets {n : Nat} {u v : List Nat} (hu : Bnd n u) (hv : Bnd n v) (h : ∀ a b, a < n → (leB u a b = true ↔ leB v a b = true)) : u = v := by
  apply List.ext_getElem
  · rw [hu.1, hv.1]
  · intro i h1 h2
    have hi : i < n := by rw [← hu.1]; exact h1
    apply Nat.eq_of_testBit_eq
    intro j
    have := h i j hi
    unfold leB at this
    rw [List.getD_eq_getElem?_getD, List.getElem?_eq_getElem h1, List.getD_eq_getElem?_getD, List.getElem?_eq_getElem h2, ← Bool.eq_iff_iff] at this
    exact this

/-- What is below is come to by covers. -/
theorem chain {L : LatD} (H : IsLat L) (R : Nat → Nat → Prop) (hr : ∀ a, a < L.names.length → R a a) (ht : ∀ a b c, a < L.names.length → b < L.names.length → c < L.names.length → R a b → R b c → R a c)
    (hc : ∀ q ∈ covers L, R q.1 q.2) : ∀ (m : Nat) (a b : Nat), a < L.names.length → b < L.names.length → ((List.range L.names.length).countP (midB L.up a b)) ≤ m → leB L.up a b = true → R a b := by
  intro m
  induction m with
  | zero =>
    intro a b ha hb hm hab
    exfalso
    have h1 : 0 < (List.range L.names.length).countP (midB L.up a b) := List.countP_pos_iff.2 ⟨a, List.mem_range.2 ha, by unfold midB; rw [H.up.refl a ha, hab]; rfl⟩
    omega
  | succ m ih =>
    intro a b ha hb hm hab
    by_cases he : a = b
    · subst he; exact hr a ha
    · by_cases hcv : coverB L a b = true
      · exact hc (a, b) (covers_of ha hb hcv)
      · have : ∃ c, c < L.names.length ∧ leB L.up a c = true ∧ leB L.up c b = true ∧ c ≠ a ∧ c ≠ b := by
          apply Classical.byContradiction
          intro hn
          apply hcv
          refine (coverB_iff H ha hb).2 ⟨he, hab, fun c hc h1 h2 => ?_⟩
          apply Classical.byContradiction
          intro h3
          exact hn ⟨c, hc, h1, h2, fun e => h3 (.inl e), fun e => h3 (.inr e)⟩
        obtain ⟨c, hcn, h1, h2, h3, h4⟩ := this
        have less : ∀ (p q : Nat → Bool) (x : Nat) , x < L.names.length → p x = false → q x = true → (∀ y, y < L.names.length → p y = true → q y = true) → (List.range L.names.length).countP p < (List.range L.names.length).countP q := by
          intro p q x hx hp hq hpq
          have key : ∀ l : List Nat, (∀ y ∈ l, y < L.names.length) → l.countP p ≤ l.countP q ∧ (x ∈ l → l.countP p < l.countP q) := by
            intro l
            induction l with
            | nil => intro _; exact ⟨Nat.le_refl _, fun h => by simp at h⟩
            | cons y l ihl =>
              intro hy
              obtain ⟨g1, g2⟩ := ihl fun z hz => hy z (List.mem_cons_of_mem _ hz)
              rw [List.countP_cons, List.countP_cons]
              have hyl := hpq y (hy y (List.mem_cons_self ..))
              constructor
              · by_cases hpy : p y = true
                · rw [if_pos hpy, if_pos (hyl hpy)]; omega
                · rw [if_neg hpy]; omega
              · intro hm
                rcases List.mem_cons.1 hm with rfl | hm
                · rw [if_neg (by rw [hp]; simp), if_pos hq]; omega
                · have := g2 hm
                  by_cases hpy : p y = true
                  · rw [if_pos hpy, if_pos (hyl hpy)]; omega
                  · rw [if_neg hpy]; omega
          exact (key _ fun y hy => List.mem_range.1 hy).2 (List.mem_range.2 hx)
        have l1 : (List.range L.names.length).countP (midB L.up a c) < (List.range L.names.length).countP (midB L.up a b) := by
          refine less _ _ b hb ?_ ?_ ?_
          · unfold midB
            cases hbc : leB L.up b c with
            | false => simp
            | true => exact absurd (H.up.anti c b hcn hb h2 hbc) h4
          · unfold midB; rw [hab, H.up.refl b hb]; rfl
          · intro y hy hp
            unfold midB at hp ⊢
            rw [Bool.and_eq_true] at hp ⊢
            exact ⟨hp.1, H.up.trans y c b hy hcn hp.2 h2⟩
        have l2 : (List.range L.names.length).countP (midB L.up c b) < (List.range L.names.length).countP (midB L.up a b) := by
          refine less _ _ a ha ?_ ?_ ?_
          · unfold midB
            cases hbc : leB L.up c a with
            | false => simp
            | true => exact absurd (H.up.anti a c ha hcn h1 hbc).symm h3
          · unfold midB; rw [hab, H.up.refl a ha]; rfl
          · intro y hy hp
            unfold midB at hp ⊢
            rw [Bool.and_eq_true] at hp ⊢
            exact ⟨H.up.trans a c y ha hcn h1 hp.1, hp.2⟩
        exact ht a c b ha hcn hb (ih a c ha hcn (by omega) h1) (ih c b hcn hb (by omega) h2)

theorem coverPairs_mem {names : List ByteArray} {l : List (Nat × Nat)} {q : ByteArray × ByteArray} (h : q ∈ coverPairs names l) : ∃ c ∈ l, q = (names.getD c.1 ByteArray.empty, names.getD c.2 ByteArray.empty) := by
  unfold coverPairs at h
  rw [List.mem_map] at h
  obtain ⟨c, hc, rfl⟩ := h
  exact ⟨c, hc, rfl⟩

theorem getD_names {names : List ByteArray} {i : Nat} (hi : i < names.length) : names.getD i ByteArray.empty = names[i] := by
  rw [List.getD_eq_getElem?_getD, List.getElem?_eq_getElem hi]; rfl

/-- The covers make the same lattice. -/
theorem covers_same {names : List ByteArray} {pairs : List (ByteArray × ByteArray)} (h : newE names pairs = 0) :
    newL names (coverPairs names (covers (newL names pairs))) = newL names pairs ∧ newE names (coverPairs names (covers (newL names pairs))) = 0 := by
  have H := newL_lat h
  obtain ⟨hc, hp, hr⟩ := newE_zero h
  obtain ⟨hpos, hle⟩ := checkE_zero hc
  have hn : (newL names pairs).names = names := rfl
  have place : ∀ i, i < names.length → placeI names (names.getD i ByteArray.empty) = (i : Int) := fun i hi => by rw [getD_names hi]; exact placeI_get hc hi
  have hmem : ∀ q ∈ covers (newL names pairs), q.1 < names.length ∧ q.2 < names.length ∧ leB (newL names pairs).up q.1 q.2 = true := fun q hq => by
    obtain ⟨h1, h2, h3⟩ := covers_mem hq
    exact ⟨h1, h2, ((coverB_iff H h1 h2).1 h3).2.1⟩
  have hok : (coverPairs names (covers (newL names pairs))).all (pairOk names) = true := by
    rw [List.all_eq_true]
    intro q hq
    obtain ⟨c, hcm, rfl⟩ := coverPairs_mem hq
    obtain ⟨h1, h2, _⟩ := hmem c hcm
    unfold pairOk
    simp only [place _ h1, place _ h2]
    simp
  have hU := bnd_upP names _ hpos hok
  have hW := bnd_warsh _ _ hU
  have hul := upP_len names (coverPairs names (covers (newL names pairs)))
  have hup : (newL names (coverPairs names (covers (newL names pairs)))).up = (newL names pairs).up := by
    refine ext_sets hW H.up.bnd fun a b ha => ⟨fun hab => ?_, fun hab => ?_⟩
    · refine warshK_least names.length _ hul (fun a b => leB (newL names pairs).up a b = true) ?_ (fun a b c ha hb h1 h2 => H.up.trans a b c ha hb h1 h2) names.length (Nat.le_refl _) a b ha hab
      intro a b ha hab
      rcases (upP_le names _ hpos a b ha).1 hab with rfl | ⟨q, hq, h1, h2⟩
      · exact H.up.refl a ha
      · obtain ⟨c, hcm, rfl⟩ := coverPairs_mem hq
        obtain ⟨g1, g2, g3⟩ := hmem c hcm
        simp only [place _ g1, place _ g2, Int.toNat_natCast] at h1 h2
        rw [← h1, ← h2]; exact g3
    · have hb : b < names.length := H.up.lt_of hab
      have := chain H (fun a b => leB (warsh names.length (upP names (coverPairs names (covers (newL names pairs))))) a b = true)
        (fun a ha => warshK_more _ _ hul names.length a a ha ((upP_le names _ hpos a a ha).2 (.inl rfl)))
        (fun a b c ha hb _ h1 h2 => warshK_through names.length _ hul names.length (Nat.le_refl _) b hb a c ha h1 h2)
        (fun q hq => by
          obtain ⟨g1, g2, _⟩ := hmem q hq
          refine warshK_more _ _ hul names.length q.1 q.2 g1 ((upP_le names _ hpos q.1 q.2 g1).2 (.inr ⟨_, List.mem_map.2 ⟨q, hq, rfl⟩, ?_, ?_⟩))
          · simp only [place _ g1]; simp
          · simp only [place _ g2]; simp)
      exact this _ a b ha hb (Nat.le_refl _) hab
  have hL : newL names (coverPairs names (covers (newL names pairs))) = newL names pairs := by
    have h2 : (newL names (coverPairs names (covers (newL names pairs)))).down = (newL names pairs).down := by
      show downs _ (newL names (coverPairs names (covers (newL names pairs)))).up = downs _ (newL names pairs).up
      rw [hup]
    generalize e1 : newL names (coverPairs names (covers (newL names pairs))) = M at *
    generalize e2 : newL names pairs = K at *
    have h3 : M.names = K.names := by rw [← e1, ← e2]; rfl
    cases M; cases K
    simp only at h3 hup h2
    subst h3 hup h2; rfl
  refine ⟨hL, ?_⟩
  unfold newE
  rw [if_neg (by rw [hc]; simp), if_neg (by rw [hok]; simp), hL, if_neg (by rw [hr]; simp)]

/-- Each pair that was handed in stands. -/
theorem pairs_stand {names : List ByteArray} {pairs : List (ByteArray × ByteArray)} (h : newE names pairs = 0) {q : ByteArray × ByteArray} (hq : q ∈ pairs) : belowB (newL names pairs) (placeI names q.1) (placeI names q.2) = true := by
  have H := newL_lat h
  obtain ⟨hc, hp, hr⟩ := newE_zero h
  obtain ⟨hpos, hle⟩ := checkE_zero hc
  have h1 := List.all_eq_true.1 hp q hq
  unfold pairOk at h1
  rw [Bool.and_eq_true, decide_eq_true_eq, decide_eq_true_eq] at h1
  have l1 := placeI_lt names q.1 hpos
  have l2 := placeI_lt names q.2 hpos
  obtain ⟨a, ha⟩ := Int.eq_ofNat_of_zero_le h1.1
  obtain ⟨b, hb⟩ := Int.eq_ofNat_of_zero_le h1.2
  rw [ha] at l1 ⊢; rw [hb] at l2 ⊢
  have l1 : a < names.length := by omega
  have l2 : b < names.length := by omega
  rw [belowB_nat (L := newL names pairs) l1 l2]
  refine warshK_more names.length _ (upP_len _ _) names.length a b l1 ((upP_le names pairs hpos a b l1).2 (.inr ⟨q, hq, ?_, ?_⟩))
  · rw [ha]; rfl
  · rw [hb]; rfl

structure CovF (names : List ByteArray) (pairs : List (ByteArray × ByteArray)) (L : LatD) : Prop where
  nm : L.names = names
  lat : IsLat L
  stand : ∀ (k : Nat) (h : k < pairs.length), belowB L (placeI L.names pairs[k].1) (placeI L.names pairs[k].2) = true
  cov : ∀ (k : Nat) (h : k < (covers L).length), (covers L)[k].1 ≠ (covers L)[k].2 ∧ belowB L ((covers L)[k].1 : Int) ((covers L)[k].2 : Int) = true ∧ (covers L)[k].1 < names.length ∧ (covers L)[k].2 < names.length
  same : newL names (coverPairs names (covers L)) = L
  ok : newE names (coverPairs names (covers L)) = 0

theorem CovF.of {names : List ByteArray} {pairs : List (ByteArray × ByteArray)} (h : newE names pairs = 0) : CovF names pairs (newL names pairs) := by
  have H := newL_lat h
  refine ⟨rfl, H, fun k hk => pairs_stand h (List.getElem_mem hk), fun k hk => ?_, (covers_same h).1, (covers_same h).2⟩
  obtain ⟨h1, h2, h3⟩ := covers_mem (List.getElem_mem hk)
  have h4 := (coverB_iff H h1 h2).1 h3
  exact ⟨h4.1, by rw [belowB_nat h1 h2]; exact h4.2.1, h1, h2⟩
end Go.Proofs.YtckpffkofeoinaaDoor
