/- The document's lattice tells what comp's does. -/
import Derived.Test.YtckpffkofeoinaaGreatDoorRefPlain
import Derived.Test.YtckpffkofeoinaaGreatDoorRefNew
import Derived.Test.YtckpffkofeoinaaGreatDoorZLaws
namespace Go.Proofs.YtckpffkofeoinaaGreatDoor
open Go.RowKit Go.Proofs.YtckpffkofeoinaaGreatDoor.Lr Go.Proofs.YtckpffkofeoinaaGreatDoorW.PrintWords

structure Pre (n : Nat) (l : List Nat) : Prop where
  bnd : Bnd n l
  refl : ∀ a, a < n → leB l a a = true
  trans : ∀ a b c, a < n → b < n → leB l a b = true → leB l b c = true → leB l a c = true

theorem Pre.lt_of {n : Nat} {l : List Nat} (H : Pre n l) {a b : Nat} (h : leB l a b = true) : b < n := by
  have h1 := H.bnd.get a
  rcases Nat.lt_or_ge b n with h2 | h2
  · exact h2
  · exfalso
    have : 2 ^ n ≤ 2 ^ b := Nat.pow_le_pow_right (by omega) h2
    have h3 := Nat.testBit_lt_two_pow (x := l.getD a 0) (i := b) (by omega)
    rw [leB, h3] at h; cases h

theorem bnd_downs (n : Nat) (u : List Nat) : Bnd n (downs n u) := by
  have key : ∀ k, k ≤ n → Bnd n ((List.range k).foldl (dRow n u) (List.replicate n 0)) := by
    intro k
    induction k with
    | zero => intro _; exact Bnd.zeros _
    | succ k ih =>
      intro hk
      rw [List.range_succ, List.foldl_append]
      have h1 := ih (by omega)
      generalize (List.range k).foldl (dRow n u) (List.replicate n 0) = d at *
      have : ∀ m, Bnd n ((List.range m).foldl (dStep u k) d) := by
        intro m
        induction m with
        | zero => exact h1
        | succ m ihm =>
          rw [List.range_succ, List.foldl_append]
          show Bnd _ (dStep _ _ _ _)
          rw [dStep_eq]; split
          · exact ihm.set _ _ (Bnd.or (ihm.get m) (pow_lt (by omega)))
          · exact ihm
      exact this n
  exact key n (Nat.le_refl _)

theorem newL_pre {names : List ByteArray} {pairs : List (ByteArray × ByteArray)} (hpos : 0 < names.length) (hp : pairs.all (pairOk names) = true) :
    Pre names.length (newL names pairs).up ∧ Pre names.length (newL names pairs).down ∧ ∀ a b, a < names.length → b < names.length → leB (newL names pairs).down b a = leB (newL names pairs).up a b := by
  have hul := upP_len names pairs
  have hW : Bnd names.length (newL names pairs).up := bnd_warsh _ _ (bnd_upP names pairs hpos hp)
  have hD : Bnd names.length (newL names pairs).down := bnd_downs _ _
  have conv : ∀ a b, a < names.length → b < names.length → leB (newL names pairs).down b a = leB (newL names pairs).up a b := fun a b ha hb => downs_le _ _ a b ha hb
  have P : Pre names.length (newL names pairs).up := ⟨hW, fun a ha => warshK_more _ _ hul _ a a ha ((upP_le names pairs hpos a a ha).2 (.inl rfl)),
    fun a b c ha hb h1 h2 => warshK_through names.length _ hul names.length (Nat.le_refl _) b hb a c ha h1 h2⟩
  refine ⟨P, ⟨hD, fun a ha => by rw [conv a a ha ha]; exact P.refl a ha, fun a b c ha hb h1 h2 => ?_⟩, conv⟩
  have hcn : c < names.length := by
    have h3 := hD.get b
    rcases Nat.lt_or_ge c names.length with h4 | h4
    · exact h4
    · exfalso
      have : 2 ^ names.length ≤ 2 ^ c := Nat.pow_le_pow_right (by omega) h4
      rw [leB, Nat.testBit_lt_two_pow (by omega)] at h2; cases h2
  rw [conv b a hb ha] at h1
  rw [conv c b hcn hb] at h2
  rw [conv c a hcn ha]
  exact P.trans c b a hcn hb h2 h1

theorem lubTo_iff {le : Int → Int → Bool} {a b : Int} {c n : Nat} : lubTo le a b c n = true ↔ le a c = true ∧ le b c = true ∧ ∀ d, d < n → le a d = true → le b d = true → le c d = true := by
  unfold lubTo lubOk
  simp only [Bool.and_eq_true, List.all_eq_true, List.mem_range, Bool.or_eq_true, Bool.not_eq_true']
  constructor
  · rintro ⟨⟨h1, h2⟩, h3⟩
    refine ⟨h1, h2, fun d hd h4 h5 => ?_⟩
    rcases h3 d hd with h6 | h6 | h6
    · rw [h4] at h6; cases h6
    · rw [h5] at h6; cases h6
    · exact h6
  · rintro ⟨h1, h2, h3⟩
    refine ⟨⟨h1, h2⟩, fun d hd => ?_⟩
    cases h4 : le a d with
    | false => exact .inl rfl
    | true =>
      cases h5 : le b d with
      | false => exact .inr (.inl rfl)
      | true => exact .inr (.inr (h3 d hd h4 h5))

theorem lub_at {n : Nat} {l : List Nat} (P : Pre n l) {le : Int → Int → Bool} (hle : ∀ a b : Nat, a < n → b < n → le (a : Int) (b : Int) = leB l a b) {a b c : Nat} (ha : a < n) (hb : b < n) (hc : c < n) :
    lubTo le a b c n = decide (l.getD c 0 = (l.getD a 0 &&& l.getD b 0)) := by
  rw [Bool.eq_iff_iff, lubTo_iff, decide_eq_true_eq, hle a c ha hc, hle b c hb hc]
  constructor
  · rintro ⟨h1, h2, h3⟩
    apply Nat.eq_of_testBit_eq
    intro i
    rw [Nat.testBit_and, Bool.eq_iff_iff, Bool.and_eq_true]
    constructor
    · intro h
      exact ⟨P.trans a c i ha hc h1 h, P.trans b c i hb hc h2 h⟩
    · rintro ⟨h4, h5⟩
      have hi := P.lt_of (a := a) (b := i) h4
      have := h3 i hi (by rw [hle a i ha hi]; exact h4) (by rw [hle b i hb hi]; exact h5)
      rw [hle c i hc hi] at this
      exact this
  · intro h
    have hr := P.refl c hc
    rw [leB, h, Nat.testBit_and, Bool.and_eq_true] at hr
    refine ⟨hr.1, hr.2, fun d hd h1 h2 => ?_⟩
    rw [hle a d ha hd] at h1
    rw [hle b d hb hd] at h2
    rw [hle c d hc hd, leB, h, Nat.testBit_and, Bool.and_eq_true]
    exact ⟨h1, h2⟩

theorem ff_first {p : Nat → Bool} {n : Nat} : ∀ (d c i : Nat), c + d = i → i < n → p i = true → (∀ j, c ≤ j → j < i → p j = false) → ff p n c = (i : Int)
  | 0, c, i, h, hi, hp, _ => by
    obtain rfl : c = i := by omega
    exact ff_hit hi hp
  | d + 1, c, i, h, hi, hp, hno => by
    rw [ff_miss (by omega) (hno c (Nat.le_refl _) (by omega))]
    exact ff_first d (c + 1) i (by omega) hi hp (fun j h1 h2 => hno j (by omega) h2)
theorem ff_none {p : Nat → Bool} {n : Nat} : ∀ (d c : Nat), c + d = n → (∀ j, c ≤ j → j < n → p j = false) → ff p n c = -1
  | 0, c, h, _ => ff_end (by omega)
  | d + 1, c, h, hno => by
    rw [ff_miss (by omega) (hno c (Nat.le_refl _) (by omega))]
    exact ff_none d (c + 1) (by omega) (fun j h1 h2 => hno j (by omega) h2)

theorem firstI_ff (l : List Nat) (s : Nat) : firstI l s = ff (fun c => decide (l.getD c 0 = s)) l.length 0 := by
  by_cases hm : s ∈ l
  · have h0 : 0 ≤ firstI l s := by unfold firstI; rw [if_pos hm]; exact Int.natCast_nonneg _
    have hlt : l.idxOf s < l.length := List.idxOf_lt_length_iff.2 hm
    have e : firstI l s = ((l.idxOf s : Nat) : Int) := by unfold firstI; rw [if_pos hm]
    rw [e, ff_first (l.idxOf s) 0 (l.idxOf s) (by omega) hlt]
    · rw [decide_eq_true_eq, List.getD_eq_getElem?_getD, List.getElem?_eq_getElem hlt]; exact List.getElem_idxOf hlt
    · intro j _ hj
      have := List.not_of_lt_findIdx (p := (· == s)) (xs := l) (i := j) hj
      rw [decide_eq_false_iff_not, List.getD_eq_getElem?_getD, List.getElem?_eq_getElem (by omega)]
      simpa using this
  · have e : firstI l s = -1 := by unfold firstI; rw [if_neg hm]
    rw [e, ff_none l.length 0 (by omega)]
    intro j _ hj
    rw [decide_eq_false_iff_not, List.getD_eq_getElem?_getD, List.getElem?_eq_getElem hj]
    intro e2
    exact hm (by rw [← e2]; exact List.getElem_mem hj)

theorem lub_first {n : Nat} {l : List Nat} (P : Pre n l) {le : Int → Int → Bool} (hle : ∀ a b : Nat, a < n → b < n → le (a : Int) (b : Int) = leB l a b) {a b : Nat} (ha : a < n) (hb : b < n) : lubI le n a b = firstI l (l.getD a 0 &&& l.getD b 0) := by
  rw [firstI_ff, lubI, P.bnd.1]
  exact ff_congr (fun c hc => lub_at P hle ha hb hc) n 0 (by omega)

theorem lub_out {n : Nat} {le : Int → Int → Bool} (hout : ∀ x y, ¬ (0 ≤ x ∧ 0 ≤ y ∧ x < (n : Int) ∧ y < (n : Int)) → le x y = false) {a b : Int} (h : ¬ (0 ≤ a ∧ 0 ≤ b ∧ a < (n : Int) ∧ b < (n : Int))) : lubI le n a b = -1 := by
  refine ff_none n 0 (by omega) (fun c _ hc => ?_)
  refine Bool.eq_false_iff.2 (fun h1 => ?_)
  obtain ⟨h2, h3, _⟩ := lubTo_iff.1 h1
  refine h ⟨?_, ?_, ?_, ?_⟩ <;> refine Decidable.byContradiction fun h4 => ?_
  · rw [hout a c (by omega)] at h2; cases h2
  · rw [hout b c (by omega)] at h3; cases h3
  · rw [hout a c (by omega)] at h2; cases h2
  · rw [hout b c (by omega)] at h3; cases h3

section
variable {names : List ByteArray} {pairs : List (ByteArray × ByteArray)} {U : List (List Bool)} (hS : Shows names pairs U)
include hS

theorem Shows.rb (a b : Nat) (ha : a < names.length) (hb : b < names.length) : rB U names.length (a : Int) (b : Int) = leB (newL names pairs).up a b := by
  rw [rB, decide_eq_true ⟨by omega, by omega, by omega, by omega⟩, Bool.true_and, Int.toNat_natCast, Int.toNat_natCast, Bool.eq_iff_iff]
  exact hS.2 a b ha hb

theorem Shows.below (x y : Int) : rB U names.length x y = belowB (newL names pairs) x y := by
  by_cases h : 0 ≤ x ∧ 0 ≤ y ∧ x < (names.length : Int) ∧ y < (names.length : Int)
  · obtain ⟨h1, h2, h3, h4⟩ := h
    obtain ⟨a, rfl⟩ := Int.eq_ofNat_of_zero_le h1
    obtain ⟨b, rfl⟩ := Int.eq_ofNat_of_zero_le h2
    rw [hS.rb a b (by omega) (by omega), belowB, decide_eq_true (show 0 ≤ (a : Int) ∧ 0 ≤ (b : Int) ∧ (a : Int) < ((newL names pairs).names.length : Int) ∧ (b : Int) < ((newL names pairs).names.length : Int) from ⟨h1, h2, h3, h4⟩)]
    rfl
  · rw [rB, decide_eq_false h, belowB, decide_eq_false (show ¬ (0 ≤ x ∧ 0 ≤ y ∧ x < ((newL names pairs).names.length : Int) ∧ y < ((newL names pairs).names.length : Int)) from h)]
    rfl

theorem Shows.join (hpos : 0 < names.length) (hp : pairs.all (pairOk names) = true) (x y : Int) : lubI (rB U names.length) names.length x y = joinI (newL names pairs) x y := by
  obtain ⟨P, _, _⟩ := newL_pre hpos hp
  by_cases h : 0 ≤ x ∧ 0 ≤ y ∧ x < (names.length : Int) ∧ y < (names.length : Int)
  · obtain ⟨h1, h2, h3, h4⟩ := h
    obtain ⟨a, rfl⟩ := Int.eq_ofNat_of_zero_le h1
    obtain ⟨b, rfl⟩ := Int.eq_ofNat_of_zero_le h2
    rw [joinI, withinB, if_pos (decide_eq_true ⟨h1, h2, h3, h4⟩), atI, Int.toNat_natCast, Int.toNat_natCast]
    exact lub_first P hS.rb (by omega) (by omega)
  · rw [joinI, withinB, if_neg (by rw [decide_eq_true_eq]; exact h)]
    exact lub_out (fun x y h => by rw [rB, decide_eq_false h]; rfl) h

theorem Shows.meet (hpos : 0 < names.length) (hp : pairs.all (pairOk names) = true) (x y : Int) : lubI (fun x y => rB U names.length y x) names.length x y = meetI (newL names pairs) x y := by
  obtain ⟨_, P, conv⟩ := newL_pre hpos hp
  by_cases h : 0 ≤ x ∧ 0 ≤ y ∧ x < (names.length : Int) ∧ y < (names.length : Int)
  · obtain ⟨h1, h2, h3, h4⟩ := h
    obtain ⟨a, rfl⟩ := Int.eq_ofNat_of_zero_le h1
    obtain ⟨b, rfl⟩ := Int.eq_ofNat_of_zero_le h2
    rw [meetI, withinB, if_pos (decide_eq_true ⟨h1, h2, h3, h4⟩), atI, Int.toNat_natCast, Int.toNat_natCast]
    exact lub_first P (fun a b ha hb => by rw [hS.rb b a hb ha, conv b a hb ha]) (by omega) (by omega)
  · rw [meetI, withinB, if_neg (by rw [decide_eq_true_eq]; exact h)]
    exact lub_out (fun x y h => by rw [rB, decide_eq_false (fun h2 => h ⟨h2.2.1, h2.1, h2.2.2.2, h2.2.2.1⟩)]; rfl) h

theorem Shows.below_ev (x y : Int) : runnelref2_Lattice_Below.f names U x y = some (belowB (newL names pairs) x y) := by
  rw [rbelow_ev hS.1.1 hS.1.2, hS.below]
theorem Shows.join_ev (hle : names.length ≤ 16) (hpos : 0 < names.length) (hp : pairs.all (pairOk names) = true) (x y : Int) : ∃ k, runnelref2_Lattice_Join.f k names U x y = some (joinI (newL names pairs) x y) := by
  rw [← hS.join hpos hp]
  exact Join_ev (fun x y => rbelow_ev hS.1.1 hS.1.2 x y) hle x y
theorem Shows.meet_ev (hle : names.length ≤ 16) (hpos : 0 < names.length) (hp : pairs.all (pairOk names) = true) (x y : Int) : ∃ k, runnelref2_Lattice_Meet.f k names U x y = some (meetI (newL names pairs) x y) := by
  rw [← hS.meet hpos hp]
  exact Meet_ev (le := fun x y => rB U names.length y x) (fun x y => rbelow_ev hS.1.1 hS.1.2 y x) hle x y
end
end Go.Proofs.YtckpffkofeoinaaGreatDoor
