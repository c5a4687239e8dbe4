/- What the printed functions of the document's lattice come to. -/
import Derived.Test.YtckpffkofeoinaaGreatDoorRefCov
namespace Go.Proofs.YtckpffkofeoinaaGreatDoor
open Go.RowKit Go.Proofs.YtckpffkofeoinaaGreatDoor.Lr Go.Proofs.YtckpffkofeoinaaGreatDoorW.PrintWords

theorem wrap1 {n : Nat} (h : n < 4611686018427387904) : wrap64 ((n : Int) + 1) = ((n + 1 : Nat) : Int) := by unfold wrap64; omega

/-- The first place from c on that is so. -/
def ff (p : Nat → Bool) (n c : Nat) : Int := match (List.range' c (n - c)).find? p with | some x => (x : Int) | none => -1

theorem ff_end {p : Nat → Bool} {n c : Nat} (h : n ≤ c) : ff p n c = -1 := by
  unfold ff
  rw [show n - c = 0 by omega]; rfl
theorem ff_hit {p : Nat → Bool} {n c : Nat} (h : c < n) (hp : p c = true) : ff p n c = (c : Int) := by
  unfold ff
  rw [show n - c = (n - c - 1) + 1 by omega, List.range'_succ, List.find?_cons, hp]
theorem ff_miss {p : Nat → Bool} {n c : Nat} (h : c < n) (hp : p c = false) : ff p n c = ff p n (c + 1) := by
  unfold ff
  rw [show n - c = (n - (c + 1)) + 1 by omega, List.range'_succ, List.find?_cons, hp]
theorem ff_congr {p s : Nat → Bool} {n : Nat} (h : ∀ c, c < n → p c = s c) : ∀ d c, c + d = n → ff p n c = ff s n c
  | 0, c, hc => by rw [ff_end (by omega), ff_end (by omega)]
  | d + 1, c, hc => by
    have ih := ff_congr h d (c + 1) (by omega)
    have hx := h c (by omega)
    cases hp : p c with
    | true => rw [ff_hit (p := p) (n := n) (c := c) (by omega) hp, ff_hit (p := s) (n := n) (c := c) (by omega) (by rw [← hx]; exact hp)]
    | false => rw [ff_miss (p := p) (n := n) (c := c) (by omega) hp, ff_miss (p := s) (n := n) (c := c) (by omega) (by rw [← hx]; exact hp), ih]

/-- Below, at any two numbers. -/
def rB (U : List (List Bool)) (n : Nat) (x y : Int) : Bool := decide (0 ≤ x ∧ 0 ≤ y ∧ x < (n : Int) ∧ y < (n : Int)) && bit U x.toNat y.toNat

theorem rbelow_ev {names : List ByteArray} {U : List (List Bool)} (hl : U.length = names.length) (hw : ∀ i, i < names.length → (U.getD i []).length = names.length) (x y : Int) : runnelref2_Lattice_Below.f names U x y = some (rB U names.length x y) := by
  by_cases h : 0 ≤ x ∧ 0 ≤ y ∧ x < (names.length : Int) ∧ y < (names.length : Int)
  · obtain ⟨h1, h2, h3, h4⟩ := h
    obtain ⟨a, rfl⟩ := Int.eq_ofNat_of_zero_le h1
    obtain ⟨b, rfl⟩ := Int.eq_ofNat_of_zero_le h2
    rw [below_bit hl hw (by omega) (by omega), rB, decide_eq_true ⟨h1, h2, h3, h4⟩]
    simp
  · rw [rB, decide_eq_false h]
    unfold runnelref2_Lattice_Below.f
    by_cases h1 : x ≥ 0
    · rw [if_pos h1]
      by_cases h2 : y ≥ 0
      · rw [if_pos h2]
        by_cases h3 : x < (names.length : Int)
        · rw [if_pos h3, if_neg (fun h4 => h ⟨h1, h2, h3, h4⟩)]; rfl
        · rw [if_neg h3]; rfl
      · rw [if_neg h2]; rfl
    · rw [if_neg h1]; rfl

/-- The least one that both are below, as the document looks for it. -/
def lubOk (le : Int → Int → Bool) (a b : Int) (c d : Nat) : Bool := !le a d || (!le b d || le c d)
def lubTo (le : Int → Int → Bool) (a b : Int) (c d : Nat) : Bool := (le a c && le b c) && (List.range d).all (lubOk le a b c)
def lubI (le : Int → Int → Bool) (n : Nat) (a b : Int) : Int := ff (fun c => lubTo le a b c n) n 0

theorem lubTo_succ (le : Int → Int → Bool) (a b : Int) (c d : Nat) : lubTo le a b c (d + 1) = (lubTo le a b c d && lubOk le a b c d) := by
  unfold lubTo
  rw [List.range_succ, List.all_append, Bool.and_assoc, Bool.and_assoc, Bool.and_assoc]
  simp
theorem lubTo_false {le : Int → Int → Bool} {a b : Int} {c d n : Nat} (h : d ≤ n) (h0 : lubTo le a b c d = false) : lubTo le a b c n = false := by
  induction n with
  | zero => obtain rfl : d = 0 := by omega
            exact h0
  | succ n ih =>
    by_cases e : d = n + 1
    · subst e; exact h0
    · rw [lubTo_succ, ih (by omega)]; rfl

inductive LS where
  | l0 (c : Nat)
  | l1 (c d : Nat)
def LInv2 (n : Nat) : LS → Prop
  | .l0 c => c ≤ n
  | .l1 c d => c < n ∧ d ≤ n
def LS.c : LS → Nat
  | .l0 c => c
  | .l1 c _ => c
def LM2 (n : Nat) : LS → Nat
  | .l0 c => (n - c) * 64 + 32
  | .l1 c d => (n - c) * 64 - d

def JoinAt (names : List ByteArray) (U : List (List Bool)) (le : Int → Int → Bool) (a b : Int) (k : Nat) : LS → Option Int
  | .l0 c => runnelref2_Lattice_Join.l0 k a b (c : Int) names U
  | .l1 c d => runnelref2_Lattice_Join.l1 k a b (c : Int) (lubTo le a b c d) (d : Int) names U

theorem Join_from {names : List ByteArray} {U : List (List Bool)} {le : Int → Int → Bool} (hle : ∀ x y, runnelref2_Lattice_Below.f names U x y = some (le x y)) (hn : names.length ≤ 16) (a b : Int) :
    ∀ s, LInv2 names.length s → ∃ k r, JoinAt names U le a b k s = some r ∧ r = ff (fun c => lubTo le a b c names.length) names.length s.c := by
  refine loop_ends (JoinAt names U le a b) (LInv2 names.length) (fun s r => r = ff (fun c => lubTo le a b c names.length) names.length s.c) (LM2 names.length) ?_
  rintro (c | ⟨c, d⟩) hI
  · simp only [LInv2] at hI
    by_cases hlt : c < names.length
    · refine .inr ⟨.l1 c 0, ⟨hlt, Nat.zero_le _⟩, by simp only [LM2]; omega, fun k r hk hp => ⟨k + 2, ?_, hp⟩⟩
      simp only [JoinAt] at hk ⊢
      have e0 : lubTo le a b c 0 = (le a c && le b c) := by simp [lubTo]
      rw [e0] at hk
      simp only [runnelref2_Lattice_Join.l0]
      rw [if_pos (by omega), hle a (c : Int)]
      simp only [Option.bind_some]
      cases h1 : le a (c : Int) with
      | true =>
        rw [h1, Bool.true_and] at hk
        rw [if_pos rfl, hle b (c : Int)]
        simp only [Option.bind_some, runnelref2_Lattice_Join.j1]
        exact hk
      | false =>
        rw [h1, Bool.false_and] at hk
        simp only [Bool.false_eq_true, if_false, runnelref2_Lattice_Join.j1]
        exact hk
    · refine .inl ⟨1, -1, ?_, ?_⟩
      · simp only [JoinAt, runnelref2_Lattice_Join.l0]
        rw [if_neg (by omega)]
      · show _ = ff _ _ c
        rw [ff_end (by omega)]
  · obtain ⟨hc, hd⟩ := hI
    have hs := lubTo_succ le a b c d
    cases hv : lubTo le a b c d with
    | false =>
      have hf := lubTo_false hd hv
      refine .inr ⟨.l0 (c + 1), hc, by simp only [LM2]; omega, fun k r hk hp => ⟨k + 2, ?_, ?_⟩⟩
      · simp only [JoinAt, hv] at hk ⊢
        simp only [runnelref2_Lattice_Join.l1, runnelref2_Lattice_Join.j3]
        have hgo : (if False then some (c : Int) else runnelref2_Lattice_Join.l0 k a b (wrap64 ((c : Int) + 1)) names U) = some r := by
          rw [if_neg (by simp), wrap1 (by omega)]; exact hk
        split
        · simpa using hgo
        · simpa using hgo
      · rw [hp]
        show ff _ _ (c + 1) = ff _ _ c
        rw [ff_miss (p := fun c => lubTo le a b c names.length) hc hf]
    | true =>
      by_cases hlt : d < names.length
      · refine .inr ⟨.l1 c (d + 1), ⟨hc, hlt⟩, by simp only [LM2]; omega, fun k r hk hp => ⟨k + 2, ?_, hp⟩⟩
        simp only [JoinAt, hv] at hk ⊢
        rw [hs, hv, Bool.true_and, lubOk] at hk
        simp only [runnelref2_Lattice_Join.l1, runnelref2_Lattice_Join.j3]
        rw [if_pos (by omega), if_pos trivial, hle a (d : Int)]
        simp only [Option.bind_some]
        cases h1 : le a (d : Int) with
        | false =>
          rw [h1] at hk
          simp only [Bool.false_eq_true, if_false]
          rw [wrap1 (by omega)]
          simpa using hk
        | true =>
          rw [h1] at hk
          rw [if_pos rfl, hle b (d : Int)]
          simp only [Option.bind_some]
          cases h2 : le b (d : Int) with
          | false =>
            rw [h2] at hk
            simp only [Bool.false_eq_true, if_false]
            rw [wrap1 (by omega)]
            simpa using hk
          | true =>
            rw [h2] at hk
            rw [if_pos rfl, hle (c : Int) (d : Int)]
            simp only [Option.bind_some]
            rw [wrap1 (by omega)]
            simpa using hk
      · obtain rfl : d = names.length := by omega
        refine .inl ⟨2, (c : Int), ?_, ?_⟩
        · simp only [JoinAt, hv, runnelref2_Lattice_Join.l1, runnelref2_Lattice_Join.j3]
          rw [if_neg (by omega)]
          simp
        · show _ = ff _ _ c
          rw [ff_hit (p := fun c => lubTo le a b c names.length) hc hv]

theorem Join_ev {names : List ByteArray} {U : List (List Bool)} {le : Int → Int → Bool} (hle : ∀ x y, runnelref2_Lattice_Below.f names U x y = some (le x y)) (hn : names.length ≤ 16) (a b : Int) :
    ∃ k, runnelref2_Lattice_Join.f k names U a b = some (lubI le names.length a b) := by
  obtain ⟨k, r, h1, rfl⟩ := Join_from hle hn a b (.l0 0) (Nat.zero_le _)
  exact ⟨k, h1⟩

def MeetAt (names : List ByteArray) (U : List (List Bool)) (le : Int → Int → Bool) (a b : Int) (k : Nat) : LS → Option Int
  | .l0 c => runnelref2_Lattice_Meet.l0 k a b (c : Int) names U
  | .l1 c d => runnelref2_Lattice_Meet.l1 k a b (c : Int) (lubTo le a b c d) (d : Int) names U

theorem Meet_from {names : List ByteArray} {U : List (List Bool)} {le : Int → Int → Bool} (hle : ∀ x y, runnelref2_Lattice_Below.f names U y x = some (le x y)) (hn : names.length ≤ 16) (a b : Int) :
    ∀ s, LInv2 names.length s → ∃ k r, MeetAt names U le a b k s = some r ∧ r = ff (fun c => lubTo le a b c names.length) names.length s.c := by
  refine loop_ends (MeetAt names U le a b) (LInv2 names.length) (fun s r => r = ff (fun c => lubTo le a b c names.length) names.length s.c) (LM2 names.length) ?_
  rintro (c | ⟨c, d⟩) hI
  · simp only [LInv2] at hI
    by_cases hlt : c < names.length
    · refine .inr ⟨.l1 c 0, ⟨hlt, Nat.zero_le _⟩, by simp only [LM2]; omega, fun k r hk hp => ⟨k + 2, ?_, hp⟩⟩
      simp only [MeetAt] at hk ⊢
      have e0 : lubTo le a b c 0 = (le a c && le b c) := by simp [lubTo]
      rw [e0] at hk
      simp only [runnelref2_Lattice_Meet.l0]
      rw [if_pos (by omega), hle a (c : Int)]
      simp only [Option.bind_some]
      cases h1 : le a (c : Int) with
      | true =>
        rw [h1, Bool.true_and] at hk
        rw [if_pos rfl, hle b (c : Int)]
        simp only [Option.bind_some, runnelref2_Lattice_Meet.j1]
        exact hk
      | false =>
        rw [h1, Bool.false_and] at hk
        simp only [Bool.false_eq_true, if_false, runnelref2_Lattice_Meet.j1]
        exact hk
    · refine .inl ⟨1, -1, ?_, ?_⟩
      · simp only [MeetAt, runnelref2_Lattice_Meet.l0]
        rw [if_neg (by omega)]
      · show _ = ff _ _ c
        rw [ff_end (by omega)]
  · obtain ⟨hc, hd⟩ := hI
    have hs := lubTo_succ le a b c d
    cases hv : lubTo le a b c d with
    | false =>
      have hf := lubTo_false hd hv
      refine .inr ⟨.l0 (c + 1), hc, by simp only [LM2]; omega, fun k r hk hp => ⟨k + 2, ?_, ?_⟩⟩
      · simp only [MeetAt, hv] at hk ⊢
        simp only [runnelref2_Lattice_Meet.l1, runnelref2_Lattice_Meet.j3]
        have hgo : (if False then some (c : Int) else runnelref2_Lattice_Meet.l0 k a b (wrap64 ((c : Int) + 1)) names U) = some r := by
          rw [if_neg (by simp), wrap1 (by omega)]; exact hk
        split
        · simpa using hgo
        · simpa using hgo
      · rw [hp]
        show ff _ _ (c + 1) = ff _ _ c
        rw [ff_miss (p := fun c => lubTo le a b c names.length) hc hf]
    | true =>
      by_cases hlt : d < names.length
      · refine .inr ⟨.l1 c (d + 1), ⟨hc, hlt⟩, by simp only [LM2]; omega, fun k r hk hp => ⟨k + 2, ?_, hp⟩⟩
        simp only [MeetAt, hv] at hk ⊢
        rw [hs, hv, Bool.true_and, lubOk] at hk
        simp only [runnelref2_Lattice_Meet.l1, runnelref2_Lattice_Meet.j3]
        rw [if_pos (by omega), if_pos trivial, hle a (d : Int)]
        simp only [Option.bind_some]
        cases h1 : le a (d : Int) with
        | false =>
          rw [h1] at hk
          simp only [Bool.false_eq_true, if_false]
          rw [wrap1 (by omega)]
          simpa using hk
        | true =>
          rw [h1] at hk
          rw [if_pos rfl, hle b (d : Int)]
          simp only [Option.bind_some]
          cases h2 : le b (d : Int) with
          | false =>
            rw [h2] at hk
            simp only [Bool.false_eq_true, if_false]
            rw [wrap1 (by omega)]
            simpa using hk
          | true =>
            rw [h2] at hk
            rw [if_pos rfl, hle (c : Int) (d : Int)]
            simp only [Option.bind_some]
            rw [wrap1 (by omega)]
            simpa using hk
      · obtain rfl : d = names.length := by omega
        refine .inl ⟨2, (c : Int), ?_, ?_⟩
        · simp only [MeetAt, hv, runnelref2_Lattice_Meet.l1, runnelref2_Lattice_Meet.j3]
          rw [if_neg (by omega)]
          simp
        · show _ = ff _ _ c
          rw [ff_hit (p := fun c => lubTo le a b c names.length) hc hv]

theorem Meet_ev {names : List ByteArray} {U : List (List Bool)} {le : Int → Int → Bool} (hle : ∀ x y, runnelref2_Lattice_Below.f names U y x = some (le x y)) (hn : names.length ≤ 16) (a b : Int) :
    ∃ k, runnelref2_Lattice_Meet.f k names U a b = some (lubI le names.length a b) := by
  obtain ⟨k, r, h1, rfl⟩ := Meet_from hle hn a b (.l0 0) (Nat.zero_le _)
  exact ⟨k, h1⟩

theorem place_ev {names : List ByteArray} (hn : names.length ≤ 16) (U : List (List Bool)) (s : ByteArray) : ∃ k, runnelref2_Lattice_Place.f k names U s = some (placeI names s) := by
  have key : ∀ d i : Nat, i + d = names.length → (∀ j, j < i → names.getD j ByteArray.empty ≠ s) → runnelref2_Lattice_Place.l0 (d + 1) s (i : Int) names U = some (placeI names s) := by
    intro d
    induction d with
    | zero =>
      intro i h1 h2
      simp only [runnelref2_Lattice_Place.l0]
      rw [if_neg (by omega), placeI, Lib.idxOfS, Lib.idxFromS_miss s names 0 (fun j hj => h2 j (by omega))]
    | succ d ih =>
      intro i h1 h2
      simp only [runnelref2_Lattice_Place.l0]
      have e : rdOf ByteArray.empty names (i : Int) = names.getD i ByteArray.empty := by simp [rdOf]
      rw [if_pos (by omega), if_pos (by omega), e]
      by_cases h3 : names.getD i ByteArray.empty = s
      · rw [if_pos (by rw [h3]), placeI, Lib.idxOfS, Lib.idxFromS_hit s names i 0 (by omega) h3 h2]
        simp
      · rw [if_neg (fun h4 => h3 (by rw [ByteArray.toList_eq, ByteArray.toList_eq] at h4; exact ByteArray.ext (Array.toList_inj.1 h4))), wrap1 (by omega)]
        refine ih (i + 1) (by omega) (fun j hj => ?_)
        by_cases e2 : j = i
        · subst e2; exact h3
        · exact h2 j (by omega)
  exact ⟨_, key names.length 0 (by omega) (fun j hj => by omega)⟩
end Go.Proofs.YtckpffkofeoinaaGreatDoor
