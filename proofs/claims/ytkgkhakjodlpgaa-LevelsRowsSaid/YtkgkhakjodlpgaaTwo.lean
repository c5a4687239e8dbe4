/- Two lattices beside one another, and two rows of pairs that grow beside one another. -/
import Derived.Test.YtkgkhakjodlpgaaSamePairs
namespace Go.Proofs.Ytkgkhakjodlpgaa
open Go.RowKit

/-- Two lattices, in two blocks. -/
def St2 (w0 : World) (p q : Nat) (L M : LatD) (w : World) : Prop := St w0 p L w ∧ St w0 q M w ∧ p ≠ q

theorem Lat.block {w : World} {p : Nat} {L : LatD} (h : Lat w p L) : ∃ c fr, w.heap[p]? = some (.cells c 76 fr) := by
  obtain ⟨vn, vu, vd, d, vj, vm, h0, _⟩ := h
  exact ⟨_, _, h0⟩

theorem St2.left {w0 w w' : World} {p q : Nat} {L M : LatD} (h : St2 w0 p q L M w) (h1 : Lat w' p L ∧ w.grownBy w' (some p)) : St2 w0 p q L M w' := by
  obtain ⟨c, fr, hb⟩ := h.1.1.block
  have h2 := h.1.grown h1
  exact ⟨h2, ⟨h.2.1.1.keep h1.2 hb (Ne.symm h.2.2), h2.2.1, h.2.1.2.2⟩, h.2.2⟩
theorem St2.right {w0 w w' : World} {p q : Nat} {L M : LatD} (h : St2 w0 p q L M w) (h1 : Lat w' q M ∧ w.grownBy w' (some q)) : St2 w0 p q L M w' := by
  obtain ⟨c, fr, hb⟩ := h.2.1.1.block
  have h2 := h.2.1.grown h1
  exact ⟨⟨h.1.1.keep h1.2 hb h.2.2, h2.2.1, h.1.2.2⟩, h2, h.2.2⟩
theorem St2.drewN {w0 w : World} {p q : Nat} {L M : LatD} (h : St2 w0 p q L M w) (n : Nat) : St2 w0 p q L M (w.drewN n) := ⟨h.1.drewN n, h.2.1.drewN n, h.2.2⟩
theorem St2.below {w0 w : World} {p q : Nat} {L M : LatD} (h : St2 w0 p q L M w) : Below w0.heap.size w0 w := h.1.2.1

section
variable {w0 w : World} (p q : Nat) (L M : LatD) (a b : Int) (h : St2 w0 p q L M w)
include h
theorem join_l : Calls Try.prog 17 #[.pointer (some ⟨p, 0, none⟩), .int .i64 a, .int .i64 b] w fun e w' => e = .returned (.int .i64 (joinI L a b)) ∧ Hid (St2 w0 p q L M w') :=
  (join_any p L a b w h.1.1).mono fun _ _ h1 => ⟨h1.1, h.left h1.2.out⟩
theorem meet_l : Calls Try.prog 18 #[.pointer (some ⟨p, 0, none⟩), .int .i64 a, .int .i64 b] w fun e w' => e = .returned (.int .i64 (meetI L a b)) ∧ Hid (St2 w0 p q L M w') :=
  (meet_any p L a b w h.1.1).mono fun _ _ h1 => ⟨h1.1, h.left h1.2.out⟩
theorem join_r : Calls Try.prog 17 #[.pointer (some ⟨q, 0, none⟩), .int .i64 a, .int .i64 b] w fun e w' => e = .returned (.int .i64 (joinI M a b)) ∧ Hid (St2 w0 p q L M w') :=
  (join_any q M a b w h.2.1.1).mono fun _ _ h1 => ⟨h1.1, h.right h1.2.out⟩
theorem meet_r : Calls Try.prog 18 #[.pointer (some ⟨q, 0, none⟩), .int .i64 a, .int .i64 b] w fun e w' => e = .returned (.int .i64 (meetI M a b)) ∧ Hid (St2 w0 p q L M w') :=
  (meet_any q M a b w h.2.1.1).mono fun _ _ h1 => ⟨h1.1, h.right h1.2.out⟩
theorem below_r : Calls Try.prog 19 #[.pointer (some ⟨q, 0, none⟩), .int .i64 a, .int .i64 b] w fun e w' => e = .returned (.bool (belowB M a b)) ∧ w = w' :=
  below_any q M a b w h.2.1.1
theorem top_l : Calls Try.prog 20 #[.pointer (some ⟨p, 0, none⟩)] w fun e w' => e = .returned (.int .i64 (topI L)) ∧ Hid (St2 w0 p q L M w') :=
  (top_any p L w h.1.1).mono fun _ _ h1 => ⟨h1.1, by obtain ⟨n, hn⟩ := h1.2; rw [hn]; exact h.drewN n⟩
theorem bottom_r : Calls Try.prog 21 #[.pointer (some ⟨q, 0, none⟩)] w fun e w' => e = .returned (.int .i64 (bottomI M)) ∧ Hid (St2 w0 p q L M w') :=
  (bottom_any q M w h.2.1.1).mono fun _ _ h1 => ⟨h1.1, by obtain ⟨n, hn⟩ := h1.2; rw [hn]; exact h.drewN n⟩
end

/-- Two rows in two blocks. -/
def Apart (r s : Value) : Prop := s.ownBlock = none ∨ s.ownBlock ≠ r.ownBlock ∨ r.ownBlock = none

theorem Apart.keep {w w' : World} {base e size n : Nat} {r s : Value} {xs : List Value} (h : Apart r s) (ho : w.ownsRow base e size s n xs) (hg : w.grownBy w' r.ownBlock) : w'.ownsRow base e size s n xs := by
  refine ho.kept hg ?_
  rcases h with h | h | h
  · exact .inl h
  · exact .inr h
  · rw [h]
    cases hs : s.ownBlock with
    | none => exact .inl rfl
    | some g => exact .inr (by simp)

theorem Apart.grown {w : World} {base e size n : Nat} {r s : Value} {xs : List Value} {g m cap : Nat} (h : Apart r s) (ho : w.ownsRow base e size s n xs) (hat : r.ownBlock = some g ∨ g = w.heap.size) : Apart (.slice (some ⟨g, 0, none⟩) m cap) s := by
  cases hs : s.ownBlock with
  | none => exact .inl hs
  | some b =>
    right; left
    rw [hs]
    have hlt := (ho.lt b hs).2
    simp only [Value.ownBlock]
    rcases hat with hat | hat
    · rcases h with h | h | h
      · rw [h] at hs; cases hs
      · rw [hs, hat] at h; exact h
      · rw [h] at hat; cases hat
    · intro e; injection e with e; omega

theorem Apart.symm {r s : Value} (h : Apart r s) : Apart s r := by
  rcases h with h | h | h
  · exact .inr (.inr h)
  · exact .inr (.inl (Ne.symm h))
  · exact .inl h
end Go.Proofs.Ytkgkhakjodlpgaa
