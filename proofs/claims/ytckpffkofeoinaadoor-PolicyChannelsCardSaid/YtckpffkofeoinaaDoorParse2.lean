/- Parse, by what is known of its answer. -/
import Derived.Test.YtckpffkofeoinaaDoorPolicyMay
import Derived.Test.YtckpffkofeoinaaDoorPText
namespace Go.Proofs.YtckpffkofeoinaaDoor
open Go.RowKit Go.Maps

theorem parse_yes (s : ByteArray) (w : World) (hM : MaxL w) (h : (parseE s).1 = 0) :
    Calls Tryd.prog 8 #[.string s] w fun e w' => ∃ p, e = .returned (.tuple #[.pointer (some ⟨p, 0, none⟩), .int .i64 0, .int .i64 0]) ∧ Hid (Pol w' p (readF s).2.2) ∧ Hid (Below w.heap.size w w') := by
  refine (parse_any s w hM).mono ?_
  rintro e w' ⟨hb, ⟨_, p, he, hp⟩ | ⟨h2, _⟩⟩
  · exact ⟨p, he, hp, hb⟩
  · exact absurd h h2

theorem parse_no (s : ByteArray) (w : World) (hM : MaxL w) {c k : Int} (h1 : (parseE s).1 = c) (h2 : (parseE s).2 = k) (hc : c ≠ 0) :
    Calls Tryd.prog 8 #[.string s] w fun e w' => e = .returned (.tuple #[.pointer none, .int .i64 k, .int .i64 c]) ∧ Hid (Below w.heap.size w w') := by
  refine (parse_any s w hM).mono ?_
  rintro e w' ⟨hb, ⟨h, _⟩ | ⟨_, he⟩⟩
  · rw [h] at h1; exact absurd h1.symm hc
  · exact ⟨by rw [he, h1, h2], hb⟩

theorem parse_zero {s : ByteArray} (h : (parseE s).1 = 0) : parseE s = (0, 0) ∧ newE (readF s).2.2.names (readF s).2.2.below = 0 := by
  have key : parseE s = (0, 0) := by
    unfold parseE at h ⊢
    split
    · rename_i h1; rw [if_pos h1] at h; exact absurd h (by decide)
    · rename_i h1
      rw [if_neg h1] at h
      split
      · rename_i h2; rw [if_pos h2] at h; exact absurd h h2
      · rename_i h2
        rw [if_neg h2] at h
        split
        · rename_i h3; rw [if_pos h3] at h; exact absurd h h3
        · rfl
  exact ⟨key, parse_ok key⟩

theorem linesTo_le : ∀ (ls : List ByteArray) (r : RS) (k : Nat), (linesTo r k ls).2.1 ≤ k + (ls.map fun x => x.size + 1).sum
  | [], r, k => by simp [linesTo]
  | l :: ls, r, k => by
    unfold linesTo
    rw [List.map_cons, List.sum_cons]
    split
    · have := linesTo_le ls r (k + (l.size + 1)); omega
    · split
      · have := linesTo_le ls (lineF r (wordsF l)).2 (k + (l.size + 1)); omega
      · simp <;> omega

theorem lines_sum : ∀ (l : List UInt8), ((linesL l).map fun x => x.length + 1).sum = l.length + 1
  | [] => rfl
  | c :: l => by
    have ih := lines_sum l
    rw [linesL_cons]
    split
    · simp [ih]; omega
    · split
      · rename_i e; exact absurd e (linesL_ne l)
      · rename_i e; rw [e] at ih; simp at ih ⊢; omega

theorem linesF_sum (s : ByteArray) : ((linesF s).map fun x => x.size + 1).sum = s.size + 1 := by
  rw [linesF_eq, List.map_map]
  have : (fun x : ByteArray => x.size + 1) ∘ mkB = fun x : List UInt8 => x.length + 1 := by funext x; simp [mkB_size]
  rw [this, lines_sum]; simp

theorem parse_small (s : ByteArray) : 0 ≤ (parseE s).2 ∧ (parseE s).2 ≤ (s.size : Int) + 1 := by
  have h := linesTo_le (linesF s) RS.none 0
  rw [linesF_sum] at h
  have h2 : (readF s).2.1 ≤ s.size + 1 := by unfold readF; omega
  unfold parseE
  repeat' split
  all_goals (constructor <;> simp <;> omega)
end Go.Proofs.YtckpffkofeoinaaDoor
