/- (*reader).line: whole. -/
import Derived.Test.YtckpffkofeoinaaDoorLineB
import Derived.Test.YtckpffkofeoinaaDoorLineC
namespace Go.Proofs.YtckpffkofeoinaaDoor
open Go.RowKit Go.Maps

theorem text_ne {x : ByteArray} {l : List UInt8} (h : ¬ x = ⟨l.toArray⟩) : (x.toList == l) = false := by
  rw [beq_eq_false_iff_ne]
  intro e
  apply h
  rw [ByteArray.toList_eq] at e
  cases x
  simp at e ⊢
  rw [← e]

theorem line_any (base p b A n : Nat) (r : RS) (ws : List ByteArray) (w : World) (hn : ws.length = n) (hR : Rd w (some ⟨A, 0, none⟩) (ws.map Value.string)) (hx : ∀ x ∈ ws, x.size ≤ 140737488351232) (hM : MaxL w) (hS : RdSt base p b r w)
    (hr : r.names.length ≤ 100000) (hr2 : r.below.length ≤ 100000) (hr3 : r.of.length ≤ 100000) :
    Calls Tryd.prog 22 #[.pointer (some ⟨p, 0, none⟩), .slice (some ⟨A, 0, none⟩) n n] w fun e w' => LinePost base p b w (lineF r ws) e w' := by
  subst hn
  have hat : ∀ (i : Nat) (x : ByteArray), ws[i]? = some x → w.cell? ⟨A, i, none⟩ = some (.string x) := fun i x hi => by
    rcases hR with h | ⟨b', o, h1, h2⟩
    · simp at h; subst h; simp at hi
    · cases h1
      have := h2 i (.string x) (by simp [hi])
      rwa [Nat.zero_add] at this
  by_cases h2 : ws.length = 2
  · obtain ⟨x0, x1, rfl⟩ : ∃ x0 x1, ws = [x0, x1] := by
      match ws, h2 with
      | [x0, x1], _ => exact ⟨x0, x1, rfl⟩
    have c0 := hat 0 x0 rfl
    have c1 := hat 1 x1 rfl
    by_cases h3 : x0 = bLevel
    · subst h3
      exact line_level base p b A 2 r x1 w (hx _ (by simp)) hS hr c0 c1
    · have e : lineF r [x0, x1] = (2, r) := by unfold lineF; rw [if_pos h2, if_neg (show ¬ w0 [x0, x1] = bLevel from h3)]
      rw [e]
      exact line_two base p b A 2 r x0 w hS (text_ne h3) c0
  · by_cases h3 : ws.length = 3
    · obtain ⟨x0, x1, x2, rfl⟩ : ∃ x0 x1 x2, ws = [x0, x1, x2] := by
        match ws, h3 with
        | [x0, x1, x2], _ => exact ⟨x0, x1, x2, rfl⟩
      have c0 := hat 0 x0 rfl
      have c1 := hat 1 x1 rfl
      have c2 := hat 2 x2 rfl
      by_cases h4 : x0 = bBelow
      · subst h4
        have e : lineF r [bBelow, x1, x2] = belowF r [bBelow, x1, x2] := by unfold lineF; rw [if_neg h2, if_pos h3, if_pos (show w0 [bBelow, x1, x2] = bBelow from rfl)]
        rw [e]
        exact line_below base p b A 3 r x1 x2 w hS hr hr2 c0 c1 c2
      · by_cases h5 : x0 = bChannel
        · subst h5
          have e : lineF r [bChannel, x1, x2] = chanF r [bChannel, x1, x2] := by unfold lineF; rw [if_neg h2, if_pos h3, if_neg (show ¬ w0 [bChannel, x1, x2] = bBelow from h4), if_pos (show w0 [bChannel, x1, x2] = bChannel from rfl)]
          rw [e]
          exact line_chan base p b A 3 r x1 x2 w (hx _ (by simp)) hM hS hr hr3 c0 c1 c2
        · have e : lineF r [x0, x1, x2] = (2, r) := by unfold lineF; rw [if_neg h2, if_pos h3, if_neg (show ¬ w0 [x0, x1, x2] = bBelow from h4), if_neg (show ¬ w0 [x0, x1, x2] = bChannel from h5)]
          rw [e]
          exact line_three base p b A 3 r x0 w hS (text_ne h4) (text_ne h5) c0
    · have e : lineF r ws = (2, r) := by unfold lineF; rw [if_neg h2, if_neg h3]
      rw [e]
      exact line_many base p b A ws.length ws.length r w hS (by omega) (by omega)
end Go.Proofs.YtckpffkofeoinaaDoor
