/- The document's place: where a text is. -/
import Derived.Test.YtckpffkofeoinaaGreatDoorZWords
namespace Go.Proofs.YtckpffkofeoinaaGreatDoor
open Go.RowKit Go.Maps

theorem getD_at {names : List ByteArray} {j : Nat} (h : j < names.length) : names.getD j ByteArray.empty = names[j] := by rw [List.getD_eq_getElem?_getD, List.getElem?_eq_getElem h]; rfl
theorem text_same {x : ByteArray} : (x.toList == x.toList) = true := by simp
theorem text_other {x y : ByteArray} (h : x ≠ y) : (x.toList == y.toList) = false := by
  rw [beq_eq_false_iff_ne]
  intro e
  rw [ByteArray.toList_eq, ByteArray.toList_eq] at e
  exact h (data_inj e)

set_option maxRecDepth 100000 in
set_option maxHeartbeats 2000000 in
theorem rplace22_any (A : Option Addr) (n c : Nat) (names : List ByteArray) (s : ByteArray) (w : World) (hn : names.length = n) (hr : Rd w A (names.map Value.string)) (hl : n ≤ 1000000) :
    Calls Tryz.prog 24 #[.slice A n c, .string s] w fun e w' => e = .returned (.int .i64 (Lib.idxOfS names s)) ∧ w' = w := by
  have HN := Lib.hid hn; have HR := Lib.hid hr; clear hn hr
  go_enter Tryz.func24, Tryz.ntmps24
  go_wp2_with fail
  go_loopw [5] (fun i wr => ∃ k : Nat, k ≤ n ∧ i = .int .i64 k ∧ Hid (∀ j : Nat, j < k → names.getD j ByteArray.empty ≠ s) ∧ wr = w) (fun i _ => n - (intOf i).toNat)
  case atStart => exact ⟨0, Nat.zero_le _, rfl, fun j hj => absurd hj (Nat.not_lt_zero j), rfl⟩
  case round =>
    obtain ⟨k, hk, rfl, HJ, rfl⟩ := hrel
    by_cases hlt : k < n
    · have hlt' : k < names.length := by rw [HN.out]; exact hlt
      obtain ⟨g, o, rfl, d1⟩ := HR.out.at (j := k) (v := .string names[k]) (by simp [hlt'])
      by_cases he : names[k] = s
      · have hf : Hid (Lib.idxOfS names s = (k : Int)) := by
          show _ = _
          have := Lib.idxFromS_hit s names k 0 hlt' (by rw [getD_at hlt']; exact he) HJ.out
          unfold Lib.idxOfS
          rw [this]; simp
        have ht : (names[k].toList == s.toList) = true := by rw [he]; exact text_same
        clear he
        generalize names[k] = q at *
        clear hlt'
        go_wp2
        go_ret
        exact ⟨ret_int hf.out.symm, rfl⟩
      · have HJ2 : Hid (∀ j : Nat, j < k + 1 → names.getD j ByteArray.empty ≠ s) := fun j hj => by
          by_cases e : j = k
          · subst e; rw [getD_at hlt']; exact he
          · exact HJ.out j (by omega)
        have ht := text_other he
        clear he
        generalize names[k] = q at *
        clear hlt'
        go_wp2
        go_roundw
        case rel => exact ⟨k + 1, by omega, by go_num, HJ2, trivial⟩
        case measure => simp [intOf]; omega
    · obtain rfl : k = n := by omega
      have hf : Hid (Lib.idxOfS names s = -1) := by
        show _ = _
        unfold Lib.idxOfS
        exact Lib.idxFromS_miss s names 0 (by rw [HN.out]; exact HJ.out)
      go_wp2
      go_ret
      exact ⟨ret_int hf.out.symm, rfl⟩
end Go.Proofs.YtckpffkofeoinaaGreatDoor
