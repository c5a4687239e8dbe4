/- token.Ident: whole. -/
import Derived.Test.YtckpffkofeoinaaDoorIdent
namespace Go.Proofs.YtckpffkofeoinaaDoor
open Go.RowKit

set_option maxRecDepth 100000 in
theorem ident_any (s : ByteArray) (w : World) (hs : s.size ≤ 140737488351232) (hm : MaxL w) :
    Calls Tryd.prog 7 #[.string s] w fun e w' => e = .returned (.bool (identOk s.data.toList)) ∧ Below w.heap.size w w' := by
  have hsz : s.data.toList.length = s.size := by simp
  by_cases h0 : s.size = 0
  · have e1 : s.toList = [] := by rw [ByteArray.toList_eq]; exact List.eq_nil_of_length_eq_zero (by omega)
    have e2 : (!s.toList.isEmpty) = false := by simp [e1]
    have hfin : identOk s.data.toList = false := by rw [List.eq_nil_of_length_eq_zero (l := s.data.toList) (by omega)]; rfl
    have HF := Lib.hid hfin; clear hfin
    go_enter Tryd.func7, Tryd.ntmps7
    go_wp2
    go_ret
    exact ⟨ret_bool HF.out.symm, Below.refl _ _⟩
  · have hpos : 0 < s.size := by omega
    have hne : s.data.toList ≠ [] := fun e => by rw [e] at hsz; simp at hsz; omega
    have e2 : (!s.toList.isEmpty) = true := by rw [ByteArray.toList_eq]; simpa using hne
    by_cases h20 : 20 < s.size
    · clear hne
      have hfin : identOk s.data.toList = false := by rw [identOk, decide_eq_false (p := s.data.toList.length ≤ 20) (by omega)]; simp
      have HF := Lib.hid hfin; clear hfin
      go_enter Tryd.func7, Tryd.ntmps7
      go_wp2
      go_ret
      exact ⟨ret_bool HF.out.symm, Below.refl _ _⟩
    · have hle : s.size ≤ 20 := by omega
      have hfin : identOk s.data.toList = (s.data.toList.all isPart && (decide (Lib.indexByte digitsL s[0] < 0) && !keptB s.data.toList)) := by
        have hh : s.data.toList.headD 0 = s[0] := by
          rw [List.headD_eq_head?_getD, List.head?_eq_getElem?, List.getElem?_eq_getElem (by omega)]; rfl
        rw [identOk, decide_eq_true hne, decide_eq_true (p := s.data.toList.length ≤ 20) (by omega), hh]; simp
      clear hne
      have ho : ∀ w : World, Calls Tryd.prog 17 #[.string s, .string ⟨#[97, 98, 99, 100, 101, 102, 103, 104, 105, 106, 107, 108, 109, 110, 111, 112, 113, 114, 115, 116, 117, 118, 119, 120, 121, 122, 65, 66, 67, 68, 69, 70, 71, 72, 73, 74, 75, 76, 77, 78, 79, 80, 81, 82, 83, 84, 85, 86, 87, 88, 89, 90, 95, 48, 49, 50, 51, 52, 53, 54, 55, 56, 57]⟩] w fun e w' => e = .returned (.bool (s.data.toList.all isPart)) ∧ Below w.heap.size w w' := fun w => only_any s _ isPart (fun c => rfl) w hle
      have hk : ∀ w : World, MaxL w → Calls Tryd.prog 19 #[.string s] w fun e w' => e = .returned (.bool (keptB s.data.toList)) ∧ w' = w := fun w h => kept_any s w hle hpos h
      have hi : ∀ w : World, Calls Tryd.prog 18 #[.string ⟨#[48, 49, 50, 51, 52, 53, 54, 55, 56, 57]⟩, .int .u8 s[0].toNat] w fun e w' => e = .returned (.int .i64 (Lib.indexByte digitsL s[0])) ∧ w' = w := fun w => idx_any _ _ w
      have HF := Lib.hid hfin; have HO := Lib.hid ho; have HK := Lib.hid hk; have HI := Lib.hid hi; clear hfin ho hk hi
      have HM := Lib.hid hm; clear hm
      cases ha : s.data.toList.all isPart with
      | false =>
        have HA := Lib.hid ha; clear ha
        go_enter Tryd.func7, Tryd.ntmps7
        go_wp2_with (go_at_call 17; refine (HO.out _).mono ?_; rintro e w1 ⟨rfl, hb1⟩; rw [HA.out]; have HB1 := Lib.hid hb1; clear hb1)
        go_ret
        exact ⟨ret_bool (by rw [HF.out, HA.out]; rfl), HB1.out⟩
      | true =>
        have HA := Lib.hid ha; clear ha
        cases hd : decide (Lib.indexByte digitsL s[0] < 0) with
        | false =>
          have HD := Lib.hid hd; clear hd
          go_enter Tryd.func7, Tryd.ntmps7
          go_wp2_with (first | (go_at_call 17; refine (HO.out _).mono ?_; rintro e w1 ⟨rfl, hb1⟩; rw [HA.out]; have HB1 := Lib.hid hb1; clear hb1) | (go_at_call 18; refine (HI.out _).mono ?_; rintro e w' ⟨rfl, rfl⟩; have hq := of_decide_eq_false HD.out))
          go_ret
          exact ⟨ret_bool (by rw [HF.out, HA.out, HD.out]; rfl), HB1.out⟩
        | true =>
          have HD := Lib.hid hd; clear hd
          go_enter Tryd.func7, Tryd.ntmps7
          go_wp2_with (first | (go_at_call 17; refine (HO.out _).mono ?_; rintro e w1 ⟨rfl, hb1⟩; rw [HA.out]; have HB1 := Lib.hid hb1; clear hb1) | (go_at_call 18; refine (HI.out _).mono ?_; rintro e w' ⟨rfl, rfl⟩; have hq := of_decide_eq_true HD.out) | (go_at_call 19; refine (HK.out _ (HM.out.below HB1.out)).mono ?_; rintro e w' ⟨rfl, rfl⟩))
          go_ret
          exact ⟨ret_bool (by rw [HF.out, HA.out, HD.out]; simp), HB1.out⟩
end Go.Proofs.YtckpffkofeoinaaDoor
