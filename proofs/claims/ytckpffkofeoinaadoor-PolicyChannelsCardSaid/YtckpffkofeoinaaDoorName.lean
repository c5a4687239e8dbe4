/- levels.Name. -/
import Derived.Test.YtckpffkofeoinaaDoorLev1
import Derived.Lib.ConvBytes
import Derived.Laws.BytesArg
namespace Go.Proofs.YtckpffkofeoinaaDoor
open Go.RowKit

def nameOk (l : List UInt8) : Bool := decide (l ≠ []) && (decide (l.length ≤ 20) && (isLetter (l.headD 0) && l.all isSign))

theorem let_any (c : UInt8) (w : World) :
    Calls Tryd.prog 18 #[.string ⟨#[97, 98, 99, 100, 101, 102, 103, 104, 105, 106, 107, 108, 109, 110, 111, 112, 113, 114, 115, 116, 117, 118, 119, 120, 121, 122]⟩, .int .u8 c.toNat] w fun e w' => (∃ i : Int, e = .returned (.int .i64 i) ∧ Hid (decide (i ≥ 0) = isLetter c)) ∧ w = w' := by
  refine (Tryd.strings_IndexByte _ _ _).mono ?_
  rintro e w' ⟨rfl, rfl⟩
  refine ⟨⟨_, rfl, ?_⟩, rfl⟩
  have e : (c.toNat : Int).toNat.toUInt8 = c := by simp
  rw [e]; exact letter_byte c

set_option maxRecDepth 100000 in
theorem name_any (s : ByteArray) (w : World) (hs : s.size ≤ 140737488351232) :
    Calls Tryd.prog 41 #[.string s] w fun e w' => e = .returned (.bool (nameOk s.data.toList)) ∧ Below w.heap.size w w' := by
  have hsz : s.data.toList.length = s.size := by simp
  by_cases h0 : s.size = 0
  · have e1 : s.toList = [] := by rw [ByteArray.toList_eq]; exact List.eq_nil_of_length_eq_zero (by omega)
    have e2 : (!s.toList.isEmpty) = false := by simp [e1]
    have hfin : nameOk s.data.toList = false := by rw [List.eq_nil_of_length_eq_zero (l := s.data.toList) (by omega)]; rfl
    have HF := Lib.hid hfin; clear hfin
    go_enter Tryd.func41, Tryd.ntmps41
    go_wp2
    go_ret
    exact ⟨ret_bool HF.out.symm, Below.refl _ _⟩
  · have hpos : 0 < s.size := by omega
    have hne : s.data.toList ≠ [] := fun e => by rw [e] at hsz; simp at hsz; omega
    have e2 : (!s.toList.isEmpty) = true := by rw [ByteArray.toList_eq]; simpa using hne
    by_cases h20 : 20 < s.size
    · clear hne
      have hfin : nameOk s.data.toList = false := by rw [nameOk, decide_eq_false (p := s.data.toList.length ≤ 20) (by omega)]; simp
      have HF := Lib.hid hfin; clear hfin
      go_enter Tryd.func41, Tryd.ntmps41
      go_wp2
      go_ret
      exact ⟨ret_bool HF.out.symm, Below.refl _ _⟩
    · have hle : s.size ≤ 20 := by omega
      have hfin : nameOk s.data.toList = (isLetter s[0] && s.data.toList.all isSign) := by
        have hh : s.data.toList.headD 0 = s[0] := by
          rw [List.headD_eq_head?_getD, List.head?_eq_getElem?, List.getElem?_eq_getElem (by omega)]; rfl
        rw [nameOk, decide_eq_true hne, decide_eq_true (p := s.data.toList.length ≤ 20) (by omega), hh]; simp
      clear hne
      have HF := Lib.hid hfin; clear hfin
      cases hl : isLetter s[0] with
      | false =>
        rw [hl] at HF
        have HL := Lib.hid hl; clear hl
        go_enter Tryd.func41, Tryd.ntmps41
        go_wp2_with (go_at_call 18; refine (let_any s[0] _).mono ?_; rintro e w' ⟨⟨i, rfl, hi⟩, rfl⟩; have hi2 : (0 ≤ i) = False := (by rw [HL.out] at hi; simpa using hi.out); clear hi)
        go_ret
        exact ⟨ret_bool HF.out.symm, Below.refl _ _⟩
      | true =>
        rw [hl] at HF
        have HL := Lib.hid hl; clear hl
        have hcv := fun (w : World) => Lib.run_convert_string_bytes (P := Tryd.prog) w 9 74 5 s Tryd.underlying9 Tryd.underlying74 Tryd.underlying5
        have hrd : Hid (Rd (Lib.bytesWorld w 5 s) (some ⟨w.heap.size, 0, none⟩) (s.data.toList.map fun (z : UInt8) => Value.int .u8 z.toNat)) := by
          refine .inr ⟨_, _, rfl, fun j v hj => ?_⟩
          rw [List.getElem?_map] at hj
          have hjl : j < s.data.toList.length := by
            rcases Nat.lt_or_ge j s.data.toList.length with h | h
            · exact h
            · rw [List.getElem?_eq_none h] at hj; simp at hj
          rw [List.getElem?_eq_getElem hjl] at hj
          rw [Nat.zero_add, Lib.bytesWorld_cell _ _ _ _ (by simpa using hjl), ← Option.some.inj hj, List.getD_eq_getElem?_getD, List.getElem?_eq_getElem hjl]
          rfl
        have hbel : Hid (Below w.heap.size w (Lib.bytesWorld w 5 s)) := ⟨rfl, rfl, rfl, by rw [Lib.bytesWorld_size]; omega, fun k hk => Lib.bytesWorld_at_old w _ s k hk⟩
        have HSZ := Lib.hid hsz; clear hsz
        go_enter Tryd.func41, Tryd.ntmps41
        go_wp2_with (first | (go_at_call 18; refine (let_any s[0] _).mono ?_; rintro e w' ⟨⟨i, rfl, hi⟩, rfl⟩; have hi2 : 0 ≤ i := (by rw [HL.out] at hi; simpa using hi.out); clear hi) | (go_at_call 33; refine (conF_byte _ _ _ s.data.toList _ HSZ.out hrd.out (by have := HSZ.out; omega)).mono ?_; rintro e w' ⟨rfl, rfl⟩))
        go_ret
        exact ⟨ret_bool (by rw [HF.out]; simp), hbel.out⟩
end Go.Proofs.YtckpffkofeoinaaDoor
