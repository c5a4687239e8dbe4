/- The walks of the small functions of package levels. -/
import Derived.Test.YtckpffkofeoinaaDoorBase
import Derived.Test.YtckpffkofeoinaaDoorShelf
import Derived.Laws.BitsAllLaws
namespace Go.Proofs.YtckpffkofeoinaaDoor
open Go.RowKit

theorem ret_bool {a b : Bool} (h : a = b) : Ending.returned (.bool a) = .returned (.bool b) := by rw [h]
theorem ret_int {k : IntKind} {a b : Int} (h : a = b) : Ending.returned (.int k a) = .returned (.int k b) := by rw [h]

/-- Bytes that a name may begin with, and those that it may hold. -/
def isLetter (c : UInt8) : Bool := 97 ≤ c && c ≤ 122
def isSign (c : UInt8) : Bool := isLetter c || (48 ≤ c && c ≤ 57) || c == 95

set_option maxRecDepth 20000 in
theorem sign_all : ∀ n : Fin 256, decide (Lib.indexByte [97, 98, 99, 100, 101, 102, 103, 104, 105, 106, 107, 108, 109, 110, 111, 112, 113, 114, 115, 116, 117, 118, 119, 120, 121, 122, 48, 49, 50, 51, 52, 53, 54, 55, 56, 57, 95] (UInt8.ofFin n) < 0) = !isSign (UInt8.ofFin n) := by decide
theorem sign_byte (c : UInt8) : decide (Lib.indexByte [97, 98, 99, 100, 101, 102, 103, 104, 105, 106, 107, 108, 109, 110, 111, 112, 113, 114, 115, 116, 117, 118, 119, 120, 121, 122, 48, 49, 50, 51, 52, 53, 54, 55, 56, 57, 95] c < 0) = !isSign c := sign_all c.toFin
set_option maxRecDepth 20000 in
theorem letter_all : ∀ n : Fin 256, decide (Lib.indexByte [97, 98, 99, 100, 101, 102, 103, 104, 105, 106, 107, 108, 109, 110, 111, 112, 113, 114, 115, 116, 117, 118, 119, 120, 121, 122] (UInt8.ofFin n) ≥ 0) = isLetter (UInt8.ofFin n) := by decide
theorem letter_byte (c : UInt8) : decide (Lib.indexByte [97, 98, 99, 100, 101, 102, 103, 104, 105, 106, 107, 108, 109, 110, 111, 112, 113, 114, 115, 116, 117, 118, 119, 120, 121, 122] c ≥ 0) = isLetter c := letter_all c.toFin

set_option maxRecDepth 100000 in
theorem nameF_any (c : UInt8) (w : World) :
    Calls Tryd.prog 60 #[.int .u8 c.toNat] w fun e w' => e = .returned (.bool (!isSign c)) ∧ w = w' := by
  go_enter Tryd.func60, Tryd.ntmps60
  go_wp2_with (go_at_call 18; refine (Tryd.strings_IndexByte _ _ _).mono ?_; rintro e w' ⟨rfl, rfl⟩)
  go_ret
  exact ⟨ret_bool (sign_byte c), rfl⟩

set_option maxRecDepth 100000 in
theorem idxF_byte (A : Option Addr) (c n : Nat) (zs : List UInt8) (w : World) (hn : zs.length = n) (hr : Rd w A (zs.map fun (z : UInt8) => Value.int .u8 z.toNat)) (hl : zs.length ≤ 140737488355328) :
    Calls Tryd.prog 54 #[.slice A n c, .func (.func 60) #[] #[]] w fun e w' => (∃ i : Int, e = .returned (.int .i64 i) ∧ decide (i ≥ 0) = !zs.all isSign) ∧ w = w' := by
  subst hn
  go_enter Tryd.func54, Tryd.ntmps54
  have HR := Lib.hid hr; clear hr
  go_wp2
  go_loop [8] (fun i => ∃ k : Nat, k ≤ zs.length ∧ i = .int .i64 k ∧ (zs.take k).all isSign = true) (fun i => zs.length - (intOf i).toNat)
  case atStart => exact ⟨0, Nat.zero_le _, rfl, by simp⟩
  case round =>
    obtain ⟨k, hk, rfl, hall⟩ := hrel
    have HA := Lib.hid hall; clear hall
    by_cases hlt : k < zs.length
    · obtain ⟨b, o, hA, hc⟩ := HR.out.at (j := k) (v := Value.int .u8 zs[k].toNat) (by simp [hlt])
      subst hA
      by_cases hs : isSign zs[k] = true
      · have hn : (!isSign zs[k]) = false := by simp [hs]
        have hk1 : (zs.take (k + 1)).all isSign = true := by rw [List.take_succ_eq_append_getElem hlt, List.all_append, HA.out, Bool.true_and, List.all_cons, List.all_nil, hs]; rfl
        have HS := Lib.hid hk1; clear hk1 hs
        go_wp2_with (go_at_call 60; refine (nameF_any _ _).mono ?_; rintro e w' ⟨rfl, rfl⟩)
        go_round
        case rel => exact ⟨k + 1, by omega, by go_num, HS.out⟩
        case measure => simp [intOf]; omega
      · have hn : (!isSign zs[k]) = true := by simp [hs]
        have HS := Lib.hid hs; clear hs
        go_wp2_with (go_at_call 60; refine (nameF_any _ _).mono ?_; rintro e w' ⟨rfl, rfl⟩)
        go_ret
        refine ⟨⟨_, rfl, ?_⟩, rfl⟩
        have h1 : zs.all isSign = false := by
          rw [List.all_eq_false]; exact ⟨_, List.getElem_mem hlt, HS.out⟩
        rw [h1]; simp
    · go_wp2
      go_ret
      refine ⟨⟨_, rfl, ?_⟩, rfl⟩
      have h1 : zs.all isSign = true := by
        have := HA.out; rwa [List.take_of_length_le (by omega)] at this
      rw [h1]; rfl

set_option maxRecDepth 100000 in
theorem conF_byte (A : Option Addr) (c n : Nat) (zs : List UInt8) (w : World) (hn : zs.length = n) (hr : Rd w A (zs.map fun (z : UInt8) => Value.int .u8 z.toNat)) (hl : zs.length ≤ 140737488355328) :
    Calls Tryd.prog 33 #[.slice A n c, .func (.func 60) #[] #[]] w fun e w' => e = .returned (.bool (!zs.all isSign)) ∧ w = w' := by
  have HN := Lib.hid hn; clear hn
  go_enter Tryd.func33, Tryd.ntmps33
  go_wp2_with (go_at_call 54; refine (idxF_byte _ _ _ _ _ HN.out hr hl).mono ?_; rintro e w' ⟨⟨i, rfl, hi⟩, rfl⟩; have HI := Lib.hid hi; clear hi)
  go_ret
  exact ⟨ret_bool HI.out, rfl⟩

set_option maxRecDepth 100000 in
theorem has_any (s : Nat) (n : Int) (w : World) (h1 : s ≤ 4294967295) (hn : 0 ≤ n) (hn2 : n < 32) :
    Calls Tryd.prog 46 #[.int .u32 s, .int .i64 n] w fun e w' => e = .returned (.bool (s.testBit n.toNat)) ∧ w = w' := by
  go_enter Tryd.func46, Tryd.ntmps46
  go_wp2
  go_ret
  refine ⟨ret_bool ?_, rfl⟩
  have e1 : (s : Int) / 2 ^ n.toNat = ((s / 2 ^ n.toNat : Nat) : Int) := by norm_cast
  have e2 : s / 2 ^ n.toNat ≤ s := Nat.div_le_self _ _
  rw [e1, show (1 : Int) = ((1 : Nat) : Int) from rfl, u32_and_nat _ _ (by omega) (by omega), nat_mask1, Nat.testBit, Nat.shiftRight_eq_div_pow, Nat.and_comm, nat_mask1]
  generalize s / 2 ^ n.toNat = q
  rcases Nat.mod_two_eq_zero_or_one q with h | h <;> rw [h] <;> rfl

set_option maxRecDepth 100000 in
theorem within_any (b : Nat) (a c : Int) (n cap : Nat) (A : Option Addr) (w : World) (hc : w.cell? ⟨b, 0, none⟩ = some (.slice A n cap)) :
    Calls Tryd.prog 53 #[.pointer (some ⟨b, 0, none⟩), .int .i64 a, .int .i64 c] w fun e w' => e = .returned (.bool (decide (0 ≤ a ∧ 0 ≤ c ∧ a < n ∧ c < n))) ∧ w = w' := by
  go_enter Tryd.func53, Tryd.ntmps53
  go_wp2
  all_goals
    go_ret
    refine ⟨ret_bool ?_, rfl⟩
    rw [Bool.eq_iff_iff]
    simp
    try omega
end Go.Proofs.YtckpffkofeoinaaDoor
