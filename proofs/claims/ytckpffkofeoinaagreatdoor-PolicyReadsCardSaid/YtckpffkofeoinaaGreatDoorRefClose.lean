/- The document's close: what follows of the marks is marked. -/
import Derived.Test.YtckpffkofeoinaaGreatDoorRefGrid
namespace Go.Proofs.YtckpffkofeoinaaGreatDoor
open Go.RowKit

/-- How a pass stands: the marks U0 at the beginning, Up at the pass's. -/
structure Pass (q g : Nat) (r : Nat → Nat) (n : Nat) (vn : Value) (cap base : Nat) (w0 wr : World) (U0 Up U : List (List Bool)) (again : Bool) (a b c : Nat) : Prop where
  grid : Grid q g r n vn cap wr U
  below : Below base w0 wr
  fol : Follows n U0 U
  le : cnt n U ≤ cnt n Up
  lt : again = true → cnt n U < cnt n Up
  shut : again = false → Shut n U a b c

set_option maxRecDepth 100000 in
set_option maxHeartbeats 4000000 in
theorem close_any (q g : Nat) (r : Nat → Nat) (n : Nat) (A : Option Addr) (cn cap base : Nat) (w : World) (U0 : List (List Bool)) (hG : Grid q g r n (.slice A n cn) cap w U0) (hb : ∀ i, i < n → base ≤ r i) (hbw : base ≤ w.heap.size) (hn : n < 1048576) :
    Calls Tryz.prog 52 #[.pointer (some ⟨q, 0, none⟩)] w fun e w' => e = .returned (.tuple #[]) ∧ Below base w w' ∧ ∃ U, Grid q g r n (.slice A n cn) cap w' U ∧ Follows n U0 U ∧ ∀ i j k, i < n → j < n → k < n → bit U i j = true → bit U j k = true → bit U i k = true := by
  have HG := Lib.hid hG; have HBR := Lib.hid hb; have HBW := Lib.hid hbw
  have c0 := hG.cell0
  clear hG hb hbw
  have n0 : (0 : Int) ≤ (n : Int) := Int.natCast_nonneg _
  go_enter Tryz.func52, Tryz.ntmps52
  go_wp2_with fail
  clear c0
  go_loopg [3] (2 * cnt n U0 + 1) (fun g' v wr => ∃ (U : List (List Bool)) (again : Bool), v = .bool again ∧ Hid (2 * cnt n U + (if again then 1 else 0) ≤ g') ∧ Hid (Grid q g r n (.slice A n cn) cap wr U) ∧ Hid (Below base w wr) ∧ Hid (Follows n U0 U) ∧ Hid (again = false → Shut n U n 0 0))
  case atStart => exact ⟨U0, true, rfl, Nat.le_refl _, HG, Below.refl _ _, Follows.refl _ _, fun h => by cases h⟩
  case round =>
    obtain ⟨Up, again, rfl, HM, HGp, HB, HF, HS⟩ := hrel
    cases again with
    | false =>
      go_wp2_with fail
      go_end0
      exact ⟨rfl, HB.out, Up, HGp.out, HF.out, (HS.out (by first | rfl | trivial)).all⟩
    | true =>
      have hP : Hid (Pass q g r n (.slice A n cn) cap base w wr U0 Up Up false 0 0 0) := ⟨HGp.out, HB.out, HF.out, Nat.le_refl _, (fun h => by cases h), fun _ => Shut.zero _ _⟩
      clear HGp HB HF HS
      go_wp2_with fail
      go_loopg [3, 4] n (fun ga v i wr => ∃ (U : List (List Bool)) (again : Bool) (a : Nat), v = .bool again ∧ i = .int .i64 (a : Int) ∧ Hid (a ≤ n) ∧ Hid (n - a ≤ ga) ∧ Hid (Pass q g r n (.slice A n cn) cap base w wr U0 Up U again a 0 0))
      case atStart => exact ⟨Up, false, 0, rfl, rfl, Nat.zero_le _, by show _ ≤ _; omega, hP⟩
      case round =>
        obtain ⟨U, again, a, rfl, rfl, HA1, HA2, HP⟩ := hrel
        clear hP
        by_cases hla : a < n
        · have a1 : (a : Int) < (n : Int) := by omega
          go_wp2_with fail
          go_loopg [3, 5] n (fun gb v i wr => ∃ (U : List (List Bool)) (again : Bool) (b : Nat), v = .bool again ∧ i = .int .i64 (b : Int) ∧ Hid (b ≤ n) ∧ Hid (n - b ≤ gb) ∧ Hid (Pass q g r n (.slice A n cn) cap base w wr U0 Up U again a b 0))
          case atStart => exact ⟨U, again, 0, rfl, rfl, Nat.zero_le _, by show _ ≤ _; omega, HP⟩
          case round =>
            obtain ⟨U, again, b, rfl, rfl, HB1, HB2, HP⟩ := hrel
            by_cases hlb : b < n
            · have b1 : (b : Int) < (n : Int) := by omega
              go_wp2_with fail
              go_loopg [3, 6] n (fun gc v i wr => ∃ (U : List (List Bool)) (again : Bool) (c : Nat), v = .bool again ∧ i = .int .i64 (c : Int) ∧ Hid (c ≤ n) ∧ Hid (n - c ≤ gc) ∧ Hid (Pass q g r n (.slice A n cn) cap base w wr U0 Up U again a b c))
              case atStart => exact ⟨U, again, 0, rfl, rfl, Nat.zero_le _, by show _ ≤ _; omega, HP⟩
              case round =>
                obtain ⟨U, again, c, rfl, rfl, HC1, HC2, HP⟩ := hrel
                by_cases hlc : c < n
                · have c1 : (c : Int) < (n : Int) := by omega
                  have i0 : (0 : Int) ≤ (a : Int) := Int.natCast_nonneg _
                  have i1 : (0 : Int) ≤ (b : Int) := Int.natCast_nonneg _
                  have i2 : (0 : Int) ≤ (c : Int) := Int.natCast_nonneg _
                  have hG := HP.out.grid
                  have e1 := hG.cell1
                  have ea := hG.cellG hla
                  have eb := hG.cellG hlb
                  have eab := hG.cellB hla hlb
                  have ebc := hG.cellB hlb hlc
                  have eac := hG.cellB hla hlc
                  have ef := hG.frozen hla c
                  clear hG
                  have HGO : Hid (bit U a b = true → bit U b c = true → bit U a c = false → Pass q g r n (.slice A n cn) cap base w (wr.setCell ⟨r a, c, none⟩ (.bool true)) U0 Up (mark U a c) true a b (c + 1)) := by
                    intro h1 h2 h3
                    have hg := HP.out.grid
                    have hlt := cnt_mark hla hlc hg.len (hg.wide a hla) h3
                    have hle := HP.out.le
                    exact ⟨hg.store hla, HP.out.below.setCell (HBR.out a hla) _, HP.out.fol.mark hla hlb hlc hg.len (hg.wide a hla) h1 h2, by omega, fun _ => by omega, fun h => by cases h⟩
                  have HNO : Hid ((bit U a b = true → bit U b c = true → bit U a c = true) → Pass q g r n (.slice A n cn) cap base w wr U0 Up U again a b (c + 1)) := fun h =>
                    ⟨HP.out.grid, HP.out.below, HP.out.fol, HP.out.le, HP.out.lt, fun h2 => (HP.out.shut h2).nextC h⟩
                  clear HP
                  cases hab : bit U a b with
                  | false =>
                    rw [hab] at eab
                    have HN := Lib.hid (HNO.out (fun h => by rw [hab] at h; cases h))
                    clear hab HNO HGO
                    go_wp2_with fail
                    go_roundg (n - (c + 1))
                    case rel => exact ⟨U, again, c + 1, rfl, by go_num, by show _ ≤ _; omega, by show _ ≤ _; omega, HN⟩
                    case measure => have := HC2.out; omega
                  | true =>
                    rw [hab] at eab
                    cases hbc : bit U b c with
                    | false =>
                      rw [hbc] at ebc
                      have HN := Lib.hid (HNO.out (fun _ h => by rw [hbc] at h; cases h))
                      clear hab hbc HNO HGO
                      go_wp2_with fail
                      go_roundg (n - (c + 1))
                      case rel => exact ⟨U, again, c + 1, rfl, by go_num, by show _ ≤ _; omega, by show _ ≤ _; omega, HN⟩
                      case measure => have := HC2.out; omega
                    | true =>
                      rw [hbc] at ebc
                      cases hac : bit U a c with
                      | true =>
                        rw [hac] at eac
                        have HN := Lib.hid (HNO.out (fun _ _ => hac))
                        clear hab hbc hac HNO HGO
                        go_wp2_with fail
                        go_roundg (n - (c + 1))
                        case rel => exact ⟨U, again, c + 1, rfl, by go_num, by show _ ≤ _; omega, by show _ ≤ _; omega, HN⟩
                        case measure => have := HC2.out; omega
                      | false =>
                        rw [hac] at eac
                        have HN := Lib.hid (HGO.out hab hbc hac)
                        clear hab hbc hac HNO HGO
                        go_wp2_with fail
                        go_roundg (n - (c + 1))
                        case rel => exact ⟨mark U a c, true, c + 1, rfl, by go_num, by show _ ≤ _; omega, by show _ ≤ _; omega, HN⟩
                        case measure => have := HC2.out; omega
                · have e : c = n := by have := HC1.out; omega
                  have c1 : decide ((c : Int) < (n : Int)) = false := decide_eq_false (by omega)
                  have HN : Hid (Pass q g r n (.slice A n cn) cap base w wr U0 Up U again a (b + 1) 0) := ⟨HP.out.grid, HP.out.below, HP.out.fol, HP.out.le, HP.out.lt, fun h => by have := HP.out.shut h; rw [e] at this; exact this.nextB⟩
                  clear e
                  go_wp2_with fail
                  go_roundg (n - (b + 1))
                  case rel => exact ⟨U, again, b + 1, rfl, by go_num, by show _ ≤ _; omega, by show _ ≤ _; omega, HN⟩
                  case measure => have := HB2.out; omega
            · have e : b = n := by have := HB1.out; omega
              have b1 : decide ((b : Int) < (n : Int)) = false := decide_eq_false (by omega)
              have HN : Hid (Pass q g r n (.slice A n cn) cap base w wr U0 Up U again (a + 1) 0 0) := ⟨HP.out.grid, HP.out.below, HP.out.fol, HP.out.le, HP.out.lt, fun h => by have := HP.out.shut h; rw [e] at this; exact this.nextA⟩
              clear e
              go_wp2_with fail
              go_roundg (n - (a + 1))
              case rel => exact ⟨U, again, a + 1, rfl, by go_num, by show _ ≤ _; omega, by show _ ≤ _; omega, HN⟩
              case measure => have := HA2.out; omega
        · have e : a = n := by have := HA1.out; omega
          have a1 : decide ((a : Int) < (n : Int)) = false := decide_eq_false (by omega)
          have HE := Lib.hid e; clear e
          go_wp2_with fail
          go_roundg (2 * cnt n U + (if again then 1 else 0))
          case rel => exact ⟨U, again, rfl, Nat.le_refl _, HP.out.grid, HP.out.below, HP.out.fol, fun h => by have := HP.out.shut h; rw [HE.out] at this; exact this⟩
          case measure =>
            have h1 := HM.out
            have h2 := HP.out.le
            have h3 := HP.out.lt
            cases again with
            | false => simp at h1 ⊢; omega
            | true => have := h3 rfl; simp at h1 ⊢; omega
end Go.Proofs.YtckpffkofeoinaaGreatDoor
