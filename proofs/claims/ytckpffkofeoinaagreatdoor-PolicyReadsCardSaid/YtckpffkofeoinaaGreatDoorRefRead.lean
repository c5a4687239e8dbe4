/- The document's lattice, when it is made: what its functions that only read come to. -/
import Derived.Test.YtckpffkofeoinaaGreatDoorRefGrid
import Derived.Test.YtckpffkofeoinaaGreatDoorLr1
namespace Go.Proofs.YtckpffkofeoinaaGreatDoor
open Go.RowKit Go.Proofs.YtckpffkofeoinaaGreatDoorW.PrintWords Go.Proofs.YtckpffkofeoinaaGreatDoor.Lr

theorem strC {w : World} {A : Option Addr} {names : List ByteArray} (h : Rd w A (names.map Value.string)) (hl : names.length ≤ 9223372036854775807) : Kd.C Kd.string w A names.length names := by
  refine ⟨rfl, hl, fun hpos => ?_⟩
  rcases h with h | ⟨b, o, ha, h⟩
  · rw [List.map_eq_nil_iff] at h
    rw [h] at hpos; simp at hpos
  · refine ⟨_, ha, fun j p hj => ⟨[.string p], rfl, rfl, fun i u hu => ?_⟩⟩
    cases i with
    | zero =>
      have e : u = .string p := by simpa using hu.symm
      subst e
      rw [add_at, Nat.add_zero]
      have := h j (.string p) (by rw [List.getElem?_map, hj]; rfl)
      show w.cell? ⟨b, o + j * 1, none⟩ = _
      rw [Nat.mul_one]; exact this
    | succ i => simp at hu

theorem Grid.boolC {q g n cap : Nat} {r : Nat → Nat} {vn : Value} {w : World} {U : List (List Bool)} (h : Grid q g r n vn cap w U) (hn : n ≤ 9223372036854775807) : Kd.C (Kd.slice 4 Kd.bool) w (some ⟨g, 0, none⟩) U.length U := by
  have hl := h.len
  refine ⟨rfl, by omega, fun _ => ⟨_, rfl, fun j p hj => ?_⟩⟩
  have hjl : j < n := by
    rcases Nat.lt_or_ge j U.length with h1 | h1
    · omega
    · rw [List.getElem?_eq_none h1] at hj; cases hj
  have hp : U.getD j [] = p := by rw [List.getD_eq_getElem?_getD, hj]; rfl
  have hw := h.wide j hjl
  rw [hp] at hw
  refine ⟨[.slice (some ⟨r j, 0, none⟩) p.length n], rfl, ⟨_, _, rfl, by omega, rfl, by omega, fun _ => ⟨_, rfl, fun i x hi => ⟨[.bool x], rfl, rfl, fun k u hu => ?_⟩⟩⟩, fun i u hu => ?_⟩
  · have hil : i < n := by
      rcases Nat.lt_or_ge i p.length with h1 | h1
      · omega
      · rw [List.getElem?_eq_none h1] at hi; cases hi
    cases k with
    | zero =>
      have e : u = .bool x := by simpa using hu.symm
      subst e
      have := h.cellB hjl hil
      rw [add_plain, Nat.add_zero]
      show w.cell? ⟨r j, i * 1, none⟩ = _
      rw [Nat.mul_one, this]
      unfold bit
      rw [hp, List.getD_eq_getElem?_getD, hi]; rfl
    | succ k => simp at hu
  · cases i with
    | zero =>
      have e : u = .slice (some ⟨r j, 0, none⟩) p.length n := by simpa using hu.symm
      subst e
      have := h.cellG hjl
      rw [add_plain, Nat.add_zero]
      show w.cell? ⟨g, j * 1, none⟩ = _
      rw [Nat.mul_one, this, hw]
    | succ i => simp at hu

theorem Grid.isS {q g n cap cn : Nat} {r : Nat → Nat} {A : Option Addr} {w : World} {U : List (List Bool)} {names : List ByteArray} (h : Grid q g r n (.slice A n cn) cap w U) (hn : names.length = n) (hl : n ≤ 9223372036854775807) (hr : Rd w A (names.map Value.string)) : IsS44 w w q names U := by
  have hU := h.len
  refine ⟨A, cn, some ⟨g, 0, none⟩, cap, ?_, Nat.zero_le _, strC hr (by omega), h.boolC hl⟩
  rw [hn, hU]; exact h.st

/-- The document's lattice at block q, with the names' row (read) and its rows of marks. -/
def RLat (q g : Nat) (r : Nat → Nat) (A : Option Addr) (cn cap : Nat) (names : List ByteArray) (U : List (List Bool)) (w : World) : Prop :=
  Grid q g r names.length (.slice A names.length cn) cap w U ∧ Rd w A (names.map Value.string) ∧ names.length ≤ 16

section
variable {q g : Nat} {r : Nat → Nat} {A : Option Addr} {cn cap : Nat} {names : List ByteArray} {U : List (List Bool)} {w : World}

theorem RLat.below {w' : World} (h : RLat q g r A cn cap names U w) (hb : Below w.heap.size w w') : RLat q g r A cn cap names U w' := ⟨h.1.below hb, h.2.1.below hb, h.2.2⟩
theorem RLat.isS (h : RLat q g r A cn cap names U w) : IsS44 w w q names U := h.1.isS rfl (by have := h.2.2; omega) h.2.1

theorem rplace_any (h : RLat q g r A cn cap names U w) (s : ByteArray) {k : Nat} {v : Int} (hf : runnelref2_Lattice_Place.f k names U s = some v) :
    Calls Tryz.prog 51 #[.pointer (some ⟨q, 0, none⟩), .string s] w fun e w' => e = .returned (.int .i64 v) ∧ Below w.heap.size w w' :=
  (runnelref2_Lattice_Place.calls k q names U s v w w h.isS (Below.refl _ _) hf).mono fun _ _ h1 => ⟨h1.1, h1.2.2.1⟩
theorem rbelow_any (h : RLat q g r A cn cap names U w) (a b : Int) {v : Bool} (hf : runnelref2_Lattice_Below.f names U a b = some v) :
    Calls Tryz.prog 26 #[.pointer (some ⟨q, 0, none⟩), .int .i64 a, .int .i64 b] w fun e w' => e = .returned (.bool v) ∧ Below w.heap.size w w' :=
  (runnelref2_Lattice_Below.calls q names U a b v w w h.isS (Below.refl _ _) hf).mono fun _ _ h1 => ⟨h1.1, h1.2.2.1⟩
theorem rjoin_any (h : RLat q g r A cn cap names U w) (a b : Int) {k : Nat} {v : Int} (hf : runnelref2_Lattice_Join.f k names U a b = some v) :
    Calls Tryz.prog 74 #[.pointer (some ⟨q, 0, none⟩), .int .i64 a, .int .i64 b] w fun e w' => e = .returned (.int .i64 v) ∧ Below w.heap.size w w' :=
  (runnelref2_Lattice_Join.calls k q names U a b v w w h.isS (Below.refl _ _) hf).mono fun _ _ h1 => ⟨h1.1, h1.2.2.1⟩
theorem rmeet_any (h : RLat q g r A cn cap names U w) (a b : Int) {k : Nat} {v : Int} (hf : runnelref2_Lattice_Meet.f k names U a b = some v) :
    Calls Tryz.prog 75 #[.pointer (some ⟨q, 0, none⟩), .int .i64 a, .int .i64 b] w fun e w' => e = .returned (.int .i64 v) ∧ Below w.heap.size w w' :=
  (runnelref2_Lattice_Meet.calls k q names U a b v w w h.isS (Below.refl _ _) hf).mono fun _ _ h1 => ⟨h1.1, h1.2.2.1⟩
theorem rlattice_any (h : RLat q g r A cn cap names U w) {k : Nat} {v : Bool} (hf : runnelref2_Lattice_lattice.f k names U = some v) :
    Calls Tryz.prog 53 #[.pointer (some ⟨q, 0, none⟩)] w fun e w' => e = .returned (.bool v) ∧ Below w.heap.size w w' :=
  (runnelref2_Lattice_lattice.calls k q names U v w w h.isS (Below.refl _ _) hf).mono fun _ _ h1 => ⟨h1.1, h1.2.2.1⟩
end
end Go.Proofs.YtckpffkofeoinaaGreatDoor
