/- Words for rows of cells that are read, for whole blocks, and for what a call leaves as it was. -/
import Derived.Test.YtckpffkofeoinaaGreatDoorProg
import Derived.WalkKit
import Derived.WalkSpells
import Derived.WalkLawsBesides
import Derived.Below
import Derived.BigQuiet
import Derived.Deep.QuietTactic
import Derived.Deep.RegionWith
import Derived.Deep.RegionHeld3
import Derived.Deep.LoopGhost
import Derived.Deep.AppendLies
import Derived.OwnWalk
import Derived.OneCell
import Derived.WalkSmall
import Derived.Lib.Hide
import Derived.KernelRfl
import Derived.Outline
namespace Go.Proofs.YtckpffkofeoinaaGreatDoor
open Go.RowKit

/-- A row of cells that can be read: it begins at an address, if it is not empty. -/
def Rd (w : World) (a : Option Addr) (vs : List Value) : Prop :=
  vs = [] ∨ ∃ b o, a = some ⟨b, o, none⟩ ∧ ∀ (j : Nat) v, vs[j]? = some v → w.cell? ⟨b, o + j, none⟩ = some v

theorem Rd.at {w : World} {a : Option Addr} {vs : List Value} (h : Rd w a vs) {j : Nat} {v : Value} (hj : vs[j]? = some v) :
    ∃ b o, a = some ⟨b, o, none⟩ ∧ w.cell? ⟨b, o + j, none⟩ = some v := by
  rcases h with rfl | ⟨b, o, ha, h⟩
  · simp at hj
  · exact ⟨b, o, ha, h j v hj⟩

theorem Rd.nil (w : World) (a : Option Addr) : Rd w a [] := .inl rfl

theorem Rd.mono {w w' : World} {a : Option Addr} {vs : List Value} (h : Rd w a vs) (hc : ∀ p v, w.cell? p = some v → (∃ b o, a = some ⟨b, o, none⟩ ∧ p.block = b) → w'.cell? p = some v) : Rd w' a vs := by
  rcases h with rfl | ⟨b, o, ha, h⟩
  · exact .inl rfl
  · exact .inr ⟨b, o, ha, fun j v hj => hc _ _ (h j v hj) ⟨b, o, ha, rfl⟩⟩

theorem Rd.below {w w' : World} {a : Option Addr} {vs : List Value} (h : Rd w a vs) (hb : Below w.heap.size w w') : Rd w' a vs :=
  h.mono fun p v hp _ => by rw [hb.cell (World.block_lt_of_cell? w p hp)]; exact hp

theorem Rd.drewN {w : World} {a : Option Addr} {vs : List Value} (h : Rd w a vs) (n : Nat) : Rd (w.drewN n) a vs := h

/-- What is owned can be read. -/
theorem Rd.of_owns {w : World} {base e size n : Nat} {a : Option Addr} {c : Nat} {xs : List Value} (h : w.ownsRow base e size (.slice a n c) n xs) : Rd w a xs := by
  obtain ⟨hl, h⟩ := h
  rcases h with ⟨hv, rfl⟩ | ⟨g, cap, cur, hv, hb, hh, h1, h2, h3, rfl⟩
  · left; cases xs with
    | nil => rfl
    | cons x xs => simp at hl
  · right
    injection hv with e1 _ _
    refine ⟨g, 0, e1, fun j v hj => ?_⟩
    rw [List.getElem?_take] at hj
    split at hj
    · simp [World.cell?, hh] at hj ⊢; exact hj
    · cases hj

end Go.Proofs.YtckpffkofeoinaaGreatDoor
