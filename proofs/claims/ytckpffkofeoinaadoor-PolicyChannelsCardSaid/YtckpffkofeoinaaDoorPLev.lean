/- Package levels as plain functions. -/
namespace Go.Proofs.YtckpffkofeoinaaDoor

/-- The first place of a value; -1: there is none. -/
def firstI (l : List Nat) (s : Nat) : Int := if s ∈ l then ((l.idxOf s : Nat) : Int) else -1

def joinRow (l : List Nat) (a : Nat) : List Int := l.map fun b => firstI l (l.getD a 0 &&& b)
def joinTab (l : List Nat) : List (List Int) := (List.range l.length).map fun a => joinRow l a

structure LatD where
  names : List ByteArray
  up : List Nat
  down : List Nat

/-- As New makes them: all of one length, of at most 16; each set within them. -/
structure LatD.Ok (L : LatD) : Prop where
  pos : 0 < L.names.length
  le : L.names.length ≤ 16
  up : L.up.length = L.names.length
  down : L.down.length = L.names.length
  upB : ∀ s ∈ L.up, s < 2 ^ L.names.length
  downB : ∀ s ∈ L.down, s < 2 ^ L.names.length

theorem LatD.Ok.lt {n s : Nat} (h : n ≤ 16) (hs : s < 2 ^ n) : s ≤ 65535 := by
  have : 2 ^ n ≤ 2 ^ 16 := Nat.pow_le_pow_right (by omega) h
  omega
end Go.Proofs.YtckpffkofeoinaaDoor
