/- Bottom, Top, Names, Covers, right. -/
import Derived.Test.YtkgkhakjodlpgaaDoorTables
namespace Go.Proofs.YtkgkhakjodlpgaaDoor
open Go.RowKit

def bottomI (L : LatD) : Int := firstI L.up (2 ^ L.names.length - 1)
def topI (L : LatD) : Int := firstI L.down (2 ^ L.names.length - 1)

theorem pow16 {n : Nat} (h : n ≤ 16) : 1 ≤ 2 ^ n ∧ 2 ^ n ≤ 65536 := ⟨Nat.one_le_two_pow, by
  have : 2 ^ n ≤ 2 ^ 16 := Nat.pow_le_pow_right (by omega) h
  omega⟩
theorem shl_u32 {n : Nat} (h : n ≤ 16) : IntKind.u32.wrap (2 ^ n) = ((2 ^ n : Nat) : Int) := by
  have := pow16 h
  rw [IntKind.wrap_u32', show ((2 : Int) ^ n) = ((2 ^ n : Nat) : Int) by norm_cast]; omega
theorem shl_u32_1 {n : Nat} (h : n ≤ 16) : IntKind.u32.wrap (((2 ^ n : Nat) : Int) - 1) = ((2 ^ n - 1 : Nat) : Int) := by
  have := pow16 h
  rw [IntKind.wrap_u32']; omega

/-- The pairs with nothing between, as Covers asks. -/
def coverB (L : LatD) (a b : Nat) : Bool := (a != b) && ((L.up.getD a 0).testBit b && ((L.up.getD a 0 &&& L.down.getD b 0) == (2 ^ a ||| 2 ^ b)))
def coverRow (L : LatD) (a k : Nat) : List (Nat × Nat) := ((List.range k).filter fun b => coverB L a b).map fun b => (a, b)
def coverTo (L : LatD) (k : Nat) : List (Nat × Nat) := (List.range k).flatMap fun a => coverRow L a L.names.length
def covers (L : LatD) : List (Nat × Nat) := coverTo L L.names.length
def pairsV (l : List (Nat × Nat)) : List Value := l.flatMap fun q => [.int .i64 (q.1 : Int), .int .i64 (q.2 : Int)]

theorem coverRow_len (L : LatD) (a k : Nat) : (coverRow L a k).length ≤ k := by
  simp only [coverRow, List.length_map]
  exact Nat.le_trans (List.length_filter_le _ _) (by simp)
theorem coverTo_len (L : LatD) (k : Nat) : (coverTo L k).length ≤ k * L.names.length := by
  induction k with
  | zero => simp [coverTo]
  | succ k ih =>
    have e : coverTo L (k + 1) = coverTo L k ++ coverRow L k L.names.length := by simp [coverTo, List.range_succ]
    rw [e, List.length_append, Nat.add_mul, Nat.one_mul]
    have := coverRow_len L k L.names.length
    omega
theorem cover_len (L : LatD) {k k2 : Nat} (h : L.names.length ≤ 16) (hk : k < L.names.length) (hk2 : k2 ≤ L.names.length) : (coverTo L k ++ coverRow L k k2).length ≤ 1000000 := by
  rw [List.length_append]
  have h1 := coverTo_len L k
  have h2 := coverRow_len L k k2
  have h3 : k * L.names.length ≤ 16 * 16 := Nat.mul_le_mul (by omega) h
  omega

end Go.Proofs.YtkgkhakjodlpgaaDoor
