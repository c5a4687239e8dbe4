/- Joins and meets of a lattice as plain functions, and what they answer one another. -/
import Derived.Test.YtckpffkofeoinaaGreatDoorPols
namespace Go.Proofs.YtckpffkofeoinaaGreatDoor

def withinB (L : LatD) (a b : Int) : Bool := decide (0 ≤ a ∧ 0 ≤ b ∧ a < L.names.length ∧ b < L.names.length)
/-- The place of the join, or of the meet (of the other sets). -/
def atI (l : List Nat) (a b : Int) : Int := firstI l (l.getD a.toNat 0 &&& l.getD b.toNat 0)
def joinI (L : LatD) (a b : Int) : Int := if withinB L a b then atI L.up a b else -1
def meetI (L : LatD) (a b : Int) : Int := if withinB L a b then atI L.down a b else -1


theorem withinB_of {L : LatD} {a b : Nat} (ha : a < L.names.length) (hb : b < L.names.length) : withinB L (a : Int) (b : Int) = true := by
  unfold withinB; exact decide_eq_true ⟨by omega, by omega, by omega, by omega⟩

theorem joinI_nat {L : LatD} (H : IsLat L) {a b : Nat} (ha : a < L.names.length) (hb : b < L.names.length) : ∃ c : Nat, c < L.names.length ∧ joinI L (a : Int) (b : Int) = (c : Int) ∧ L.up.getD c 0 = L.up.getD a 0 &&& L.up.getD b 0 := by
  obtain ⟨c, h1, h2, h3⟩ := H.up.jn ha hb
  exact ⟨c, h1, by unfold joinI atI; rw [withinB_of ha hb, if_pos rfl, Int.toNat_natCast, Int.toNat_natCast]; exact h2, h3⟩
theorem meetI_nat {L : LatD} (H : IsLat L) {a b : Nat} (ha : a < L.names.length) (hb : b < L.names.length) : ∃ c : Nat, c < L.names.length ∧ meetI L (a : Int) (b : Int) = (c : Int) ∧ L.down.getD c 0 = L.down.getD a 0 &&& L.down.getD b 0 := by
  obtain ⟨c, h1, h2, h3⟩ := H.down.jn ha hb
  exact ⟨c, h1, by unfold meetI atI; rw [withinB_of ha hb, if_pos rfl, Int.toNat_natCast, Int.toNat_natCast]; exact h2, h3⟩

theorem joinI_unique {L : LatD} (H : IsLat L) {a b c : Nat} (ha : a < L.names.length) (hb : b < L.names.length) (hc : c < L.names.length) (h : L.up.getD c 0 = L.up.getD a 0 &&& L.up.getD b 0) : joinI L (a : Int) (b : Int) = (c : Int) := by
  obtain ⟨d, h1, h2, h3⟩ := joinI_nat H ha hb
  rw [h2, H.up.inj h1 hc (h3.trans h.symm)]
theorem meetI_unique {L : LatD} (H : IsLat L) {a b c : Nat} (ha : a < L.names.length) (hb : b < L.names.length) (hc : c < L.names.length) (h : L.down.getD c 0 = L.down.getD a 0 &&& L.down.getD b 0) : meetI L (a : Int) (b : Int) = (c : Int) := by
  obtain ⟨d, h1, h2, h3⟩ := meetI_nat H ha hb
  rw [h2, H.down.inj h1 hc (h3.trans h.symm)]

theorem bottom_below {L : LatD} (H : IsLat L) : ∃ c : Nat, c < L.names.length ∧ bottomI L = (c : Int) ∧ ∀ a, a < L.names.length → leB L.up c a = true := by
  obtain ⟨c, hc, h⟩ := H.down.all H.pos
  have h1 : ∀ d, d < L.names.length → leB L.up c d = true := fun d hd => by rw [← H.conv c d hc hd]; exact h d hd
  exact ⟨c, hc, H.up.first_eq hc (full_bits (H.up.bnd.get c) h1), h1⟩
theorem top_above {L : LatD} (H : IsLat L) : ∃ c : Nat, c < L.names.length ∧ topI L = (c : Int) ∧ ∀ a, a < L.names.length → leB L.up a c = true := by
  obtain ⟨c, hc, h⟩ := H.up.all H.pos
  have h1 : ∀ d, d < L.names.length → leB L.down c d = true := fun d hd => by rw [H.conv d c hd hc]; exact h d hd
  exact ⟨c, hc, H.down.first_eq hc (full_bits (H.down.bnd.get c) h1), h⟩

structure LawsFacts (L : LatD) (a b c : Int) : Prop where
  f1 : joinI L a b = joinI L b a
  f2 : meetI L a b = meetI L b a
  f3 : joinI L a (joinI L b c) = joinI L (joinI L a b) c
  f4 : meetI L a (meetI L b c) = meetI L (meetI L a b) c
  f5 : joinI L a (meetI L a b) = a
  f6 : meetI L a (joinI L a b) = a
  f7 : belowB L a a = true
  f8 : belowB L a b = true → belowB L b c = true → belowB L a c = true
  f9 : (joinI L a b == b) = belowB L a b
  f10 : (meetI L a b == a) = belowB L a b
  f11 : belowB L (bottomI L) a = true
  f12 : belowB L a (topI L) = true

theorem lawsFacts {L : LatD} (H : IsLat L) {a b c : Int} (ha0 : 0 ≤ a) (ha : a < L.names.length) (hb0 : 0 ≤ b) (hb : b < L.names.length) (hc0 : 0 ≤ c) (hc : c < L.names.length) : LawsFacts L a b c := by
  obtain ⟨a, rfl⟩ := Int.eq_ofNat_of_zero_le ha0
  obtain ⟨b, rfl⟩ := Int.eq_ofNat_of_zero_le hb0
  obtain ⟨c, rfl⟩ := Int.eq_ofNat_of_zero_le hc0
  have ha : a < L.names.length := by omega
  have hb : b < L.names.length := by omega
  have hc : c < L.names.length := by omega
  obtain ⟨jab, k1, e1, g1⟩ := joinI_nat H ha hb
  obtain ⟨jbc, k2, e2, g2⟩ := joinI_nat H hb hc
  obtain ⟨mab, k3, e3, g3⟩ := meetI_nat H ha hb
  obtain ⟨mbc, k4, e4, g4⟩ := meetI_nat H hb hc
  have u1 := H.up.up_l k1 g1
  have d1 := H.down.up_l k3 g3
  refine ⟨?_, ?_, ?_, ?_, ?_, ?_, ?_, ?_, ?_, ?_, ?_, ?_⟩
  · rw [e1]; exact (joinI_unique H hb ha k1 (by rw [g1, Nat.and_comm])).symm
  · rw [e3]; exact (meetI_unique H hb ha k3 (by rw [g3, Nat.and_comm])).symm
  · obtain ⟨x, k5, e5, g5⟩ := joinI_nat H ha k2
    rw [e1, e2, e5]
    exact (joinI_unique H k1 hc k5 (by rw [g5, g2, g1, Nat.and_assoc])).symm
  · obtain ⟨x, k5, e5, g5⟩ := meetI_nat H ha k4
    rw [e3, e4, e5]
    exact (meetI_unique H k3 hc k5 (by rw [g5, g4, g3, Nat.and_assoc])).symm
  · rw [e3]
    refine joinI_unique H ha k3 ha ?_
    have h1 : leB L.up mab a = true := by rw [← H.conv mab a k3 ha]; exact d1.1
    rw [Nat.and_comm]; exact ((H.up.sub k3 ha).1 h1).symm
  · rw [e1]
    refine meetI_unique H ha k1 ha ?_
    have h1 : leB L.down jab a = true := by rw [H.conv a jab ha k1]; exact u1.1
    rw [Nat.and_comm]; exact ((H.down.sub k1 ha).1 h1).symm
  · rw [belowB_nat ha ha]; exact H.up.refl a ha
  · rw [belowB_nat ha hb, belowB_nat hb hc, belowB_nat ha hc]; exact H.up.trans a b c ha hb
  · rw [belowB_nat ha hb, e1, Bool.eq_iff_iff, beq_iff_eq]
    constructor
    · intro h
      have : jab = b := by omega
      rw [← this]; exact u1.1
    · intro h
      have := H.up.inj k1 hb (g1.trans ((H.up.sub ha hb).1 h))
      rw [this]
  · rw [belowB_nat ha hb, e3, Bool.eq_iff_iff, beq_iff_eq]
    constructor
    · intro h
      have : mab = a := by omega
      rw [← H.conv a b ha hb, ← this]; exact d1.2
    · intro h
      rw [← H.conv a b ha hb] at h
      have := H.down.inj k3 ha (g3.trans (by rw [Nat.and_comm]; exact (H.down.sub hb ha).1 h))
      rw [this]
  · obtain ⟨x, hx, e, h⟩ := bottom_below H
    rw [e, belowB_nat hx ha]; exact h a ha
  · obtain ⟨x, hx, e, h⟩ := top_above H
    rw [e, belowB_nat ha hx]; exact h a ha
end Go.Proofs.YtckpffkofeoinaaGreatDoor
