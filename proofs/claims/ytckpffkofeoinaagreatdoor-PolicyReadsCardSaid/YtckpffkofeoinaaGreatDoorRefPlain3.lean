/- The document's lattice, its top, its bottom, its covers, and its names. -/
import Derived.Test.YtckpffkofeoinaaGreatDoorRefPlain2
import Derived.Test.YtckpffkofeoinaaGreatDoorZLaws
namespace Go.Proofs.YtckpffkofeoinaaGreatDoor
open Go.RowKit Go.Proofs.YtckpffkofeoinaaGreatDoor.Lr Go.Proofs.YtckpffkofeoinaaGreatDoorW.PrintWords

def fa (p : Nat → Bool) (n c : Nat) : Bool := (List.range' c (n - c)).all p
theorem fa_end {p : Nat → Bool} {n c : Nat} (h : n ≤ c) : fa p n c = true := by
  unfold fa
  rw [show n - c = 0 by omega]; rfl
theorem fa_step {p : Nat → Bool} {n c : Nat} (h : c < n) : fa p n c = (p c && fa p n (c + 1)) := by
  unfold fa
  rw [show n - c = (n - (c + 1)) + 1 by omega, List.range'_succ, List.all_cons]
theorem fa_zero (p : Nat → Bool) (n : Nat) : fa p n 0 = (List.range n).all p := by
  unfold fa
  rw [List.range_eq_range']; rfl

theorem joinI_at {L : LatD} {a b : Nat} (ha : a < L.names.length) (hb : b < L.names.length) : joinI L (a : Int) (b : Int) = firstI L.up (L.up.getD a 0 &&& L.up.getD b 0) := by
  rw [joinI, withinB, if_pos (decide_eq_true ⟨by omega, by omega, by omega, by omega⟩), atI, Int.toNat_natCast, Int.toNat_natCast]
theorem meetI_at {L : LatD} {a b : Nat} (ha : a < L.names.length) (hb : b < L.names.length) : meetI L (a : Int) (b : Int) = firstI L.down (L.down.getD a 0 &&& L.down.getD b 0) := by
  rw [meetI, withinB, if_pos (decide_eq_true ⟨by omega, by omega, by omega, by omega⟩), atI, Int.toNat_natCast, Int.toNat_natCast]
theorem belowB_at {L : LatD} {a b : Nat} (ha : a < L.names.length) (hb : b < L.names.length) : belowB L (a : Int) (b : Int) = leB L.up a b := by
  rw [belowB, decide_eq_true (show 0 ≤ (a : Int) ∧ 0 ≤ (b : Int) ∧ (a : Int) < (L.names.length : Int) ∧ (b : Int) < (L.names.length : Int) from ⟨by omega, by omega, by omega, by omega⟩)]
  rfl

section
variable {names : List ByteArray} {pairs : List (ByteArray × ByteArray)} {U : List (List Bool)} (hS : Shows names pairs U) (hle : names.length ≤ 16) (hpos : 0 < names.length) (hp : pairs.all (pairOk names) = true)
include hS hle hpos hp

theorem Shows.lattice_ev : ∃ k, runnelref2_Lattice_lattice.f k names U = some (rightB (newL names pairs)) := by
  have inner : ∀ (a : Nat) (v : Bool), a < names.length → (∃ k, runnelref2_Lattice_lattice.l0 k ((a + 1 : Nat) : Int) names U = some v) → ∀ d b : Nat, b + d = names.length → ∃ k, runnelref2_Lattice_lattice.l1 k (a : Int) (b : Int) names U = some (fa (fun b => !badB (newL names pairs) a b) names.length b && v) := by
    intro a v ha hv d
    induction d with
    | zero =>
      intro b hb
      obtain ⟨k, hv⟩ := hv
      refine ⟨k + 1, ?_⟩
      simp only [runnelref2_Lattice_lattice.l1]
      rw [if_neg (by omega), wrap1 (by omega), hv, fa_end (by omega), Bool.true_and]
    | succ d ih =>
      intro b hb
      have hbl : b < names.length := by omega
      obtain ⟨k1, e1⟩ := ih (b + 1) (by omega)
      obtain ⟨k2, e2⟩ := hS.join_ev hle hpos hp (a : Int) (b : Int)
      obtain ⟨k3, e3⟩ := hS.meet_ev hle hpos hp (a : Int) (b : Int)
      rw [joinI_at (L := newL names pairs) ha hbl] at e2
      rw [meetI_at (L := newL names pairs) ha hbl] at e3
      have hbad : badB (newL names pairs) a b = (((a != b) && (leB (newL names pairs).up a b && leB (newL names pairs).up b a)) || (decide (firstI (newL names pairs).up ((newL names pairs).up.getD a 0 &&& (newL names pairs).up.getD b 0) < 0) || decide (firstI (newL names pairs).down ((newL names pairs).down.getD a 0 &&& (newL names pairs).down.getD b 0) < 0))) := rfl
      rw [fa_step hbl, hbad]
      generalize firstI (newL names pairs).up ((newL names pairs).up.getD a 0 &&& (newL names pairs).up.getD b 0) = J at e2 hbad ⊢
      generalize firstI (newL names pairs).down ((newL names pairs).down.getD a 0 &&& (newL names pairs).down.getD b 0) = M at e3 hbad ⊢
      generalize fa (fun b => !badB (newL names pairs) a b) names.length (b + 1) = F at e1 ⊢
      have chain : ((runnelref2_Lattice_Join.f (k1 + k2 + k3) names U (a : Int) (b : Int)).bind fun t => (if t < 0 then (some false) else ((runnelref2_Lattice_Meet.f (k1 + k2 + k3) names U (a : Int) (b : Int)).bind fun t2 => (if t2 < 0 then (some false) else (runnelref2_Lattice_lattice.l1 (k1 + k2 + k3) (a : Int) (wrap64 ((b : Int) + 1)) names U))))) = some (!(decide (J < 0) || decide (M < 0)) && (F && v)) := by
        rw [at_rounds (runnelref2_Lattice_Join.mono names U (a : Int) (b : Int)) (show k2 ≤ k1 + k2 + k3 by omega) e2]
        simp only [Option.bind_some]
        by_cases hJ : J < 0
        · rw [if_pos hJ, decide_eq_true hJ]; rfl
        · rw [if_neg hJ, decide_eq_false hJ, at_rounds (runnelref2_Lattice_Meet.mono names U (a : Int) (b : Int)) (show k3 ≤ k1 + k2 + k3 by omega) e3]
          simp only [Option.bind_some]
          by_cases hM : M < 0
          · rw [if_pos hM, decide_eq_true hM]; rfl
          · rw [if_neg hM, decide_eq_false hM, wrap1 (by omega)]
            simp only [Bool.or_self, Bool.not_false, Bool.true_and]
            exact at_rounds (g := fun j => runnelref2_Lattice_lattice.l1 j (a : Int) ((b + 1 : Nat) : Int) names U) (fun j => (runnelref2_Lattice_lattice.mono_l j).2 _ _ _ _) (show k1 ≤ k1 + k2 + k3 by omega) e1
      refine ⟨k1 + k2 + k3 + 1, ?_⟩
      simp only [runnelref2_Lattice_lattice.l1]
      rw [if_pos (by omega)]
      by_cases hab : a = b
      · rw [if_pos (by omega), chain, show (a != b) = false by simp [hab]]
        simp [Bool.and_assoc]
      · rw [if_neg (by omega), show (a != b) = true by simp [hab], hS.below_ev, belowB_at (L := newL names pairs) ha hbl]
        simp only [Option.bind_some]
        cases h1 : leB (newL names pairs).up a b with
        | false =>
          simp only [Bool.false_eq_true, if_false]
          rw [chain]
          simp [Bool.and_assoc]
        | true =>
          rw [if_pos rfl, hS.below_ev, belowB_at (L := newL names pairs) hbl ha]
          simp only [Option.bind_some]
          cases h2 : leB (newL names pairs).up b a with
          | false =>
            simp only [Bool.false_eq_true, if_false]
            rw [chain]
            simp [Bool.and_assoc]
          | true =>
            rw [if_pos rfl]
            simp
  have outer : ∀ d a : Nat, a + d = names.length → ∃ k, runnelref2_Lattice_lattice.l0 k (a : Int) names U = some (fa (fun a => rowB (newL names pairs) a names.length) names.length a) := by
    intro d
    induction d with
    | zero =>
      intro a h
      refine ⟨1, ?_⟩
      simp only [runnelref2_Lattice_lattice.l0]
      rw [if_neg (by omega), fa_end (by omega)]
    | succ d ih =>
      intro a h
      obtain ⟨k, e⟩ := inner a _ (by omega) (ih (a + 1) (by omega)) names.length 0 (by omega)
      refine ⟨k + 1, ?_⟩
      simp only [runnelref2_Lattice_lattice.l0]
      rw [if_pos (by omega), fa_step (by omega), rowB, ← fa_zero]
      exact e
  obtain ⟨k, e⟩ := outer names.length 0 (by omega)
  refine ⟨k, ?_⟩
  rw [fa_zero] at e
  exact e
end

section
variable {names : List ByteArray} {pairs : List (ByteArray × ByteArray)} {U : List (List Bool)} (hS : Shows names pairs U) (h0 : newE names pairs = 0)
include hS h0

theorem Shows.covers : rcovers U names.length = covers (newL names pairs) := by
  have H := newL_lat h0
  have hb : ∀ a b, a < names.length → b < names.length → rcovB U names.length a b = coverB (newL names pairs) a b := fun a b ha hb => by
    rw [Bool.eq_iff_iff, coverB_iff H ha hb]
    unfold rcovB rcovTo rcovPre rcovOk
    simp only [Bool.and_eq_true, bne_iff_ne, ne_eq, List.all_eq_true, List.mem_range, Bool.or_eq_true, beq_iff_eq, Bool.not_eq_true']
    rw [hS.2 a b ha hb]
    constructor
    · rintro ⟨⟨h1, h2⟩, h3⟩
      refine ⟨h1, h2, fun c hc h4 h5 => ?_⟩
      rcases h3 c hc with h6 | h6 | h6 | h6
      · exact .inl h6
      · exact .inr h6
      · rw [(hS.2 a c ha hc).2 h4] at h6; cases h6
      · rw [(hS.2 c b hc hb).2 h5] at h6; cases h6
    · rintro ⟨h1, h2, h3⟩
      refine ⟨⟨h1, h2⟩, fun c hc => ?_⟩
      cases h4 : bit U a c with
      | false => exact .inr (.inr (.inl rfl))
      | true =>
        cases h5 : bit U c b with
        | false => exact .inr (.inr (.inr rfl))
        | true =>
          rcases h3 c hc ((hS.2 a c ha hc).1 h4) ((hS.2 c b hc hb).1 h5) with h6 | h6
          · exact .inl h6
          · exact .inr (.inl h6)
  have hrow : ∀ a, a < names.length → rcoverRow U names.length a names.length = coverRow (newL names pairs) a names.length := fun a ha => by
    unfold rcoverRow coverRow
    rw [List.filter_congr (fun b hb' => hb a b ha (List.mem_range.1 hb'))]
  unfold rcovers rcoverTo Go.Proofs.YtckpffkofeoinaaGreatDoor.covers coverTo
  show (List.range names.length).flatMap _ = (List.range names.length).flatMap _
  unfold List.flatMap
  rw [List.map_congr_left (fun a ha => hrow a (List.mem_range.1 ha))]
  rfl
end
end Go.Proofs.YtckpffkofeoinaaGreatDoor
