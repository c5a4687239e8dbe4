/- The walk of PolicyMay. -/
import Derived.Test.YtckpffkofeoinaaDoorParse
import Derived.Test.YtckpffkofeoinaaDoorPLat
namespace Go.Proofs.YtckpffkofeoinaaDoor
open Go.RowKit Go.Maps

theorem belowB_nat {L : LatD} {a b : Nat} (ha : a < L.names.length) (hb : b < L.names.length) : belowB L (a : Int) (b : Int) = leB L.up a b := by
  unfold belowB leB
  rw [decide_eq_true (p := 0 ≤ (a : Int) ∧ 0 ≤ (b : Int) ∧ (a : Int) < L.names.length ∧ (b : Int) < L.names.length) ⟨by omega, by omega, by omega, by omega⟩, Bool.true_and, Int.toNat_natCast, Int.toNat_natCast]
theorem belowB_in {L : LatD} {a b : Int} (h : belowB L a b = true) : 0 ≤ a ∧ 0 ≤ b ∧ a < L.names.length ∧ b < L.names.length := by
  unfold belowB at h
  rw [Bool.and_eq_true] at h
  exact of_decide_eq_true h.1

theorem parse_ok {s : ByteArray} (h : parseE s = (0, 0)) : newE (readF s).2.2.names (readF s).2.2.below = 0 := by
  unfold parseE at h
  split at h
  · exact absurd (congrArg Prod.fst h) (by decide)
  · split at h
    · rename_i h1; exact absurd (congrArg Prod.fst h) h1
    · split at h
      · rename_i h1; exact absurd (congrArg Prod.fst h) h1
      · rename_i h1; simpa using h1

/-- What May and Level tell of one another. -/
structure MayLaw (r : RS) : Prop where
  refl : ∀ a, mayB r a a = decide (0 ≤ levelI r a)
  trans : ∀ a b c, mayB r a b = true → mayB r b c = true → mayB r a c = true
  anti : ∀ a b, mayB r a b = true → mayB r b a = true → levelI r a = levelI r b
  lev : ∀ a, -1 ≤ levelI r a ∧ levelI r a ≤ 1000

theorem mayLaw {r : RS} (hE : newE r.names r.below = 0) (hA : ∀ q ∈ r.of, q.2 < r.names.length) : MayLaw r := by
  have H := newL_lat hE
  have hn : (newL r.names r.below).names = r.names := rfl
  have hlev : ∀ a, levelI r a = -1 ∨ ∃ n : Nat, levelI r a = (n : Int) ∧ n < (newL r.names r.below).names.length := fun a => by
    unfold levelI
    cases h : ofAt r.of a with
    | none => exact .inl rfl
    | some n => exact .inr ⟨n, rfl, hA _ (ofAt_mem h)⟩
  have hge : ∀ {a b : Int}, belowB (newL r.names r.below) a b = true → 0 ≤ a ∧ 0 ≤ b := fun h => ⟨(belowB_in h).1, (belowB_in h).2.1⟩
  refine ⟨fun a => ?_, fun a b c h1 h2 => ?_, fun a b h1 h2 => ?_, fun a => ?_⟩
  · unfold mayB
    rcases hlev a with h | ⟨n, h, hl⟩
    · rw [h, decide_eq_false (by omega)]
      cases hb : belowB (newL r.names r.below) (-1) (-1) with
      | false => rfl
      | true => have := (hge hb).1; omega
    · rw [h, decide_eq_true (by omega), belowB_nat hl hl]; exact H.up.refl n hl
  · unfold mayB at *
    rcases hlev a with h | ⟨n, h, hl⟩
    · rw [h] at h1; have := (hge h1).1; omega
    · rcases hlev b with h' | ⟨m, h', hl'⟩
      · rw [h'] at h2; have := (hge h2).1; omega
      · rcases hlev c with h'' | ⟨k, h'', hl''⟩
        · rw [h''] at h2; have := (hge h2).2; omega
        · rw [h, h'] at h1
          rw [h', h''] at h2
          rw [h, h'']
          rw [belowB_nat hl hl'] at h1
          rw [belowB_nat hl' hl''] at h2
          rw [belowB_nat hl hl'']
          exact H.up.trans n m k hl hl' h1 h2
  · unfold mayB at *
    rcases hlev a with h | ⟨n, h, hl⟩
    · rw [h] at h1; have := (hge h1).1; omega
    · rcases hlev b with h' | ⟨m, h', hl'⟩
      · rw [h'] at h2; have := (hge h2).1; omega
      · rw [h, h'] at h1
        rw [h', h] at h2
        rw [belowB_nat hl hl'] at h1
        rw [belowB_nat hl' hl] at h2
        rw [h, h', H.up.anti n m hl hl' h1 h2]
  · rcases hlev a with h | ⟨n, h, hl⟩
    · omega
    · have := H.le; omega

set_option maxRecDepth 100000 in
set_option maxHeartbeats 4000000 in
theorem shown_any (w : World) (hM : MaxL w) :
    Calls Tryd.prog 6 #[] w fun e w' => e = .returned (.bool true) ∧ Below w.heap.size w w' := by
  have HMM : Hid (∀ w' : World, Below w.heap.size w w' → MaxL w') := fun w' hb => hM.below hb
  clear hM
  go_enter Tryd.func6, Tryd.ntmps6
  go_wp2_with fail
  refine (parse_any shownA _ (HMM.out _ (Below.refl _ _))).mono ?_
  rintro e w1 ⟨hb1, h1⟩
  rcases h1 with ⟨_, p, rfl, hp⟩ | ⟨h1, _⟩
  · have HB1 := Lib.hid hb1; have HP1 := Lib.hid hp; clear hb1 hp
    go_wp2_with fail
    refine (parse_any shownB _ (HMM.out _ HB1.out)).mono ?_
    rintro e w2 ⟨hb2, h2⟩
    rcases h2 with ⟨h2, _⟩ | ⟨_, h2⟩
    · rw [shownB_e] at h2; exact absurd h2 (by decide)
    · rw [shownB_e] at h2
      obtain rfl : e = .returned (.tuple #[.pointer none, .int .i64 15, .int .i64 3]) := h2
      have HB2 := Lib.hid (HB1.out.trans (hb2.mono HB1.out.size)); have HP2 := Lib.hid (HP1.out.below hb2); clear hb2 HP1 HB1
      go_wp2_with fail
      refine (parse_any shownC _ (HMM.out _ HB2.out)).mono ?_
      rintro e w3 ⟨hb3, h3⟩
      rcases h3 with ⟨h3, _⟩ | ⟨_, h3⟩
      · rw [shownC_e] at h3; exact absurd h3 (by decide)
      · rw [shownC_e] at h3
        obtain rfl : e = .returned (.tuple #[.pointer none, .int .i64 15, .int .i64 9]) := h3
        have HB3 := Lib.hid (HB2.out.trans (hb3.mono HB2.out.size)); have HP3 := Lib.hid (HP2.out.below hb3); clear hb3 HP2 HB2
        have HX : Hid (levelI (readF shownA).2.2 ⟨#[120]⟩ = 0) := by show levelI _ _ = 0; unfold levelI; rw [shownA_x]; rfl
        have HY : Hid (mayB (readF shownA).2.2 ⟨#[120]⟩ ⟨#[120]⟩ = true) := by show mayB _ _ _ = true; unfold mayB; rw [HX.out]; exact shownA_b
        go_wp2_with (first | (go_at_call 10; refine (level_any _ _ _ _ (by decide) HP3.out).mono ?_; rintro e w4 ⟨rfl, rfl⟩; rw [HX.out]) | (go_at_call 16; refine (may_any _ _ _ _ _ (by decide) (by decide) HP3.out).mono ?_; rintro e w4 ⟨rfl, nq, rfl⟩; rw [HY.out]))
        go_ret
        exact ⟨ret_bool rfl, below_drewN HB3.out _⟩
  · rw [shownA_e] at h1; exact absurd rfl h1
end Go.Proofs.YtckpffkofeoinaaDoor
