/- The walk of PolicyMay: whole. -/
import Derived.Test.YtkgkhakjodlpgaaDoorPolicyMay
namespace Go.Proofs.YtkgkhakjodlpgaaDoor
open Go.RowKit Go.Maps

/-- The policy as it lies, behind whatever draws. -/
structure PSt (w : World) (p lp bp : Nat) (r : RS) (wx : World) : Prop where
  pol : Pol wx p r
  at_ : wx.heap[p]? = some (.cells #[.pointer (some ⟨lp, 0, none⟩), .map (some bp)] 45 (0, 0))
  lat : Lat wx lp (newL r.names r.below)
  bel : Below w.heap.size w wx

theorem PSt.drewN {w : World} {p lp bp : Nat} {r : RS} {wx : World} (h : PSt w p lp bp r wx) (k : Nat) : PSt w p lp bp r (wx.drewN k) :=
  ⟨h.pol.below (below_drewN (Below.refl _ _) k), h.at_, h.lat.below (below_drewN (Below.refl _ _) k), below_drewN h.bel k⟩

theorem ps_level {w : World} {p lp bp : Nat} {r : RS} {wx : World} (h : PSt w p lp bp r wx) (x : ByteArray) (hx : x.size ≤ 100) :
    Calls Tryd.prog 7 #[.pointer (some ⟨p, 0, none⟩), .string x] wx fun e w' => e = .returned (.int .i64 (levelI r x)) ∧ Hid (PSt w p lp bp r w') :=
  (level_any p r x _ (by unfold maxLen; omega) h.pol).mono fun e w' ⟨h1, h2⟩ => ⟨h1, by subst h2; exact h⟩
theorem ps_may {w : World} {p lp bp : Nat} {r : RS} {wx : World} (h : PSt w p lp bp r wx) (x y : ByteArray) (hx : x.size ≤ 100) (hy : y.size ≤ 100) :
    Calls Tryd.prog 6 #[.pointer (some ⟨p, 0, none⟩), .string x, .string y] wx fun e w' => e = .returned (.bool (mayB r x y)) ∧ Hid (PSt w p lp bp r w') :=
  (may_any p r x y _ (by unfold maxLen; omega) (by unfold maxLen; omega) h.pol).mono fun e w' ⟨h1, n, h2⟩ => ⟨h1, by subst h2; exact h.drewN n⟩
theorem ps_lattice {w : World} {p lp bp : Nat} {r : RS} {wx : World} (h : PSt w p lp bp r wx) :
    Calls Tryd.prog 8 #[.pointer (some ⟨p, 0, none⟩)] wx fun e w' => e = .returned (.pointer (some ⟨lp, 0, none⟩)) ∧ Hid (PSt w p lp bp r w') :=
  (lattice_any p lp _ bp h.at_).mono fun e w' ⟨h1, h2⟩ => ⟨h1, by subst h2; exact h⟩
theorem ps_below {w : World} {p lp bp : Nat} {r : RS} {wx : World} (h : PSt w p lp bp r wx) (i j : Int) :
    Calls Tryd.prog 9 #[.pointer (some ⟨lp, 0, none⟩), .int .i64 i, .int .i64 j] wx fun e w' => e = .returned (.bool (belowB (newL r.names r.below) i j)) ∧ Hid (PSt w p lp bp r w') :=
  (below_any lp _ i j _ h.lat).mono fun e w' ⟨h1, h2⟩ => ⟨h1, by subst h2; exact h⟩

set_option maxRecDepth 100000 in
set_option maxHeartbeats 4000000 in
theorem policyMay_walk (s a b c : ByteArray) (w : World) (hM : MaxL w) :
    Calls Tryd.prog 3 #[.string s, .string a, .string b, .string c] w fun e w' => e = .returned (.bool true) ∧ Below w.heap.size w w' := by
  have HMM : Hid (∀ w' : World, Below w.heap.size w w' → MaxL w') := fun w' hb => hM.below hb
  clear hM
  by_cases hl : s.size ≤ 2000 ∧ a.size ≤ 100 ∧ b.size ≤ 100 ∧ c.size ≤ 100
  · obtain ⟨l1, l2, l3, l4⟩ := hl
    go_enter Tryd.func3, Tryd.ntmps3
    go_wp2_with (go_at_call 4; refine (shown_any _ (HMM.out _ (Below.refl _ _))).mono ?_; rintro e w1 ⟨rfl, hb1⟩; have HB1 := Lib.hid hb1; clear hb1)
    refine (parse_any s _ (HMM.out _ HB1.out)).mono ?_
    rintro e w2 ⟨hb2, h2⟩
    rcases h2 with ⟨h2, p, rfl, hp⟩ | ⟨h2, rfl⟩
    · have HB2 := Lib.hid (HB1.out.trans (hb2.mono HB1.out.size))
      have hlaw := hp
      obtain ⟨lp, bp, hh, hlat, _, hA⟩ := hlaw
      have law := mayLaw (parse_ok h2) hA
      have HS : Hid (PSt w p lp bp (readF s).2.2 w2) := ⟨hp, hh, hlat, HB2.out⟩
      clear hb2 hp hh hlat hA h2 HB2 HB1
      generalize (readF s).2.2 = r at *
      have hmb : mayB r a b = belowB (newL r.names r.below) (levelI r a) (levelI r b) := rfl
      have hr := law.refl a; have ht := law.trans a b c; have hn := law.anti a b
      have hv := law.lev a; have hv2 := law.lev b
      have h00 : mayB r a b = true → 0 ≤ levelI r a ∧ 0 ≤ levelI r b := fun h => ⟨(belowB_in h).1, (belowB_in h).2.1⟩
      clear law
      cases hab : mayB r a b with
      | false =>
        have HMB : Hid (belowB (newL r.names r.below) (levelI r a) (levelI r b) = false) := hmb.symm.trans hab
        have HAB := Lib.hid hab
        by_cases h0 : 0 ≤ levelI r a
        · have HAA : Hid (mayB r a a = true) := by show _ = _; rw [hr, decide_eq_true h0]
          clear hmb hr ht hn hab h00
          go_wp2_with (first | (go_at_call 6; refine (ps_may HS.out _ _ (by assumption) (by assumption)).mono ?_; rintro e wx ⟨rfl, HS⟩; first | rw [HAA.out] | rw [HAB.out]) | (go_at_call 7; refine (ps_level HS.out _ (by assumption)).mono ?_; rintro e wx ⟨rfl, HS⟩) | (go_at_call 8; refine (ps_lattice HS.out).mono ?_; rintro e wx ⟨rfl, HS⟩) | (go_at_call 9; refine (ps_below HS.out _ _).mono ?_; rintro e wx ⟨rfl, HS⟩; rw [HMB.out]))
          go_ret
          exact ⟨ret_bool rfl, HS.out.bel⟩
        · have HAA : Hid (mayB r a a = false) := by show _ = _; rw [hr, decide_eq_false h0]
          clear hmb hr ht hn hab h00
          go_wp2_with (first | (go_at_call 6; refine (ps_may HS.out _ _ (by assumption) (by assumption)).mono ?_; rintro e wx ⟨rfl, HS⟩; first | rw [HAA.out] | rw [HAB.out]) | (go_at_call 7; refine (ps_level HS.out _ (by assumption)).mono ?_; rintro e wx ⟨rfl, HS⟩) | (go_at_call 8; refine (ps_lattice HS.out).mono ?_; rintro e wx ⟨rfl, HS⟩) | (go_at_call 9; refine (ps_below HS.out _ _).mono ?_; rintro e wx ⟨rfl, HS⟩; rw [HMB.out]))
          go_ret
          exact ⟨ret_bool rfl, HS.out.bel⟩
      | true =>
        have HMB : Hid (belowB (newL r.names r.below) (levelI r a) (levelI r b) = true) := hmb.symm.trans hab
        have HAB := Lib.hid hab
        obtain ⟨h0, h1⟩ := h00 hab
        have HAA : Hid (mayB r a a = true) := by show _ = _; rw [hr, decide_eq_true h0]
        have ht' := ht hab
        have hn' := hn hab
        clear hmb hr ht hn hab h00
        cases hbc : mayB r b c with
        | false =>
          have HBC := Lib.hid hbc
          cases hba : mayB r b a with
          | false =>
            have HBA := Lib.hid hba
            clear ht' hn' hbc hba
            go_wp2_with (first | (go_at_call 6; refine (ps_may HS.out _ _ (by assumption) (by assumption)).mono ?_; rintro e wx ⟨rfl, HS⟩; first | rw [HAA.out] | rw [HAB.out] | rw [HBC.out] | rw [HBA.out]) | (go_at_call 7; refine (ps_level HS.out _ (by assumption)).mono ?_; rintro e wx ⟨rfl, HS⟩) | (go_at_call 8; refine (ps_lattice HS.out).mono ?_; rintro e wx ⟨rfl, HS⟩) | (go_at_call 9; refine (ps_below HS.out _ _).mono ?_; rintro e wx ⟨rfl, HS⟩; rw [HMB.out]))
            go_ret
            exact ⟨ret_bool rfl, HS.out.bel⟩
          | true =>
            have HBA := Lib.hid hba
            have hq := hn' hba
            have HMC : Hid (belowB (newL r.names r.below) (levelI r b) (levelI r b) = true) := by have := HMB.out; rw [hq] at this; exact this
            clear ht' hn' hbc hba
            go_wp2_with (first | (go_at_call 6; refine (ps_may HS.out _ _ (by assumption) (by assumption)).mono ?_; rintro e wx ⟨rfl, HS⟩; first | rw [HAA.out] | rw [HAB.out] | rw [HBC.out] | rw [HBA.out]) | (go_at_call 7; refine (ps_level HS.out _ (by assumption)).mono ?_; rintro e wx ⟨rfl, HS⟩) | (go_at_call 8; refine (ps_lattice HS.out).mono ?_; rintro e wx ⟨rfl, HS⟩) | (go_at_call 9; refine (ps_below HS.out _ _).mono ?_; rintro e wx ⟨rfl, HS⟩; first | rw [HMC.out] | rw [HMB.out]))
            go_ret
            exact ⟨ret_bool rfl, HS.out.bel⟩
        | true =>
          have HBC := Lib.hid hbc
          have HAC := Lib.hid (ht' hbc)
          cases hba : mayB r b a with
          | false =>
            have HBA := Lib.hid hba
            clear ht' hn' hbc hba
            go_wp2_with (first | (go_at_call 6; refine (ps_may HS.out _ _ (by assumption) (by assumption)).mono ?_; rintro e wx ⟨rfl, HS⟩; first | rw [HAA.out] | rw [HAB.out] | rw [HBC.out] | rw [HAC.out] | rw [HBA.out]) | (go_at_call 7; refine (ps_level HS.out _ (by assumption)).mono ?_; rintro e wx ⟨rfl, HS⟩) | (go_at_call 8; refine (ps_lattice HS.out).mono ?_; rintro e wx ⟨rfl, HS⟩) | (go_at_call 9; refine (ps_below HS.out _ _).mono ?_; rintro e wx ⟨rfl, HS⟩; rw [HMB.out]))
            go_ret
            exact ⟨ret_bool rfl, HS.out.bel⟩
          | true =>
            have HBA := Lib.hid hba
            have hq := hn' hba
            have HMC : Hid (belowB (newL r.names r.below) (levelI r b) (levelI r b) = true) := by have := HMB.out; rw [hq] at this; exact this
            clear ht' hn' hbc hba
            go_wp2_with (first | (go_at_call 6; refine (ps_may HS.out _ _ (by assumption) (by assumption)).mono ?_; rintro e wx ⟨rfl, HS⟩; first | rw [HAA.out] | rw [HAB.out] | rw [HBC.out] | rw [HAC.out] | rw [HBA.out]) | (go_at_call 7; refine (ps_level HS.out _ (by assumption)).mono ?_; rintro e wx ⟨rfl, HS⟩) | (go_at_call 8; refine (ps_lattice HS.out).mono ?_; rintro e wx ⟨rfl, HS⟩) | (go_at_call 9; refine (ps_below HS.out _ _).mono ?_; rintro e wx ⟨rfl, HS⟩; first | rw [HMC.out] | rw [HMB.out]))
            go_ret
            exact ⟨ret_bool rfl, HS.out.bel⟩
    · have HB2 := Lib.hid (HB1.out.trans (hb2.mono HB1.out.size))
      have hne : ((parseE s).1 != 0) = true := by simpa using h2
      generalize (parseE s).1 = ec at *
      generalize (parseE s).2 = ek at *
      clear hb2 h2
      go_wp2
      go_ret
      exact ⟨ret_bool rfl, HB2.out⟩
  · by_cases l1 : (2000 : Int) < (s.size : Int)
    · clear hl
      go_enter Tryd.func3, Tryd.ntmps3
      go_wp2_with (go_at_call 4; refine (shown_any _ (HMM.out _ (Below.refl _ _))).mono ?_; rintro e w1 ⟨rfl, hb1⟩; have HB1 := Lib.hid hb1; clear hb1)
      go_ret
      exact ⟨ret_bool rfl, HB1.out⟩
    · by_cases l2 : (100 : Int) < (a.size : Int)
      · clear hl
        go_enter Tryd.func3, Tryd.ntmps3
        go_wp2_with (go_at_call 4; refine (shown_any _ (HMM.out _ (Below.refl _ _))).mono ?_; rintro e w1 ⟨rfl, hb1⟩; have HB1 := Lib.hid hb1; clear hb1)
        go_ret
        exact ⟨ret_bool rfl, HB1.out⟩
      · by_cases l3 : (100 : Int) < (b.size : Int)
        · clear hl
          go_enter Tryd.func3, Tryd.ntmps3
          go_wp2_with (go_at_call 4; refine (shown_any _ (HMM.out _ (Below.refl _ _))).mono ?_; rintro e w1 ⟨rfl, hb1⟩; have HB1 := Lib.hid hb1; clear hb1)
          go_ret
          exact ⟨ret_bool rfl, HB1.out⟩
        · have l4 : (100 : Int) < (c.size : Int) := by omega
          clear hl
          go_enter Tryd.func3, Tryd.ntmps3
          go_wp2_with (go_at_call 4; refine (shown_any _ (HMM.out _ (Below.refl _ _))).mono ?_; rintro e w1 ⟨rfl, hb1⟩; have HB1 := Lib.hid hb1; clear hb1)
          go_ret
          exact ⟨ret_bool rfl, HB1.out⟩
end Go.Proofs.YtkgkhakjodlpgaaDoor
