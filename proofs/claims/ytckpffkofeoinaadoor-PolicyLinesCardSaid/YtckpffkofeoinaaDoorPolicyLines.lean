/- The walk of PolicyLines. -/
import Derived.Test.YtckpffkofeoinaaDoorParse2
import Derived.Test.YtckpffkofeoinaaDoorPBackP
namespace Go.Proofs.YtckpffkofeoinaaDoor
open Go.RowKit Go.Maps

theorem print_r (p : Nat) (s : ByteArray) (w : World) (hP : Pol w p (readF s).2.2) (hE : newE (readF s).2.2.names (readF s).2.2.below = 0) (hs : s.size ≤ 3000) :
    Calls Tryd.prog 14 #[.pointer (some ⟨p, 0, none⟩)] w fun e w' => e = .returned (.string (mkB (printB (readF s).2.2))) ∧ Hid (Below w.heap.size w w') := by
  have hG := readF_good s
  have h1 := print_len hG hE
  have h2 := cost_read s
  have h3 : (readF s).2.2.of.length ≤ 1000000 := by
    have := (RS.Ok.all (linesF s) (r := RS.none) (k := 0) (RS.none_ok s.size 0) fun x hx => lines_le hx).of
    have := (lines_count s).2
    show (linesTo RS.none 0 (linesF s)).2.2.of.length ≤ _
    omega
  exact print_any p _ w hP hG h3 (by omega)

set_option maxRecDepth 100000 in
set_option maxHeartbeats 4000000 in
theorem policyLines_walk (s t : ByteArray) (w : World) (hM : MaxL w) :
    Calls Tryd.prog 5 #[.string s, .string t] w fun e w' => e = .returned (.bool true) ∧ Below w.heap.size w w' := by
  have HMM : Hid (∀ w' : World, Below w.heap.size w w' → MaxL w') := fun w' hb => hM.below hb
  clear hM
  by_cases hl : s.size ≤ 1000 ∧ t.size ≤ 1000
  · obtain ⟨l1, l2⟩ := hl
    obtain ⟨a1, a2, a3, a4⟩ := lines_law s t l1 l2
    have a5 := parse_small s
    have hz : (bHead ++ s).size = s.size + 7 := by rw [ByteArray.size_append, Nat.add_comm]; rfl
    obtain ⟨s2, hs2⟩ : ∃ x, (⟨#[35, 32, 120, 10, 32, 9, 10]⟩ : ByteArray) ++ s = x := ⟨_, rfl⟩
    obtain ⟨s3, hs3⟩ : ∃ x, s ++ (⟨#[10]⟩ : ByteArray) ++ t = x := ⟨_, rfl⟩
    change (parseE ((⟨#[35, 32, 120, 10, 32, 9, 10]⟩ : ByteArray) ++ s)).1 = _ at a1
    change _ → (parseE ((⟨#[35, 32, 120, 10, 32, 9, 10]⟩ : ByteArray) ++ s)).2 = _ at a2
    change (readF ((⟨#[35, 32, 120, 10, 32, 9, 10]⟩ : ByteArray) ++ s)).2.2 = _ at a3
    change ((⟨#[35, 32, 120, 10, 32, 9, 10]⟩ : ByteArray) ++ s).size = _ at hz
    rw [hs2] at a1 a2 a3 hz
    rw [hs3] at a4
    have HS2 := Lib.hid hs2; have HS3 := Lib.hid hs3; clear hs2 hs3
    by_cases h0 : (parseE s).1 = 0
    · rw [h0] at a1
      have hE := (parse_zero h0).2
      have HE := Lib.hid hE; have HE2 := Lib.hid (parse_zero a1).2
      have H0 := Lib.hid h0; have HA1 := Lib.hid a1; have HA3 := Lib.hid a3; have HZ := Lib.hid hz
      clear a1 a2 a3 a4 a5 h0 hE hz
      go_enter Tryd.func5, Tryd.ntmps5
      go_wp2_with (go_at_call 6; refine (shown_any _ (HMM.out _ (Below.refl _ _))).mono ?_; rintro e w1 ⟨rfl, hb1⟩; have HB1 := Lib.hid hb1; clear hb1)
      refine (parse_yes s _ (HMM.out _ HB1.out) H0.out).mono ?_
      rintro e w2 ⟨p, rfl, HP, hb2⟩
      have HB2 := Lib.hid (HB1.out.trans (hb2.out.mono HB1.out.size)); clear hb2
      go_wp2_with fail
      rw [HS2.out]
      refine (parse_yes s2 _ (HMM.out _ HB2.out) HA1.out).mono ?_
      rintro e w3 ⟨q, rfl, HQ, hb3⟩
      have HP3 := Lib.hid (HP.out.below hb3.out)
      have HB3 := Lib.hid (HB2.out.trans (hb3.out.mono HB2.out.size)); clear hb3
      go_wp2_with fail
      refine (print_r p s _ HP3.out HE.out (by omega)).mono ?_
      rintro e w4 ⟨rfl, hb4⟩
      have HQ4 := Lib.hid (HQ.out.below hb4.out)
      have HB4 := Lib.hid (HB3.out.trans (hb4.out.mono HB3.out.size)); clear hb4
      go_wp2_with fail
      refine (print_r q s2 _ HQ4.out HE2.out (by rw [HZ.out]; omega)).mono ?_
      rintro e w5 ⟨rfl, hb5⟩
      rw [HA3.out]
      have HB5 := Lib.hid (HB4.out.trans (hb5.out.mono HB4.out.size)); clear hb5
      generalize mkB (printB (readF s).2.2) = ps
      go_wp2
      go_ret
      exact ⟨ret_bool rfl, HB5.out⟩
    · have b1 := a2 h0
      obtain ⟨c, hc⟩ : ∃ c, (parseE s).1 = c := ⟨_, rfl⟩
      obtain ⟨k, hk⟩ : ∃ k, (parseE s).2 = k := ⟨_, rfl⟩
      rw [hc] at a1 h0 a4
      rw [hk] at b1 a5
      have hcb : (c != 0) = true := by simpa using h0
      obtain ⟨k0, k1⟩ := a5
      have k2 : k ≤ 1000000 := by omega
      have HC := Lib.hid hc; have HK := Lib.hid hk; have H0 := Lib.hid h0; have HA1 := Lib.hid a1; have HB := Lib.hid b1; have HA4 := Lib.hid a4
      clear a1 a2 a3 a4 h0 hz hc hk b1 k1
      by_cases h234 : c = 2 ∨ c = 3 ∨ c = 4
      · have hp := HA4.out h234
        have HC3 : Hid ((parseE s3).1 = c) := (congrArg Prod.fst hp).trans HC.out
        have HK3 : Hid ((parseE s3).2 = k) := (congrArg Prod.snd hp).trans HK.out
        clear HA4 hp
        rcases h234 with rfl | rfl | rfl
        all_goals
          clear hcb
          go_enter Tryd.func5, Tryd.ntmps5
          go_wp2_with (go_at_call 6; refine (shown_any _ (HMM.out _ (Below.refl _ _))).mono ?_; rintro e w1 ⟨rfl, hb1⟩; have HB1 := Lib.hid hb1; clear hb1)
          refine (parse_no s _ (HMM.out _ HB1.out) HC.out HK.out H0.out).mono ?_
          rintro e w2 ⟨rfl, hb2⟩
          have HB2 := Lib.hid (HB1.out.trans (hb2.out.mono HB1.out.size)); clear hb2
          go_wp2_with fail
          rw [HS2.out]
          refine (parse_no s2 _ (HMM.out _ HB2.out) HA1.out HB.out H0.out).mono ?_
          rintro e w3 ⟨rfl, hb3⟩
          have HB3 := Lib.hid (HB2.out.trans (hb3.out.mono HB2.out.size)); clear hb3
          go_wp2_with fail
          rw [HS3.out]
          refine (parse_no s3 _ (HMM.out _ HB3.out) HC3.out HK3.out H0.out).mono ?_
          rintro e w4 ⟨rfl, hb4⟩
          have HB4 := Lib.hid (HB3.out.trans (hb4.out.mono HB3.out.size)); clear hb4
          go_wp2
          go_ret
          exact ⟨ret_bool rfl, HB4.out⟩
      · have d2 : (c != 2) = true := by simp; omega
        have d3 : (c != 3) = true := by simp; omega
        have d4 : (c != 4) = true := by simp; omega
        clear HA4 h234
        go_enter Tryd.func5, Tryd.ntmps5
        go_wp2_with (go_at_call 6; refine (shown_any _ (HMM.out _ (Below.refl _ _))).mono ?_; rintro e w1 ⟨rfl, hb1⟩; have HB1 := Lib.hid hb1; clear hb1)
        refine (parse_no s _ (HMM.out _ HB1.out) HC.out HK.out H0.out).mono ?_
        rintro e w2 ⟨rfl, hb2⟩
        have HB2 := Lib.hid (HB1.out.trans (hb2.out.mono HB1.out.size)); clear hb2
        go_wp2_with fail
        rw [HS2.out]
        refine (parse_no s2 _ (HMM.out _ HB2.out) HA1.out HB.out H0.out).mono ?_
        rintro e w3 ⟨rfl, hb3⟩
        have HB3 := Lib.hid (HB2.out.trans (hb3.out.mono HB2.out.size)); clear hb3
        go_wp2
        go_ret
        exact ⟨ret_bool rfl, HB3.out⟩
  · by_cases l1 : (1000 : Int) < (s.size : Int)
    · clear hl
      go_enter Tryd.func5, Tryd.ntmps5
      go_wp2_with (go_at_call 6; refine (shown_any _ (HMM.out _ (Below.refl _ _))).mono ?_; rintro e w1 ⟨rfl, hb1⟩; have HB1 := Lib.hid hb1; clear hb1)
      go_ret
      exact ⟨ret_bool rfl, HB1.out⟩
    · have l2 : (1000 : Int) < (t.size : Int) := by omega
      clear hl
      go_enter Tryd.func5, Tryd.ntmps5
      go_wp2_with (go_at_call 6; refine (shown_any _ (HMM.out _ (Below.refl _ _))).mono ?_; rintro e w1 ⟨rfl, hb1⟩; have HB1 := Lib.hid hb1; clear hb1)
      go_ret
      exact ⟨ret_bool rfl, HB1.out⟩
end Go.Proofs.YtckpffkofeoinaaDoor
