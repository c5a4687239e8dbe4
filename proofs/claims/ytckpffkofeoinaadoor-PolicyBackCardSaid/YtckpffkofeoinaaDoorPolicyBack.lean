/- The walk of PolicyBack. -/
import Derived.Test.YtckpffkofeoinaaDoorSameTexts
namespace Go.Proofs.YtckpffkofeoinaaDoor
open Go.RowKit Go.Maps

set_option maxRecDepth 100000 in
set_option maxHeartbeats 4000000 in
theorem policyBack_walk (s : ByteArray) (w : World) (hM : MaxL w) :
    Calls Tryd.prog 4 #[.string s] w fun e w' => e = .returned (.bool true) ∧ Below w.heap.size w w' := by
  have HMM : Hid (∀ w' : World, Below w.heap.size w w' → MaxL w') := fun w' hb => hM.below hb
  clear hM
  by_cases l1 : (2000 : Int) < (s.size : Int)
  · go_enter Tryd.func4, Tryd.ntmps4
    go_wp2_with (go_at_call 6; refine (shown_any _ (HMM.out _ (Below.refl _ _))).mono ?_; rintro e w1 ⟨rfl, hb1⟩; have HB1 := Lib.hid hb1; clear hb1)
    go_ret
    exact ⟨ret_bool rfl, HB1.out⟩
  · have l2 : s.size ≤ 2000 := by omega
    clear l1
    by_cases h0 : (parseE s).1 = 0
    · have hE := (parse_zero h0).2
      have hG := readF_good s
      have hlen := print_len hG hE
      have hcost := cost_read s
      obtain ⟨kk, hread⟩ := read_print hG hE
      obtain ⟨ps, hps⟩ : ∃ ps, mkB (printB (readF s).2.2) = ps := ⟨_, rfl⟩
      have hz : ps.size = (printB (readF s).2.2).length := by rw [← hps, mkB_size]
      rw [hps] at hread
      have hz2 : ps.size ≤ 20000 := by omega
      have hE2 := (back_newL hE).2
      have hr2 : (readF ps).2.2 = backR (readF s).2.2 := by rw [hread]
      have h02 : (parseE ps).1 = 0 := by
        rw [parseE_short hz2, hread]
        simp only [ne_eq, not_true_eq_false, if_false]
        rw [if_neg (by simpa using hE2)]
      have hp2 : mkB (printB (readF ps).2.2) = ps := by rw [hr2, back_print hG hE, hps]
      have hc2 : chansL (readF ps).2.2 = chansL (readF s).2.2 := by rw [hr2, back_chans]
      have hlv : ∀ c, levelI (readF ps).2.2 c = levelI (readF s).2.2 c := fun c => by rw [hr2, back_level hG]
      have hmay : ∀ a b, mayB (readF ps).2.2 a b = mayB (readF s).2.2 a b := fun a b => by rw [hr2, back_may hG hE]
      have hids : ∀ c ∈ chansL (readF s).2.2, c.size ≤ maxLen := fun c hc => by
        have := ident_len (levelN_lt hG hc).2
        have e : c.data.toList.length = c.size := by simp
        unfold maxLen; omega
      have hnx : (chansL (readF s).2.2).length ≤ 1000000 := by rw [(chansL_perm _).length_eq, List.length_map]; exact of_small (by omega)
      have HE := Lib.hid hE; have HPS := Lib.hid hps; have H0 := Lib.hid h0; have HE2 : Hid (newE (readF ps).2.2.names (readF ps).2.2.below = 0) := by show newE _ _ = 0; rw [hr2]; exact hE2
      have H02 := Lib.hid h02; have HP2 := Lib.hid hp2; have HC2 := Lib.hid hc2; have HLV := Lib.hid hlv; have HMAY := Lib.hid hmay; have HID := Lib.hid hids
      clear hE hG hlen hcost hread hps hz hE2 hr2 h02 hp2 hc2 hlv hmay hids h0
      go_enter Tryd.func4, Tryd.ntmps4
      go_wp2_with (go_at_call 6; refine (shown_any _ (HMM.out _ (Below.refl _ _))).mono ?_; rintro e w1 ⟨rfl, hb1⟩; have HB1 := Lib.hid hb1; clear hb1)
      refine (parse_yes s _ (HMM.out _ HB1.out) H0.out).mono ?_
      rintro e w2 ⟨p, rfl, HP, hb2⟩
      have HB2 := Lib.hid (HB1.out.trans (hb2.out.mono HB1.out.size)); clear hb2
      go_wp2_with fail
      refine (print_r2 p s _ HP.out HE.out (by omega)).mono ?_
      rintro e w3 ⟨rfl, hb3⟩
      rw [HPS.out]
      have HP3 := Lib.hid (HP.out.below hb3.out)
      have HB3 := Lib.hid (HB2.out.trans (hb3.out.mono HB2.out.size)); clear hb3
      go_wp2_with fail
      refine (parse_yes ps _ (HMM.out _ HB3.out) H02.out).mono ?_
      rintro e w4 ⟨q, rfl, HQ, hb4⟩
      have HP4 := Lib.hid (HP3.out.below hb4.out)
      have HB4 := Lib.hid (HB3.out.trans (hb4.out.mono HB3.out.size)); clear hb4
      go_wp2_with fail
      refine (print_r2 q ps _ HQ.out HE2.out (by omega)).mono ?_
      rintro e w5 ⟨rfl, hb5⟩
      rw [HP2.out]
      have HP5 := Lib.hid (HP4.out.below hb5.out); have HQ5 := Lib.hid (HQ.out.below hb5.out)
      have HB5 := Lib.hid (HB4.out.trans (hb5.out.mono HB4.out.size)); clear hb5
      clear HP HP3 HP4 HQ HB1 HB2 HB3 HB4
      go_wp2_with fail
      refine (channels_r p s _ HP5.out (by omega)).mono ?_
      rintro e w6 ⟨a6, c6, rfl, HR6, hb6⟩
      have HP6 := Lib.hid (HP5.out.below hb6.out); have HQ6 := Lib.hid (HQ5.out.below hb6.out)
      have HB6 := Lib.hid (HB5.out.trans (hb6.out.mono HB5.out.size)); clear hb6
      obtain ⟨nX, hnX⟩ : ∃ n, (chansL (readF s).2.2).length = n := ⟨_, rfl⟩
      rw [hnX] at hnx ⊢
      have HNX := Lib.hid hnX; clear hnX
      go_wp2_with fail
      refine (channels_r q ps _ HQ6.out (by omega)).mono ?_
      rintro e w7 ⟨a7, c7, rfl, HR7, hb7⟩
      have HP7 := Lib.hid (HP6.out.below hb7.out); have HQ7 := Lib.hid (HQ6.out.below hb7.out)
      have HB7 := Lib.hid (HB6.out.trans (hb7.out.mono HB6.out.size)); have HR67 := Lib.hid (HR6.out.below hb7.out); clear hb7
      rw [HC2.out] at HR7 ⊢
      rw [HNX.out]
      clear HP5 HP6 HQ5 HQ6 HB5 HB6 HR6
      go_wp2_with fail
      refine (sameTexts_any a6 a7 nX c6 c7 (chansL (readF s).2.2) _ HNX.out HR67.out HR7.out hnx).mono ?_
      rintro e w8 ⟨rfl, m8, rfl⟩
      clear HR7
      have HB8 := Lib.hid (below_drewN HB7.out m8)
      have HP8 := Lib.hid (HP7.out.below (below_drewN (Below.refl _ _) m8)); have HQ8 := Lib.hid (HQ7.out.below (below_drewN (Below.refl _ _) m8)); have HR8 := Lib.hid (HR67.out.drewN m8)
      clear HP7 HQ7 HB7 HR67
      generalize w7.drewN m8 = wz at *
      go_wp2_with fail
      go_loopw [12] (fun i wr => ∃ k : Nat, k ≤ nX ∧ i = .int .i64 k ∧ Hid (∃ m, wr = wz.drewN m)) (fun i _ => nX - (intOf i).toNat)
      case atStart => exact ⟨0, Nat.zero_le _, rfl, 0, rfl⟩
      case round =>
        obtain ⟨k, hk, rfl, HW⟩ := hrel
        by_cases hlt : k < nX
        · go_wp2_with fail
          obtain ⟨wo, hwo⟩ : ∃ wo : World, wo = wr := ⟨_, rfl⟩
          rw [← hwo] at HW ⊢
          clear hwo
          go_loopw [13] (fun i wr => ∃ k2 : Nat, k2 ≤ nX ∧ i = .int .i64 k2 ∧ Hid (∃ m, wr = wz.drewN m)) (fun i _ => nX - (intOf i).toNat)
          case atStart => exact ⟨0, Nat.zero_le _, rfl, HW⟩
          case round =>
            clear HW
            obtain ⟨k2, hk2, rfl, HW⟩ := hrel
            by_cases hlt2 : k2 < nX
            · have hl1 : k < (chansL (readF s).2.2).length := by rw [HNX.out]; exact hlt
              have hl2 : k2 < (chansL (readF s).2.2).length := by rw [HNX.out]; exact hlt2
              have hrr : Rd wr a6 ((chansL (readF s).2.2).map Value.string) := by obtain ⟨m, rfl⟩ := HW.out; exact HR8.out.drewN m
              obtain ⟨g, o, rfl, d1⟩ := hrr.at (j := k) (v := .string (chansL (readF s).2.2)[k]) (by simp [hl1])
              obtain ⟨g2, o2, e1, d2⟩ := hrr.at (j := k2) (v := .string (chansL (readF s).2.2)[k2]) (by simp [hl2])
              obtain ⟨rfl, rfl⟩ : g2 = g ∧ o2 = o := by simpa using e1.symm
              have hi1 := HID.out _ (List.getElem_mem hl1)
              have hi2 := HID.out _ (List.getElem_mem hl2)
              have HPw : Hid (Pol wr p (readF s).2.2) := by obtain ⟨m, rfl⟩ := HW.out; exact HP8.out.below (below_drewN (Below.refl _ _) m)
              have HQw : Hid (Pol wr q (readF ps).2.2) := by obtain ⟨m, rfl⟩ := HW.out; exact HQ8.out.below (below_drewN (Below.refl _ _) m)
              clear hrr e1
              generalize (chansL (readF s).2.2)[k] = ca at *
              generalize (chansL (readF s).2.2)[k2] = cb at *
              clear hl1 hl2
              have hv := HLV.out ca
              have hm := HMAY.out ca cb
              have H1 : Hid (∀ n : Nat, Calls Tryd.prog 10 #[.pointer (some ⟨p, 0, none⟩), .string ca] (wr.drewN n) fun e w' => e = .returned (.int .i64 (levelI (readF s).2.2 ca)) ∧ w' = wr.drewN n) := fun n => level_any p _ ca _ hi1 (HPw.out.below (below_drewN (Below.refl _ _) n))
              have H2 : Hid (∀ n : Nat, Calls Tryd.prog 10 #[.pointer (some ⟨q, 0, none⟩), .string ca] (wr.drewN n) fun e w' => e = .returned (.int .i64 (levelI (readF s).2.2 ca)) ∧ w' = wr.drewN n) := fun n => by
                rw [← hv]; exact level_any q _ ca _ hi1 (HQw.out.below (below_drewN (Below.refl _ _) n))
              have H3 : Hid (∀ n : Nat, Calls Tryd.prog 16 #[.pointer (some ⟨p, 0, none⟩), .string ca, .string cb] (wr.drewN n) fun e w' => e = .returned (.bool (mayB (readF s).2.2 ca cb)) ∧ ∃ m, w' = (wr.drewN n).drewN m) := fun n => may_any p _ ca cb _ hi1 hi2 (HPw.out.below (below_drewN (Below.refl _ _) n))
              have H4 : Hid (∀ n : Nat, Calls Tryd.prog 16 #[.pointer (some ⟨q, 0, none⟩), .string ca, .string cb] (wr.drewN n) fun e w' => e = .returned (.bool (mayB (readF s).2.2 ca cb)) ∧ ∃ m, w' = (wr.drewN n).drewN m) := fun n => by
                rw [← hm]; exact may_any q _ ca cb _ hi1 hi2 (HQw.out.below (below_drewN (Below.refl _ _) n))
              clear hv hm hi1 hi2 HPw HQw
              generalize levelI (readF s).2.2 ca = lv at *
              generalize mayB (readF s).2.2 ca cb = mv at *
              go_wp2_with fail
              go_quiet (first
                | (go_at_call_of 10 (Value.pointer (some ⟨p, 0, none⟩)); exact Calls.quiet_of_same (H1.out _))
                | (go_at_call_of 10 (Value.pointer (some ⟨q, 0, none⟩)); exact Calls.quiet_of_same (H2.out _))
                | (go_at_call_of 16 (Value.pointer (some ⟨p, 0, none⟩)); exact Calls.quiet_of (H3.out _))
                | (go_at_call_of 16 (Value.pointer (some ⟨q, 0, none⟩)); exact Calls.quiet_of (H4.out _)))
              go_wp2
              go_roundw
              case rel => exact ⟨k2 + 1, by omega, by go_num, by obtain ⟨m, rfl⟩ := HW.out; exact ⟨m + nq, by rw [World.drewN_drewN]⟩⟩
              case measure => simp [intOf]; omega
            · obtain rfl : k2 = nX := by omega
              go_wp2_with fail
              go_roundw
              case rel => exact ⟨k + 1, by omega, by go_num, HW⟩
              case measure => simp [intOf]; omega
        · obtain rfl : k = nX := by omega
          go_wp2
          go_ret
          refine ⟨ret_bool rfl, ?_⟩
          obtain ⟨m, rfl⟩ := HW.out
          exact below_drewN HB8.out m
    · obtain ⟨c, hc⟩ : ∃ c, (parseE s).1 = c := ⟨_, rfl⟩
      obtain ⟨k, hk⟩ : ∃ k, (parseE s).2 = k := ⟨_, rfl⟩
      rw [hc] at h0
      have hcb : (c != 0) = true := by simpa using h0
      have HC := Lib.hid hc; have HK := Lib.hid hk; have H0 := Lib.hid h0
      clear hc hk h0
      go_enter Tryd.func4, Tryd.ntmps4
      go_wp2_with (go_at_call 6; refine (shown_any _ (HMM.out _ (Below.refl _ _))).mono ?_; rintro e w1 ⟨rfl, hb1⟩; have HB1 := Lib.hid hb1; clear hb1)
      refine (parse_no s _ (HMM.out _ HB1.out) HC.out HK.out H0.out).mono ?_
      rintro e w2 ⟨rfl, hb2⟩
      have HB2 := Lib.hid (HB1.out.trans (hb2.out.mono HB1.out.size)); clear hb2
      go_wp2
      go_ret
      exact ⟨ret_bool rfl, HB2.out⟩
end Go.Proofs.YtckpffkofeoinaaDoor
