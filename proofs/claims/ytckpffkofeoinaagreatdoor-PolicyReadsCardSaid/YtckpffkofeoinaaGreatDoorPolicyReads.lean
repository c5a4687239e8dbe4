/- The walk of PolicyReads. -/
import Derived.Test.YtckpffkofeoinaaGreatDoorPols
import Derived.Test.YtckpffkofeoinaaGreatDoorZPrint
import Derived.Test.YtckpffkofeoinaaGreatDoorZParse2
namespace Go.Proofs.YtckpffkofeoinaaGreatDoor
open Go.RowKit Go.Maps Go.Proofs.YtckpffkofeoinaaGreatDoor.Lr

theorem rparse_yes (s : ByteArray) (w : World) (h : (parseE s).1 = 0) :
    Calls Tryz.prog 6 #[.string s] w fun e w' => ∃ p, e = .returned (.tuple #[.pointer (some ⟨p, 0, none⟩), .int .i64 0, .int .i64 0]) ∧ Hid (DPol w' p (readF s).2.2) ∧ Hid (Below w.heap.size w w') := by
  refine (rparse_any s w).mono ?_
  rintro e w' ⟨hb, ⟨_, p, he, hp⟩ | ⟨h1, _⟩⟩
  · exact ⟨p, he, hp, hb⟩
  · exact absurd h h1
theorem rparse_no (s : ByteArray) (w : World) {c k : Int} (h1 : (parseE s).1 = c) (h2 : (parseE s).2 = k) (hc : c ≠ 0) :
    Calls Tryz.prog 6 #[.string s] w fun e w' => e = .returned (.tuple #[.pointer none, .int .i64 k, .int .i64 c]) ∧ Hid (Below w.heap.size w w') := by
  refine (rparse_any s w).mono ?_
  rintro e w' ⟨hb, ⟨h3, _⟩ | ⟨_, he⟩⟩
  · rw [h3] at h1; exact absurd h1.symm hc
  · exact ⟨by rw [he, h1, h2], hb⟩

set_option maxRecDepth 100000 in
set_option maxHeartbeats 4000000 in
theorem policyReads_walk (s a b : ByteArray) (w : World) (hM : MaxL w) :
    Calls Tryz.prog 3 #[.string s, .string a, .string b] w fun e w' => e = .returned (.bool true) ∧ Below w.heap.size w w' := by
  have HMM : Hid (∀ w' : World, Below w.heap.size w w' → MaxL w') := fun w' hb => hM.below hb
  clear hM
  by_cases l1 : (2000 : Int) < (s.size : Int)
  · go_enter Tryz.func3, Tryz.ntmps3
    go_wp2_with (go_at_call 4; refine (shown_any _ (HMM.out _ (Below.refl _ _))).mono ?_; rintro e w1 ⟨rfl, hb1⟩; have HB1 := Lib.hid hb1; clear hb1)
    go_ret
    exact ⟨ret_bool rfl, HB1.out⟩
  by_cases l2 : (100 : Int) < (a.size : Int)
  · go_enter Tryz.func3, Tryz.ntmps3
    go_wp2_with (go_at_call 4; refine (shown_any _ (HMM.out _ (Below.refl _ _))).mono ?_; rintro e w1 ⟨rfl, hb1⟩; have HB1 := Lib.hid hb1; clear hb1)
    go_ret
    exact ⟨ret_bool rfl, HB1.out⟩
  by_cases l3 : (100 : Int) < (b.size : Int)
  · go_enter Tryz.func3, Tryz.ntmps3
    go_wp2_with (go_at_call 4; refine (shown_any _ (HMM.out _ (Below.refl _ _))).mono ?_; rintro e w1 ⟨rfl, hb1⟩; have HB1 := Lib.hid hb1; clear hb1)
    go_ret
    exact ⟨ret_bool rfl, HB1.out⟩
  have hs20 : s.size ≤ 2000 := by omega
  have ha1 : a.size ≤ 100 := by omega
  have hb1 : b.size ≤ 100 := by omega
  by_cases h0 : (parseE s).1 = 0
  · have H0 := Lib.hid h0; clear h0
    go_enter Tryz.func3, Tryz.ntmps3
    go_wp2_with (first
      | (go_at_call 4; refine (shown_any _ (HMM.out _ (Below.refl _ _))).mono ?_; rintro e w1 ⟨rfl, hbx⟩; have HB1 := Lib.hid hbx; clear hbx)
      | (go_at_call 5; refine (parse_yes s _ (HMM.out _ HB1.out) H0.out).mono ?_; rintro e w2 ⟨p, rfl, HP, hb2⟩; have HB2 := Lib.hid (HB1.out.trans (hb2.out.mono HB1.out.size)); clear hb2)
      | (go_at_call 6; refine (rparse_yes s _ H0.out).mono ?_; rintro e w3 ⟨q, rfl, HQ, hb3⟩; have HP3 := Lib.hid (HP.out.below hb3.out); have HB3 := Lib.hid (HB2.out.trans (hb3.out.mono HB2.out.size)); clear hb3 HP HB2 HB1)
      | (go_at_call 7; fail))
    have hE := (parse_zero H0.out).2
    have hG := readF_good s
    have hlen := print_len hG hE
    have hcost := cost_read s
    have hnx : (chansL (readF s).2.2).length ≤ 1000000 := by rw [(chansL_perm _).length_eq, List.length_map]; exact of_small (by omega)
    have hnm : ∀ x ∈ (readF s).2.2.names, x.size ≤ 1000000 := fun x hx => by have := ok_len (hG.ok x hx); omega
    have hch : ∀ x ∈ chansL (readF s).2.2, x.size ≤ 1000000 := fun x hx => by
      have := ident_len (levelN_lt hG hx).2
      have e : x.data.toList.length = x.size := by simp
      omega
    have hlv : ∀ x ∈ chansL (readF s).2.2, levelN (readF s).2.2 x < (readF s).2.2.names.length := fun x hx => (levelN_lt hG hx).1
    have hpl : (printB (readF s).2.2).length ≤ 1000000 := by omega
    have ham : a.size ≤ maxLen := by unfold maxLen; omega
    have hbm : b.size ≤ maxLen := by unfold maxLen; omega
    have HPW : Hid (∀ W : World, Below w3.heap.size w3 W → Pol W p (readF s).2.2) := fun W hW => HP3.out.below hW
    have HQW : Hid (∀ W : World, Below w3.heap.size w3 W → DPol W q (readF s).2.2) := fun W hW => HQ.out.below hW
    have HCC : Hid (∀ W w' : World, Below w3.heap.size w3 W → Below W.heap.size W w' → Below w3.heap.size w3 w') := fun W w' h1 h2 => h1.trans (h2.mono h1.size)
    have HL1 : Hid (∀ W : World, Below w3.heap.size w3 W → Calls Tryz.prog 7 #[.pointer (some ⟨p, 0, none⟩), .string a] W fun e w' => e = .returned (.int .i64 (levelI (readF s).2.2 a)) ∧ W = w') := fun W hW =>
      (level_any p _ a W ham (HPW.out W hW)).mono fun _ _ h => ⟨h.1, h.2.symm⟩
    have HL2 : Hid (∀ W : World, Below w3.heap.size w3 W → Calls Tryz.prog 8 #[.pointer (some ⟨q, 0, none⟩), .string a] W fun e w' => e = .returned (.int .i64 (levelI (readF s).2.2 a)) ∧ W = w') := fun W hW =>
      (dlevel_any q _ a W (HQW.out W hW) hnx).mono fun _ _ h => ⟨h.1, h.2.symm⟩
    have HM1 : Hid (∀ W : World, Below w3.heap.size w3 W → Calls Tryz.prog 9 #[.pointer (some ⟨p, 0, none⟩), .string a, .string b] W fun e w' => e = .returned (.bool (mayB (readF s).2.2 a b)) ∧ Hid (Below w3.heap.size w3 w')) := fun W hW =>
      (may_any p _ a b W ham hbm (HPW.out W hW)).mono fun _ _ h => ⟨h.1, by obtain ⟨_, n, rfl⟩ := h; exact HCC.out _ _ hW (below_drewN (Below.refl _ _) n)⟩
    have HM2 : Hid (∀ W : World, Below w3.heap.size w3 W → Calls Tryz.prog 10 #[.pointer (some ⟨q, 0, none⟩), .string a, .string b] W fun e w' => e = .returned (.bool (mayB (readF s).2.2 a b)) ∧ Hid (Below w3.heap.size w3 w')) := fun W hW =>
      (dmay_any q _ a b W (HQW.out W hW) hnx).mono fun _ _ h => ⟨h.1, HCC.out _ _ hW h.2.out⟩
    have HR1 : Hid (∀ W : World, Below w3.heap.size w3 W → Calls Tryz.prog 13 #[.pointer (some ⟨p, 0, none⟩)] W fun e w' => e = .returned (.string (mkB (printB (readF s).2.2))) ∧ Hid (Below w3.heap.size w3 w')) := fun W hW =>
      (print_r2 p s W (HPW.out W hW) hE (by omega)).mono fun _ _ h => ⟨h.1, HCC.out _ _ hW h.2.out⟩
    have HR2 : Hid (∀ W : World, Below w3.heap.size w3 W → Calls Tryz.prog 14 #[.pointer (some ⟨q, 0, none⟩)] W fun e w' => e = .returned (.string (mkB (printB (readF s).2.2))) ∧ Hid (Below w3.heap.size w3 w')) := fun W hW =>
      (dprint_any q _ W (HQW.out W hW) hE hnx hpl hnm hch hlv).mono fun _ _ h => ⟨h.1, HCC.out _ _ hW h.2.out⟩
    obtain ⟨nX, hnX⟩ : ∃ n, (chansL (readF s).2.2).length = n := ⟨_, rfl⟩
    obtain ⟨nN, hnN⟩ : ∃ n, (readF s).2.2.names.length = n := ⟨_, rfl⟩
    have HCH : Hid (∀ W : World, Below w3.heap.size w3 W → Calls Tryz.prog 12 #[.pointer (some ⟨p, 0, none⟩)] W fun e w' => ∃ a' c', e = .returned (.slice a' nX c') ∧ Hid (Rd w' a' ((chansL (readF s).2.2).map Value.string)) ∧ Hid (Below w3.heap.size w3 w')) := fun W hW =>
      (channels_r p s W (HPW.out W hW) (by omega)).mono fun _ _ h => by
        obtain ⟨a', c', h1, h2, h3⟩ := h
        exact ⟨a', c', by rw [h1, hnX], h2, HCC.out _ _ hW h3.out⟩
    obtain ⟨l, b2, hp1, hp2, _, _⟩ := HP3.out
    have HLT : Hid (∀ W : World, Below w3.heap.size w3 W → Calls Tryz.prog 15 #[.pointer (some ⟨p, 0, none⟩)] W fun e w' => e = .returned (.pointer (some ⟨l, 0, none⟩)) ∧ W = w') := fun W hW =>
      (lattice_any p l W b2 (by rw [hW.block p (lt_of_block hp1)]; exact hp1)).mono fun _ _ h => ⟨h.1, h.2.symm⟩
    have HNM : Hid (∀ W : World, Below w3.heap.size w3 W → Calls Tryz.prog 16 #[.pointer (some ⟨l, 0, none⟩)] W fun e w' => ∃ a' c', e = .returned (.slice a' nN c') ∧ Hid (Rd w' a' ((readF s).2.2.names.map Value.string)) ∧ Hid (Below w3.heap.size w3 w')) := fun W hW =>
      (names_any l _ W (hp2.below hW)).mono fun _ _ h => by
        obtain ⟨v, h1, h2, h3⟩ := h
        obtain ⟨a', c', rfl, _, _, hr⟩ := owns_form h2.out
        exact ⟨a', c', by rw [h1]; exact congrArg (fun n => Ending.returned (.slice a' n c')) hnN, hr, HCC.out _ _ hW h3⟩
    obtain ⟨ql, g, rr, A, cn, cap, U, vc, vp, h1, h2, h3, h4, h5⟩ := HQ.out
    obtain ⟨ac, cc, rfl, hc1, hc2, hc3⟩ := owns_form h4
    have HQC : Hid (∀ W : World, Below w3.heap.size w3 W → W.cell? ⟨q, 0, none⟩ = some (.pointer (some ⟨ql, 0, none⟩)) ∧ W.cell? ⟨q, 1, none⟩ = some (.slice ac nX cc) ∧ W.cell? ⟨ql, 0, none⟩ = some (.slice A nN cn)) := fun W hW => by
      have e1 := hW.block q (lt_of_block h1)
      have e2 := hW.block ql (lt_of_block h2.1.st)
      refine ⟨?_, ?_, ?_⟩
      · simp [World.cell?, e1, h1]
      · simp [World.cell?, e1, h1, hnX]
      · simp [World.cell?, e2, h2.1.st, hnN]
    have HS1 : Hid (∀ (W : World) (a' : Option Addr) (c' : Nat), Below w3.heap.size w3 W → Rd W a' ((chansL (readF s).2.2).map Value.string) → Calls Tryz.prog 11 #[.slice a' nX c', .slice ac nX cc] W fun e w' => e = .returned (.bool true) ∧ Hid (Below w3.heap.size w3 w')) := fun W a' c' hW hr =>
      (sameTexts_any a' ac nX c' cc (chansL (readF s).2.2) W hnX hr (hc3.below hW) (by omega)).mono fun _ _ h => ⟨h.1, by obtain ⟨_, n, rfl⟩ := h; exact HCC.out _ _ hW (below_drewN (Below.refl _ _) n)⟩
    have hn16 := h2.2.2
    have HS2 : Hid (∀ (W : World) (a' : Option Addr) (c' : Nat), Below w3.heap.size w3 W → Rd W a' ((readF s).2.2.names.map Value.string) → Calls Tryz.prog 11 #[.slice a' nN c', .slice A nN cn] W fun e w' => e = .returned (.bool true) ∧ Hid (Below w3.heap.size w3 w')) := fun W a' c' hW hr =>
      (sameTexts_any a' A nN c' cn (readF s).2.2.names W hnN hr (h2.2.1.below hW) (by omega)).mono fun _ _ h => ⟨h.1, by obtain ⟨_, n, rfl⟩ := h; exact HCC.out _ _ hW (below_drewN (Below.refl _ _) n)⟩
    have HW : Hid (Below w3.heap.size w3 w3.drew) := below_drewN (Below.refl _ w3) 1
    have HEND : Hid (∀ W : World, Below w3.heap.size w3 W → Below w.heap.size w W) := fun W hW => HB3.out.trans (hW.mono HB3.out.size)
    clear hE hG hlen hcost hnx hnm hch hlv hpl ham hbm HPW HQW HCC hp1 hp2 h1 h2 h3 h4 h5 hc1 hc2 hc3 hn16 hnX hnN HP3 HQ HB3 H0 hs20 ha1 hb1 HMM l1 l2 l3
    generalize levelI (readF s).2.2 a = lv at *
    generalize mayB (readF s).2.2 a b = mv at *
    generalize mkB (printB (readF s).2.2) = ps at *
    generalize (chansL (readF s).2.2).map Value.string = LX at *
    generalize (readF s).2.2.names.map Value.string = LN at *
    go_region_held3 (fun W => W.cell? ⟨q, 0, none⟩ = some (.pointer (some ⟨ql, 0, none⟩)) ∧ W.cell? ⟨q, 1, none⟩ = some (.slice ac nX cc) ∧ W.cell? ⟨ql, 0, none⟩ = some (.slice A nN cn)) (exact HQC.out _ HW.out)
      (first
        | (go_at_call 7; refine (HL1.out _ HW.out).mono ?_; rintro e w' ⟨rfl, rfl⟩)
        | (go_at_call 8; refine (HL2.out _ HW.out).mono ?_; rintro e w' ⟨rfl, rfl⟩)
        | (go_at_call 9; refine (HM1.out _ HW.out).mono ?_; rintro e w' ⟨rfl, hb⟩; clear HW; have HW := hb; clear hb)
        | (go_at_call 10; refine (HM2.out _ HW.out).mono ?_; rintro e w' ⟨rfl, hb⟩; clear HW; have HW := hb; clear hb)
        | (go_at_call 12; refine (HCH.out _ HW.out).mono ?_; rintro e w' ⟨a', c', rfl, HX, hb⟩; clear HW; have HW := hb; clear hb)
        | (go_at_call 13; refine (HR1.out _ HW.out).mono ?_; rintro e w' ⟨rfl, hb⟩; clear HW; have HW := hb; clear hb)
        | (go_at_call 14; refine (HR2.out _ HW.out).mono ?_; rintro e w' ⟨rfl, hb⟩; clear HW; have HW := hb; clear hb)
        | (go_at_call 15; refine (HLT.out _ HW.out).mono ?_; rintro e w' ⟨rfl, rfl⟩)
        | (go_at_call 16; refine (HNM.out _ HW.out).mono ?_; rintro e w' ⟨a', c', rfl, HY, hb⟩; clear HW; have HW := hb; clear hb)
        | (go_at_call 11; refine (HS1.out _ _ _ HW.out HX.out).mono ?_; rintro e w' ⟨rfl, hb⟩; clear HW HX; have HW := hb; clear hb)
        | (go_at_call 11; refine (HS2.out _ _ _ HW.out HY.out).mono ?_; rintro e w' ⟨rfl, hb⟩; clear HW HY; have HW := hb; clear hb))
    all_goals
      go_wp2
      go_ret
      exact ⟨ret_bool rfl, HEND.out _ HW.out⟩
  · obtain ⟨c, hc⟩ : ∃ c, (parseE s).1 = c := ⟨_, rfl⟩
    obtain ⟨k, hk⟩ : ∃ k, (parseE s).2 = k := ⟨_, rfl⟩
    rw [hc] at h0
    have hcb : (c != 0) = true := by simpa using h0
    have HC := Lib.hid hc; have HK := Lib.hid hk; have H0 := Lib.hid h0
    clear hc hk h0
    go_enter Tryz.func3, Tryz.ntmps3
    go_wp2_with (first
      | (go_at_call 4; refine (shown_any _ (HMM.out _ (Below.refl _ _))).mono ?_; rintro e w1 ⟨rfl, hbx⟩; have HB1 := Lib.hid hbx; clear hbx)
      | (go_at_call 5; refine (parse_no s _ (HMM.out _ HB1.out) HC.out HK.out H0.out).mono ?_; rintro e w2 ⟨rfl, hb2⟩; have HB2 := Lib.hid (HB1.out.trans (hb2.out.mono HB1.out.size)); clear hb2)
      | (go_at_call 6; refine (rparse_no s _ HC.out HK.out H0.out).mono ?_; rintro e w3 ⟨rfl, hb3⟩; have HB3 := Lib.hid (HB2.out.trans (hb3.out.mono HB2.out.size)); clear hb3 HB2 HB1))
    go_ret
    exact ⟨ret_bool rfl, HB3.out⟩
end Go.Proofs.YtckpffkofeoinaaGreatDoor
