/- The walk of PolicyChannels. -/
import Derived.Test.YtckpffkofeoinaaDoorPChan
import Derived.IntWalk
namespace Go.Proofs.YtckpffkofeoinaaDoor
open Go.RowKit Go.Maps

set_option maxRecDepth 100000 in
theorem ident_all (s : ByteArray) (w : World) (hm : MaxL w) :
    Calls Tryd.prog 7 #[.string s] w fun e w' => e = .returned (.bool (identOk s.data.toList)) ∧ Hid (Below w.heap.size w w') := by
  by_cases h20 : 20 < s.size
  · have hsz : s.data.toList.length = s.size := by simp
    have hpos : 0 < s.size := by omega
    have hne : s.data.toList ≠ [] := fun e => by rw [e] at hsz; simp at hsz; omega
    have e2 : (!s.toList.isEmpty) = true := by rw [ByteArray.toList_eq]; simpa using hne
    clear hne
    have hfin : identOk s.data.toList = false := by rw [identOk, decide_eq_false (p := s.data.toList.length ≤ 20) (by omega)]; simp
    have HF := Lib.hid hfin; clear hfin
    go_enter Tryd.func7, Tryd.ntmps7
    go_wp2
    go_ret
    exact ⟨ret_bool HF.out.symm, Below.refl _ _⟩
  · exact ident_any s w (by omega) hm

/-- What Level answers in whatever has been drawn. -/
theorem level_q {p : Nat} {r : RS} {c : ByteArray} {w : World} (h : Pol w p r) (hc : c.size ≤ maxLen) (v : Int) (hv : levelI r c = v) :
    Hid (∀ n : Nat, Calls Tryd.prog 10 #[.pointer (some ⟨p, 0, none⟩), .string c] (w.drewN n) fun e w' => e = .returned (.int .i64 v) ∧ w' = w.drewN n) := fun n => by
  rw [← hv]; exact level_any p r c _ hc (h.below (below_drewN (Below.refl _ _) n))

theorem lat_q {p l b : Nat} {r : RS} {w : World} (h1 : w.heap[p]? = some (.cells #[.pointer (some ⟨l, 0, none⟩), .map (some b)] 50 (0, 0))) (h2 : Lat w l (newL r.names r.below)) :
    Hid (∀ n : Nat, Calls Tryd.prog 11 #[.pointer (some ⟨p, 0, none⟩)] (w.drewN n) fun e w' => e = .returned (.pointer (some ⟨l, 0, none⟩)) ∧ w' = w.drewN n) ∧
    Hid (∀ n : Nat, Calls Tryd.prog 12 #[.pointer (some ⟨l, 0, none⟩)] (w.drewN n) fun e w' => e = .returned (.int .i64 r.names.length) ∧ w' = w.drewN n) :=
  ⟨fun _ => lattice_any p l _ b h1, fun n => (len_any l _ _ (h2.drewN n)).mono fun _ _ h => ⟨h.1, h.2.symm⟩⟩

theorem which_abs (z : Int) {n : Nat} (hn : 0 < n) : ∃ i : Nat, z % (n : Int) = (i : Int) ∧ i < n := by
  have h1 := Int.emod_nonneg z (b := (n : Int)) (by omega)
  have h2 := Int.emod_lt_of_pos z (b := (n : Int)) (by omega)
  exact ⟨(z % (n : Int)).toNat, by omega, by omega⟩

set_option maxRecDepth 100000 in
set_option maxHeartbeats 4000000 in
theorem policyChannels_walk (s name : ByteArray) (which : Int) (w : World) (hM : MaxL w) (hw : -9223372036854775808 ≤ which ∧ which ≤ 9223372036854775807) :
    Calls Tryd.prog 3 #[.string s, .string name, .int .i64 which] w fun e w' => e = .returned (.bool true) ∧ Below w.heap.size w w' := by
  have HMM : Hid (∀ w' : World, Below w.heap.size w w' → MaxL w') := fun w' hb => hM.below hb
  clear hM
  by_cases l1 : (1500 : Int) < (s.size : Int)
  · clear hw
    go_enter Tryd.func3, Tryd.ntmps3
    go_wp2_with (go_at_call 6; refine (shown_any _ (HMM.out _ (Below.refl _ _))).mono ?_; rintro e w1 ⟨rfl, hb1⟩; have HB1 := Lib.hid hb1; clear hb1)
    go_ret
    exact ⟨ret_bool rfl, HB1.out⟩
  have l2 : s.size ≤ 1500 := by omega
  cases hid : identOk name.data.toList with
  | false =>
    have HID := Lib.hid hid
    clear hw hid l1
    go_enter Tryd.func3, Tryd.ntmps3
    go_wp2_with (go_at_call 6; refine (shown_any _ (HMM.out _ (Below.refl _ _))).mono ?_; rintro e w1 ⟨rfl, hb1⟩; have HB1 := Lib.hid hb1; clear hb1)
    refine (ident_all name _ (HMM.out _ HB1.out)).mono ?_
    rintro e w2 ⟨rfl, hb2⟩
    rw [HID.out]
    have HB2 := Lib.hid (HB1.out.trans (hb2.out.mono HB1.out.size)); clear hb2
    go_wp2
    go_ret
    exact ⟨ret_bool rfl, HB2.out⟩
  | true =>
  have HID := Lib.hid hid
  by_cases h0 : (parseE s).1 = 0
  · have hE := (parse_zero h0).2
    have hG := readF_good s
    have hpos := (checkE_zero (newE_zero hE).1).1
    have hle := (checkE_zero (newE_zero hE).1).2
    have hnx : (chansL (readF s).2.2).length ≤ 1000000 := by rw [(chansL_perm _).length_eq, List.length_map]; exact of_small (by omega)
    have hns : name.size ≤ maxLen := by
      have := ident_len hid
      have e : name.data.toList.length = name.size := by simp
      unfold maxLen; omega
    have hids : ∀ c ∈ chansL (readF s).2.2, c.size ≤ maxLen := fun c hc => by
      have := ident_len (levelN_lt hG hc).2
      have e : c.data.toList.length = c.size := by simp
      unfold maxLen; omega
    obtain ⟨z, hz0, hz1⟩ : ∃ z : Int, z = (if which < 0 then -(which + 1) else which) ∧ 0 ≤ z := ⟨_, rfl, by split <;> omega⟩
    obtain ⟨i, hi, hin⟩ := which_abs z (n := (readF s).2.2.names.length) hpos
    have hmore := more_law h0 l2 hid hin
    obtain ⟨nX, hnX⟩ : ∃ n, (chansL (readF s).2.2).length = n := ⟨_, rfl⟩
    obtain ⟨t, ht⟩ : ∃ t, moreT s name (nameAt (readF s).2.2 i) = t := ⟨_, rfl⟩
    have hts : t.size ≤ 30000 := by
      have h1 := moreT_size s name (nameAt (readF s).2.2 i)
      have h2 := ok_len (nameAt_ok hG hin).1
      have h3 := ident_len hid
      have e : name.data.toList.length = name.size := by simp
      rw [ht] at h1; omega
    rw [ht] at hmore
    rw [hnX] at hnx
    have H0 := Lib.hid h0; have HE := Lib.hid hE; have HG := Lib.hid hG; have HIDS := Lib.hid hids; have HMORE := Lib.hid hmore; have HNX := Lib.hid hnX; have HT := Lib.hid ht; have HI := Lib.hid hi; have HZ := Lib.hid hz0; have HZ1 := Lib.hid hz1; have HW := Lib.hid hw
    have HOFL := Lib.hid (of_small (s := s) (by omega))
    have HOFT := Lib.hid (of_small hts)
    clear h0 hE hG hids hmore hnX ht hi hz0 hz1 hw l1 hid hts
    go_enter Tryd.func3, Tryd.ntmps3
    go_wp2_with (go_at_call 6; refine (shown_any _ (HMM.out _ (Below.refl _ _))).mono ?_; rintro e w1 ⟨rfl, hb1⟩; have HB1 := Lib.hid hb1; clear hb1)
    refine (ident_all name _ (HMM.out _ HB1.out)).mono ?_
    rintro e w2 ⟨rfl, hb2⟩
    rw [HID.out]
    have HB2 := Lib.hid (HB1.out.trans (hb2.out.mono HB1.out.size)); clear hb2
    go_wp2_with fail
    refine (parse_yes s _ (HMM.out _ HB2.out) H0.out).mono ?_
    rintro e w3 ⟨p, rfl, HP, hb3⟩
    have HB3 := Lib.hid (HB2.out.trans (hb3.out.mono HB2.out.size)); clear hb3
    go_wp2_with fail
    refine (channels_r p s _ HP.out (by omega)).mono ?_
    rintro e w4 ⟨a4, c4, rfl, HR4, hb4⟩
    rw [HNX.out]
    have HP4 := Lib.hid (HP.out.below hb4.out)
    have HB4 := Lib.hid (HB3.out.trans (hb4.out.mono HB3.out.size)); clear hb4
    have hpol := HP4.out
    obtain ⟨lp, bp, hh, hlat, _, _⟩ := hpol
    have HH := Lib.hid hh; have HL := Lib.hid hlat
    clear HP HB1 HB2 HB3 hh hlat
    go_wp2_with fail
    go_loopw [12] (fun i wr => ∃ k : Nat, k ≤ nX ∧ i = .int .i64 k ∧ Hid (∃ m, wr = w4.drewN m)) (fun i _ => nX - (intOf i).toNat)
    case atStart => exact ⟨0, Nat.zero_le _, rfl, 0, rfl⟩
    case round =>
      obtain ⟨k, hk, rfl, HWR⟩ := hrel
      by_cases hlt : k < nX
      · have hl1 : k < (chansL (readF s).2.2).length := by rw [HNX.out]; exact hlt
        have hrr : Rd wr a4 ((chansL (readF s).2.2).map Value.string) := by obtain ⟨m, rfl⟩ := HWR.out; exact HR4.out.drewN m
        obtain ⟨g, o, rfl, d1⟩ := hrr.at (j := k) (v := .string (chansL (readF s).2.2)[k]) (by simp [hl1])
        obtain ⟨lv1, lv2⟩ := level_some HG.out (List.getElem_mem hl1)
        have hi1 := HIDS.out _ (List.getElem_mem hl1)
        have HPw : Hid (Pol wr p (readF s).2.2) := by obtain ⟨m, rfl⟩ := HWR.out; exact HP4.out.below (below_drewN (Below.refl _ _) m)
        have HLL : Hid (∀ n : Nat, Calls Tryd.prog 11 #[.pointer (some ⟨p, 0, none⟩)] (wr.drewN n) fun e w' => e = .returned (.pointer (some ⟨lp, 0, none⟩)) ∧ w' = wr.drewN n) ∧
            Hid (∀ n : Nat, Calls Tryd.prog 12 #[.pointer (some ⟨lp, 0, none⟩)] (wr.drewN n) fun e w' => e = .returned (.int .i64 (readF s).2.2.names.length) ∧ w' = wr.drewN n) := by
          obtain ⟨m, rfl⟩ := HWR.out
          exact lat_q (w := w4.drewN m) HH.out (HL.out.drewN m)
        obtain ⟨HLA, HLE⟩ := HLL
        have HV := level_q HPw.out hi1 _ lv1
        have hge : ((levelN (readF s).2.2 (chansL (readF s).2.2)[k] : Int) < 0) = False := by simp
        have hlt3 : ((levelN (readF s).2.2 (chansL (readF s).2.2)[k] : Int) ≥ ((readF s).2.2.names.length : Int)) = False := by simp; omega
        have hd0 : decide ((levelN (readF s).2.2 (chansL (readF s).2.2)[k] : Int) < 0) = false := decide_eq_false (by omega)
        have hd1 : decide ((readF s).2.2.names.length ≤ levelN (readF s).2.2 (chansL (readF s).2.2)[k]) = false := decide_eq_false (by omega)
        by_cases hk0 : k = 0
        · subst hk0
          rw [Nat.add_zero] at d1
          clear hrr hi1 HPw lv1 hge hlt3
          generalize (chansL (readF s).2.2)[0] = ca at *
          clear hl1
          generalize levelN (readF s).2.2 ca = lv at *
          generalize (readF s).2.2.names.length = nn at *
          go_wp2_with fail
          go_quiet (first
            | (go_at_call 10; exact Calls.quiet_of_same (HV.out _))
            | (go_at_call 11; exact Calls.quiet_of_same (HLA.out _))
            | (go_at_call 12; exact Calls.quiet_of_same (HLE.out _)))
          go_wp2
          go_roundw
          case rel => exact ⟨1, by omega, by go_num, by obtain ⟨m, rfl⟩ := HWR.out; exact ⟨m + nq, by rw [World.drewN_drewN]⟩⟩
          case measure => simp [intOf]; omega
        · obtain ⟨j, rfl⟩ : ∃ j, k = j + 1 := ⟨k - 1, by omega⟩
          obtain ⟨r1, r2⟩ := chans_rise HG.out hl1
          obtain ⟨g2, o2, e1, d2⟩ := hrr.at (j := j) (v := .string ((chansL (readF s).2.2)[j]'(by omega))) (by rw [List.getElem?_map, List.getElem?_eq_getElem (by omega)]; rfl)
          obtain ⟨rfl, rfl⟩ : g2 = g ∧ o2 = o := by simpa using e1.symm
          have hsub : IntKind.i64.wrap (((j + 1 : Nat) : Int) - 1) = (j : Int) := by rw [IntWalk.i64_in _ (by omega)]; omega
          have hkp : decide (0 < j + 1) = true := by simp
          have hkp2 : 0 < j + 1 := by omega
          clear hrr hi1 HPw lv1 hge hlt3 e1 hk0
          generalize (chansL (readF s).2.2)[j + 1] = ca at *
          generalize (chansL (readF s).2.2)[j]'(by omega) = cb at *
          clear hl1
          generalize levelN (readF s).2.2 ca = lv at *
          generalize (readF s).2.2.names.length = nn at *
          have hj1 : (j : Int) < (nX : Int) := by omega
          generalize hjk : j + 1 = k at *
          have HJK := Lib.hid hjk; clear hjk
          go_wp2_with fail
          go_quiet (first
            | (go_at_call 10; exact Calls.quiet_of_same (HV.out _))
            | (go_at_call 11; exact Calls.quiet_of_same (HLA.out _))
            | (go_at_call 12; exact Calls.quiet_of_same (HLE.out _)))
          clear hsub
          go_wp2
          go_roundw
          case rel => exact ⟨k + 1, by omega, by go_num, by obtain ⟨m, rfl⟩ := HWR.out; exact ⟨m + nq, by rw [World.drewN_drewN]⟩⟩
          case measure => simp [intOf]; omega
      · obtain rfl : k = nX := by omega
        have HPw : Hid (Pol wr p (readF s).2.2) := by obtain ⟨m, rfl⟩ := HWR.out; exact HP4.out.below (below_drewN (Below.refl _ _) m)
        have HLL : Hid (∀ n : Nat, Calls Tryd.prog 11 #[.pointer (some ⟨p, 0, none⟩)] (wr.drewN n) fun e w' => e = .returned (.pointer (some ⟨lp, 0, none⟩)) ∧ w' = wr.drewN n) ∧
            Hid (∀ n : Nat, Calls Tryd.prog 12 #[.pointer (some ⟨lp, 0, none⟩)] (wr.drewN n) fun e w' => e = .returned (.int .i64 (readF s).2.2.names.length) ∧ w' = wr.drewN n) := by
          obtain ⟨m, rfl⟩ := HWR.out
          exact lat_q (w := w4.drewN m) HH.out (HL.out.drewN m)
        obtain ⟨HLA, HLE⟩ := HLL
        have HLw : Hid (Lat wr lp (newL (readF s).2.2.names (readF s).2.2.below)) := by obtain ⟨m, rfl⟩ := HWR.out; exact HL.out.drewN m
        have HRw : Hid (Rd wr a4 ((chansL (readF s).2.2).map Value.string)) := by obtain ⟨m, rfl⟩ := HWR.out; exact HR4.out.drewN m
        have HBw : Hid (Below w.heap.size w wr) := by obtain ⟨m, rfl⟩ := HWR.out; exact below_drewN HB4.out m
        have HW4 : Hid (∀ n : Nat, wr.drewN n = wr.drewN n) := fun _ => rfl
        clear HWR HP4 HH HL HR4 HB4 HW4
        obtain ⟨nn, hnn⟩ : ∃ nn, (readF s).2.2.names.length = nn := ⟨_, rfl⟩
        rw [hnn] at HLE hpos hle hin HI
        have HNN := Lib.hid hnn; clear hnn
        have hn0 : ((nn : Int) == 0) = false := by simp; omega
        have hr1 : z.tmod (nn : Int) = (i : Int) := by rw [Int.tmod_eq_emod_of_nonneg HZ1.out]; exact HI.out
        have hA0 := HLA.out 0; have hE0 := HLE.out 0
        have HLA0 : Hid (Calls Tryd.prog 11 #[.pointer (some ⟨p, 0, none⟩)] wr fun e w' => e = .returned (.pointer (some ⟨lp, 0, none⟩)) ∧ w' = wr) := hA0
        have HLE0 : Hid (Calls Tryd.prog 12 #[.pointer (some ⟨lp, 0, none⟩)] wr fun e w' => e = .returned (.int .i64 nn) ∧ w' = wr) := hE0
        clear hA0 hE0 HLA HLE
        have HR1 := Lib.hid hr1; clear hr1
        go_upto_if 84 with fail
        go_cut [2] (fun v wx => v = .int .i64 z ∧ wx = wr)
        case first =>
          by_cases hneg : which < 0
          · have hz := HZ.out
            rw [if_pos hneg] at hz
            have q1 : Hid (wrap64 (which + 1) = which + 1) := by show _ = _; have := HW.out; unfold wrap64; omega
            have q2 : Hid (wrap64 (-(which + 1)) = z) := by show _ = _; rw [hz]; have := HW.out; unfold wrap64; omega
            clear hz
            go_wp2
            go_meet
            exact ⟨by rw [q1.out, q2.out], rfl⟩
          · have hz := HZ.out
            rw [if_neg hneg] at hz
            have HZZ := Lib.hid hz; clear hz
            go_wp2
            go_meet
            exact ⟨by rw [HZZ.out], rfl⟩
        case rest =>
        obtain ⟨rfl, rfl⟩ := hcut
        have HNMS : Hid (∀ wx : World, Lat wx lp (newL (readF s).2.2.names (readF s).2.2.below) → Calls Tryd.prog 13 #[.pointer (some ⟨lp, 0, none⟩)] wx fun e w' => ∃ a c, e = .returned (.slice a nn c) ∧ Hid (Rd w' a ((readF s).2.2.names.map Value.string)) ∧ Hid (Below wx.heap.size wx w')) := fun wx hx => by
          refine (names_any lp _ wx hx).mono ?_
          rintro e w' ⟨v, rfl, HO, hb⟩
          obtain ⟨a, c, rfl, _, _, hr⟩ := owns_form HO.out
          refine ⟨a, c, ?_, hr, hb⟩
          have : (newL (readF s).2.2.names (readF s).2.2.below).names.length = nn := HNN.out
          rw [this]
        have HTT : Hid (s ++ (⟨#[10, 99, 104, 97, 110, 110, 101, 108, 32]⟩ : ByteArray) ++ name ++ ⟨#[32]⟩ ++ nameAt (readF s).2.2 i = t) := HT.out
        have hin2 : i < (readF s).2.2.names.length := by rw [HNN.out]; exact hin
        have HAT : Hid (∀ (a : Option Addr) (wx : World), Rd wx a ((readF s).2.2.names.map Value.string) → ∃ g o, a = some ⟨g, o, none⟩ ∧ wx.cell? ⟨g, o + i, none⟩ = some (.string (nameAt (readF s).2.2 i))) := fun a wx h => by
          exact h.at (j := i) (v := .string (nameAt (readF s).2.2 i)) (by rw [List.getElem?_map, List.getElem?_eq_getElem hin2]; unfold nameAt; rw [List.getD_eq_getElem?_getD, List.getElem?_eq_getElem hin2]; rfl)
        clear hin2 hlt hk
        have hn20 : name.size ≤ 20 := by
          have := ident_len HID.out
          have e : name.data.toList.length = name.size := by simp
          omega
        have hlv20 : (nameAt (readF s).2.2 i).size ≤ 20 := ok_len (nameAt_ok HG.out (by rw [HNN.out]; exact hin)).1
        generalize nameAt (readF s).2.2 i = lvn at *
        go_upto_region 16 with (first
          | (go_at_call 11; refine HLA0.out.mono ?_; rintro e w' ⟨rfl, rfl⟩)
          | (go_at_call 12; refine HLE0.out.mono ?_; rintro e w' ⟨rfl, rfl⟩))
        rw [HR1.out]
        clear hn0
        go_wp2_with (first
          | (go_at_call 11; refine HLA0.out.mono ?_; rintro e w' ⟨rfl, rfl⟩)
          | (go_at_call 13; refine (HNMS.out _ HLw.out).mono ?_; rintro e w5 ⟨a5, c5, rfl, HR5, HB5⟩; obtain ⟨g5, o5, rfl, d5⟩ := HAT.out _ _ HR5.out; clear HR5))
        rw [HTT.out]
        have HP5 := Lib.hid (HPw.out.below HB5.out)
        have HR5 := Lib.hid (HRw.out.below HB5.out)
        have HBW5 := Lib.hid (HBw.out.trans (HB5.out.mono HBw.out.size))
        clear HPw HRw HBw HLw HB5 HNMS HTT HAT HT HLA0 HLE0
        cases hof : (ofAt (readF s).2.2.of name).isSome with
        | true =>
          have HC4 := Lib.hid (HMORE.out.1 hof)
          have hlvl : 0 ≤ levelI (readF s).2.2 name := by
            unfold levelI
            cases h : ofAt (readF s).2.2.of name with
            | none => rw [h] at hof; cases hof
            | some n => exact Int.natCast_nonneg n
          obtain ⟨kk, hkk⟩ : ∃ kk, (parseE t).2 = kk := ⟨_, rfl⟩
          have HKK := Lib.hid hkk
          clear hkk hof
          refine (parse_no t _ (HMM.out _ HBW5.out) HC4.out HKK.out (by decide)).mono ?_
          rintro e w6 ⟨rfl, hb6⟩
          have HP6 := Lib.hid (HP5.out.below hb6.out)
          have HB6 := Lib.hid (HBW5.out.trans (hb6.out.mono HBW5.out.size)); clear hb6
          have HLV : Hid (Calls Tryd.prog 10 #[.pointer (some ⟨p, 0, none⟩), .string name] w6 fun e w' => e = .returned (.int .i64 (levelI (readF s).2.2 name)) ∧ w' = w6) := level_any p _ name _ hns HP6.out
          generalize levelI (readF s).2.2 name = lvl at *
          go_wp2_with (go_at_call 10; refine HLV.out.mono ?_; rintro e w' ⟨rfl, rfl⟩)
          go_ret
          exact ⟨ret_bool (by simp), HB6.out⟩
        | false =>
          obtain ⟨hC0, hRT⟩ := HMORE.out.2 hof
          have hnone : ofAt (readF s).2.2.of name = Option.none := by
            cases h : ofAt (readF s).2.2.of name with
            | none => rfl
            | some n => rw [h] at hof; cases hof
          have hl0 : levelI (readF s).2.2 name = -1 := by unfold levelI; rw [hnone]
          have hl1 : levelI (readF t).2.2 name = (i : Int) := by rw [hRT, level_more, if_pos rfl]
          have hl2 : ∀ c ∈ chansL (readF s).2.2, levelI (readF t).2.2 c = levelI (readF s).2.2 c := fun c hc => by
            rw [hRT, level_more, if_neg]
            intro e
            have := mem_chansL.1 hc
            rw [← e] at this
            exact (ofAt_none.1 hnone) this
          have hlen : (chansL (readF t).2.2).length = k + 1 := by
            rw [(chansL_perm _).length_eq, List.length_map, hRT]
            show ((name, i) :: (readF s).2.2.of).length = k + 1
            rw [List.length_cons, ← HNX.out, (chansL_perm _).length_eq, List.length_map]
          have HC0 := Lib.hid hC0; have HL0 := Lib.hid hl0; have HL1 := Lib.hid hl1; have HL2 := Lib.hid hl2; have HLEN := Lib.hid hlen
          clear hC0 hRT hnone hl0 hl1 hl2 hlen hof
          refine (parse_yes t _ (HMM.out _ HBW5.out) HC0.out).mono ?_
          rintro e w6 ⟨q, rfl, HQ, hb6⟩
          have HP6 := Lib.hid (HP5.out.below hb6.out); have HR6 := Lib.hid (HR5.out.below hb6.out)
          have HB6 := Lib.hid (HBW5.out.trans (hb6.out.mono HBW5.out.size)); clear hb6
          clear HP5 HR5 HBW5
          go_wp2_with fail
          go_loopw [17] (fun v wx => ∃ k2 : Nat, k2 ≤ k ∧ v = .int .i64 k2 ∧ Hid (∃ m, wx = w6.drewN m)) (fun v _ => k - (intOf v).toNat)
          case atStart => exact ⟨0, Nat.zero_le _, rfl, 0, rfl⟩
          case round =>
            obtain ⟨k2, hk2, rfl, HWX⟩ := hrel
            by_cases hlt2 : k2 < k
            · have hl1 : k2 < (chansL (readF s).2.2).length := by rw [HNX.out]; exact hlt2
              have hrr : Rd wr a4 ((chansL (readF s).2.2).map Value.string) := by obtain ⟨m, rfl⟩ := HWX.out; exact HR6.out.drewN m
              obtain ⟨g, o, rfl, d1⟩ := hrr.at (j := k2) (v := .string (chansL (readF s).2.2)[k2]) (by simp [hl1])
              have hi1 := HIDS.out _ (List.getElem_mem hl1)
              have hlv := HL2.out _ (List.getElem_mem hl1)
              have HPw : Hid (Pol wr p (readF s).2.2) := by obtain ⟨m, rfl⟩ := HWX.out; exact HP6.out.below (below_drewN (Below.refl _ _) m)
              have HQw : Hid (Pol wr q (readF t).2.2) := by obtain ⟨m, rfl⟩ := HWX.out; exact HQ.out.below (below_drewN (Below.refl _ _) m)
              have H1 := level_q HPw.out hi1 _ rfl
              have H2 := level_q HQw.out hi1 _ hlv
              clear hrr hi1 hlv HPw HQw
              generalize (chansL (readF s).2.2)[k2] = ca at *
              clear hl1
              generalize levelI (readF s).2.2 ca = lv at *
              go_wp2_with fail
              go_quiet (first
                | (go_at_call_of 10 (Value.pointer (some ⟨p, 0, none⟩)); exact Calls.quiet_of_same (H1.out _))
                | (go_at_call_of 10 (Value.pointer (some ⟨q, 0, none⟩)); exact Calls.quiet_of_same (H2.out _)))
              go_wp2
              go_roundw
              case rel => exact ⟨k2 + 1, by omega, by go_num, by obtain ⟨m, rfl⟩ := HWX.out; exact ⟨m + nq, by rw [World.drewN_drewN]⟩⟩
              case measure => simp [intOf]; omega
            · obtain rfl : k2 = k := by omega
              have HPw : Hid (Pol wr p (readF s).2.2) := by obtain ⟨m, rfl⟩ := HWX.out; exact HP6.out.below (below_drewN (Below.refl _ _) m)
              have HQw : Hid (Pol wr q (readF t).2.2) := by obtain ⟨m, rfl⟩ := HWX.out; exact HQ.out.below (below_drewN (Below.refl _ _) m)
              have HBw : Hid (Below w.heap.size w wr) := by obtain ⟨m, rfl⟩ := HWX.out; exact below_drewN HB6.out m
              have H1 : Hid (Calls Tryd.prog 10 #[.pointer (some ⟨p, 0, none⟩), .string name] wr fun e w' => e = .returned (.int .i64 (-1)) ∧ w' = wr) := by rw [← HL0.out]; exact level_any p _ name _ hns HPw.out
              have H2 : Hid (Calls Tryd.prog 10 #[.pointer (some ⟨q, 0, none⟩), .string name] wr fun e w' => e = .returned (.int .i64 i) ∧ w' = wr) := by rw [← HL1.out]; exact level_any q _ name _ hns HQw.out
              have H3 : Hid (Calls Tryd.prog 9 #[.pointer (some ⟨q, 0, none⟩)] wr fun e w' => ∃ a c, e = .returned (.slice a (k2 + 1) c) ∧ Hid (Below wr.heap.size wr w')) := by
                refine (channels_any q _ wr HQw.out (readF_good t).each HOFT.out).mono ?_
                rintro e w' ⟨v, rfl, HO, hb⟩
                obtain ⟨a, c, rfl, _, _, _⟩ := owns_form HO.out
                exact ⟨a, c, by rw [HLEN.out], hb⟩
              clear hlt2 hk2
              go_wp2_with (first
                | (go_at_call_of 10 (Value.pointer (some ⟨p, 0, none⟩)); refine H1.out.mono ?_; rintro e w' ⟨rfl, rfl⟩)
                | (go_at_call_of 10 (Value.pointer (some ⟨q, 0, none⟩)); refine H2.out.mono ?_; rintro e w' ⟨rfl, rfl⟩)
                | (go_at_call 9; refine H3.out.mono ?_; rintro e w7 ⟨a7, c7, rfl, HB7⟩))
              go_ret
              exact ⟨ret_bool (by simp), HBw.out.trans (HB7.out.mono HBw.out.size)⟩
  · obtain ⟨c, hc⟩ : ∃ c, (parseE s).1 = c := ⟨_, rfl⟩
    obtain ⟨k, hk⟩ : ∃ k, (parseE s).2 = k := ⟨_, rfl⟩
    rw [hc] at h0
    have HC := Lib.hid hc; have HK := Lib.hid hk; have H0 := Lib.hid h0
    clear hc hk h0 hw hid
    go_enter Tryd.func3, Tryd.ntmps3
    go_wp2_with (go_at_call 6; refine (shown_any _ (HMM.out _ (Below.refl _ _))).mono ?_; rintro e w1 ⟨rfl, hb1⟩; have HB1 := Lib.hid hb1; clear hb1)
    refine (ident_all name _ (HMM.out _ HB1.out)).mono ?_
    rintro e w2 ⟨rfl, hb2⟩
    rw [HID.out]
    have HB2 := Lib.hid (HB1.out.trans (hb2.out.mono HB1.out.size)); clear hb2
    go_wp2_with fail
    refine (parse_no s _ (HMM.out _ HB2.out) HC.out HK.out H0.out).mono ?_
    rintro e w3 ⟨rfl, hb3⟩
    have HB3 := Lib.hid (HB2.out.trans (hb3.out.mono HB2.out.size)); clear hb3
    go_wp2
    go_ret
    exact ⟨ret_bool rfl, HB3.out⟩
end Go.Proofs.YtckpffkofeoinaaDoor
