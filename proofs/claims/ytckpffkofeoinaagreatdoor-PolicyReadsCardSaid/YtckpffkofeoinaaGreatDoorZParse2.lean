/- The document's Parse, walked. -/
import Derived.Test.YtckpffkofeoinaaGreatDoorZParse
import Derived.Test.YtckpffkofeoinaaGreatDoorZWords2
namespace Go.Proofs.YtckpffkofeoinaaGreatDoor
open Go.RowKit Go.Maps Go.Proofs.YtckpffkofeoinaaGreatDoor.Lr

theorem chansL_none : chansL RS.none = [] := by simp [chansL, chansB, RS.none]

theorem rloop_start (s : ByteArray) (w W : World) (hW : W = w.alloc (.cells #[.slice none 0 0, .slice none 0 0, .slice none 0 0, .slice none 0 0] 60)) : RLoop w W s (w.heap.size + 1) w.heap.size 0 0 RS.none W := by
  have hs : W.heap.size = w.heap.size + 1 := by rw [hW]; simp
  have hl : levsL RS.none = [] := by unfold levsL; rw [chansL_none]; rfl
  refine ⟨⟨_, _, _, _, by rw [hW]; exact heap_alloc_new w _, World.ownsRow_nil _ _ _ _, World.ownsRow_nil _ _ _ _, ?_, ?_, .inl rfl, by omega, by omega⟩, Turn.of_below (Below.refl W.heap.size _) (by omega), by rw [hW]; exact (Below.refl _ w).alloc (Nat.le_refl _) _, ⟨by omega, by omega⟩, RS.none_ok _ _, fun j h1 h2 => absurd h2 (by omega), by rw [linesAt_zero]; rfl⟩
  · rw [hl, chansL_none]; exact World.ownsRow_nil _ _ _ _
  · rw [chansL_none]; exact World.ownsRow_nil _ _ _ _

theorem RLoop.lens {w W : World} {s : ByteArray} {base p a i : Nat} {r : RS} {wr : World} (h : RLoop w W s base p a i r wr) (ha : a ≤ s.size + 1) (hs : s.size ≤ 20000) : r.names.length ≤ 100000 ∧ r.below.length ≤ 100000 ∧ (chansL r).length ≤ 100000 := by
  have := h.ok
  rw [chansL_len]
  exact ⟨by have := this.names; omega, by have := this.below; omega, by have := this.of; omega⟩

/-- Behind a line's Words: what of it is used. -/
theorem wordsPost_form {l : ByteArray} {w w' : World} {e : Ending} (h : WordsPost l w e w') : ∃ A c, e = .returned (.slice A (wordsF l).length c) ∧ Hid (Rd w' A ((wordsF l).map Value.string)) ∧ Hid (Below w.heap.size w w') := by
  obtain ⟨v, rfl, ho, hb⟩ := h
  obtain ⟨A, c, rfl, _, _, hr⟩ := owns_form ho.out
  exact ⟨A, c, rfl, hr, hb⟩

set_option maxRecDepth 100000 in
set_option maxHeartbeats 20000000 in
theorem rparse_any (s : ByteArray) (w : World) :
    Calls Tryz.prog 6 #[.string s] w fun e w' => RParsePost s w e w' := by
  by_cases hlong : 20000 < s.size
  · have hfin : parseE s = (7, 0) := by unfold parseE; rw [if_pos hlong]
    have HF := Lib.hid hfin; clear hfin
    have hl : (20000 : Int) < (s.size : Int) := by omega
    go_enter Tryz.func6, Tryz.ntmps6
    go_wp2
    go_ret3
    exact RParsePost.bad (Below.refl _ _) HF.out (by decide) rfl
  · have HL := Lib.hid hlong
    have hl : ¬ (20000 : Int) < (s.size : Int) := by omega
    have hs20 : s.size ≤ 20000 := by omega
    obtain ⟨W0, hW0⟩ : ∃ W0, W0 = w.alloc (.cells #[.slice none 0 0, .slice none 0 0, .slice none 0 0, .slice none 0 0] 60) := ⟨_, rfl⟩
    have HL0 := Lib.hid (rloop_start s w W0 hW0)
    have HW : Hid (∀ (l : ByteArray) (wx : World), l.size ≤ 100000 → Calls Tryz.prog 21 #[.string l] wx fun e w' => ∃ A c, e = .returned (.slice A (wordsF l).length c) ∧ Hid (Rd w' A ((wordsF l).map Value.string)) ∧ Hid (Below wx.heap.size wx w')) := fun l wx h => (rwords_any l wx h).mono fun _ _ h => wordsPost_form h
    clear hlong
    subst hW0
    go_enter Tryz.func6, Tryz.ntmps6
    go_wp2_with fail
    generalize (w.alloc (.cells #[.slice none 0 0, .slice none 0 0, .slice none 0 0, .slice none 0 0] 60)) = W at *
    go_loopw [6, 7] (fun s6 s7 wr => ∃ (a i : Nat) (r : RS), a ≤ i ∧ i ≤ s.size + 1 ∧ (i ≤ s.size ∨ a = s.size + 1) ∧ s6 = .int .i64 a ∧ s7 = .int .i64 i ∧ Hid (RLoop w W s (w.heap.size + 1) w.heap.size a i r wr)) (fun _ s7 _ => s.size + 1 - (intOf s7).toNat)
    case atStart => exact ⟨0, 0, RS.none, Nat.le_refl _, by omega, .inl (Nat.zero_le _), rfl, rfl, HL0⟩
    case round =>
      clear HL0
      obtain ⟨a, i, r, hai, hi, hor, rfl, rfl, HLo⟩ := hrel
      by_cases hend : i ≤ s.size
      · have hiz : (i : Int) ≤ (s.size : Int) := by omega
        by_cases hcont : i < s.size ∧ s.data.toList[i]? ≠ some 10
        · obtain ⟨hlt, h10⟩ := hcont
          have hne : ((s[i].toNat : Int) != 10) = true := by
            rw [bne_iff_ne]
            intro e
            apply h10
            rw [Lib.data_getElem? s i hlt]
            congr 1
            exact UInt8.toNat_inj.1 (by rw [show (10 : UInt8).toNat = 10 from rfl]; omega)
          have HN := Lib.hid h10; clear h10
          go_wp2
          go_roundw
          case rel => exact ⟨a, i + 1, r, by omega, by omega, .inl (by omega), rfl, by go_num, HLo.out.more HN.out⟩
          case measure => simp [intOf] <;> omega
        · have hb : i = s.size ∨ s.data.toList[i]? = some 10 := by
            by_cases h : i = s.size
            · exact .inl h
            · exact .inr (Classical.byContradiction fun hn => hcont ⟨by omega, hn⟩)
          have HBB := Lib.hid hb
          have hx : (i : Int) = (s.size : Int) ∨ (∃ hlt : i < s.size, ((s[i].toNat : Int) != 10) = false) := by
            rcases hb with h | h
            · exact .inl (by omega)
            · have hlt : i < s.size := by have := (List.getElem?_eq_some_iff.1 h).1; rw [dsize] at this; exact this
              refine .inr ⟨hlt, ?_⟩
              rw [Lib.data_getElem? s i hlt] at h
              injection h with h
              rw [h]; decide
          clear hb hcont
          obtain ⟨q1, q2, q3⟩ := HLo.out.lens (by omega) hs20
          have hex : (s.extract a i).size ≤ 100000 := by rw [ext_size hai hend]; omega
          have HQ1 := Lib.hid q1; have HQ2 := Lib.hid q2; have HQ3 := Lib.hid q3; have HEX := Lib.hid hex; clear q1 q2 q3 hex
          have HWL : Hid (∀ x ∈ wordsF (s.extract a i), x.size ≤ 140737488351232) := fun x hx => by have := words_le hx; have := HEX.out; omega
          obtain ⟨n, hn⟩ : ∃ n, (wordsF (s.extract a i)).length = n := ⟨_, rfl⟩
          have HNN := Lib.hid hn; clear hn
          have HA : Hid (a ≤ i) := hai
          have hai2 : (a : Int) ≤ (i : Int) := by omega
          by_cases h0 : n = 0
          · subst h0
            rcases hx with hx | ⟨hlt, hx⟩
            · obtain rfl : i = s.size := by omega
              clear hx HBB
              go_wp2_with (go_at_call 21; refine (HW.out _ _ HEX.out).mono ?_; rintro e w2 ⟨A, c, rfl, HR2, HB2⟩; rw [HNN.out])
              go_roundw
              case rel => exact ⟨s.size + 1, s.size + 1, r, Nat.le_refl _, by omega, by omega, by go_num, by go_num, HLo.out.skip HA.out hend (.inl rfl) HNN.out HB2.out⟩
              case measure => simp [intOf] <;> omega
            · go_wp2_with (go_at_call 21; refine (HW.out _ _ HEX.out).mono ?_; rintro e w2 ⟨A, c, rfl, HR2, HB2⟩; rw [HNN.out])
              go_roundw
              case rel => exact ⟨i + 1, i + 1, r, Nat.le_refl _, by omega, by omega, by go_num, by go_num, HLo.out.skip HA.out hend HBB.out HNN.out HB2.out⟩
              case measure => simp [intOf] <;> omega
          · have hnp : (0 : Int) < (n : Int) := by omega
            have H0 : Hid (¬ (wordsF (s.extract a i)).length = 0) := by rw [HNN.out]; exact h0
            by_cases hz : (lineF r (wordsF (s.extract a i))).1 = 0
            · have HZ := Lib.hid hz; clear hz
              rcases hx with hx | ⟨hlt, hx⟩
              · obtain rfl : i = s.size := by omega
                clear hx HBB
                go_wp2_with (first | (go_at_call 21; refine (HW.out _ _ HEX.out).mono ?_; rintro e w2 ⟨A, c, rfl, HR2, HB2⟩; rw [HNN.out]) | (go_at_call 22; refine (rline_any _ _ n c A r (wordsF (s.extract a s.size)) w2 HNN.out HR2.out HWL.out (HLo.out.st.below HB2.out) HQ1.out HQ2.out HQ3.out).mono ?_; rintro e w3 ⟨rfl, hs3, ht3⟩; rw [HZ.out]; have HS3 := Lib.hid hs3; have HT3 := Lib.hid ht3; clear hs3 ht3))
                go_roundw
                case rel => exact ⟨s.size + 1, s.size + 1, _, Nat.le_refl _, by omega, by omega, by go_num, by go_num, HLo.out.next HA.out hend (.inl rfl) H0.out HZ.out HB2.out HS3.out HT3.out⟩
                case measure => simp [intOf] <;> omega
              · go_wp2_with (first | (go_at_call 21; refine (HW.out _ _ HEX.out).mono ?_; rintro e w2 ⟨A, c, rfl, HR2, HB2⟩; rw [HNN.out]) | (go_at_call 22; refine (rline_any _ _ n c A r (wordsF (s.extract a i)) w2 HNN.out HR2.out HWL.out (HLo.out.st.below HB2.out) HQ1.out HQ2.out HQ3.out).mono ?_; rintro e w3 ⟨rfl, hs3, ht3⟩; rw [HZ.out]; have HS3 := Lib.hid hs3; have HT3 := Lib.hid ht3; clear hs3 ht3))
                go_roundw
                case rel => exact ⟨i + 1, i + 1, _, Nat.le_refl _, by omega, by omega, by go_num, by go_num, HLo.out.next HA.out hend HBB.out H0.out HZ.out HB2.out HS3.out HT3.out⟩
                case measure => simp [intOf] <;> omega
            · obtain ⟨ec, hec⟩ : ∃ ec, (lineF r (wordsF (s.extract a i))).1 = ec := ⟨_, rfl⟩
              have hne : (ec != 0) = true := by rw [← hec]; simpa using hz
              have HEC := Lib.hid hec; have HZ := Lib.hid hz; clear hz hec
              rcases hx with hx | ⟨hlt, hx⟩
              · obtain rfl : i = s.size := by omega
                clear hx HBB
                go_wp2_with (first | (go_at_call 21; refine (HW.out _ _ HEX.out).mono ?_; rintro e w2 ⟨A, c, rfl, HR2, HB2⟩; rw [HNN.out]) | (go_at_call 22; refine (rline_any _ _ n c A r (wordsF (s.extract a s.size)) w2 HNN.out HR2.out HWL.out (HLo.out.st.below HB2.out) HQ1.out HQ2.out HQ3.out).mono ?_; rintro e w3 ⟨rfl, hs3, ht3⟩; rw [HEC.out]; have HS3 := Lib.hid hs3; have HT3 := Lib.hid ht3; clear hs3 ht3))
                go_ret3
                have hw := HLo.out.wrong HA.out hend (.inl rfl) H0.out HZ.out HL.out
                rw [HEC.out] at hw
                have hb3 := ((HLo.out.turn.trans (Turn.of_below HB2.out HLo.out.st.base_le)).trans HT3.out).bel HLo.out.bel HLo.out.far.1 HLo.out.far.1 HLo.out.far.2
                exact RParsePost.bad hb3 hw (by simpa using hne) rfl
              · go_wp2_with (first | (go_at_call 21; refine (HW.out _ _ HEX.out).mono ?_; rintro e w2 ⟨A, c, rfl, HR2, HB2⟩; rw [HNN.out]) | (go_at_call 22; refine (rline_any _ _ n c A r (wordsF (s.extract a i)) w2 HNN.out HR2.out HWL.out (HLo.out.st.below HB2.out) HQ1.out HQ2.out HQ3.out).mono ?_; rintro e w3 ⟨rfl, hs3, ht3⟩; rw [HEC.out]; have HS3 := Lib.hid hs3; have HT3 := Lib.hid ht3; clear hs3 ht3))
                go_ret3
                have hw := HLo.out.wrong HA.out hend HBB.out H0.out HZ.out HL.out
                rw [HEC.out] at hw
                have hb3 := ((HLo.out.turn.trans (Turn.of_below HB2.out HLo.out.st.base_le)).trans HT3.out).bel HLo.out.bel HLo.out.far.1 HLo.out.far.1 HLo.out.far.2
                exact RParsePost.bad hb3 hw (by simpa using hne) rfl
      · obtain rfl : a = s.size + 1 := by omega
        have hfin := HLo.out.last HL.out
        obtain ⟨q1, q2, q3⟩ := HLo.out.lens (by omega) hs20
        have HSR : Hid (ShortS r.names) := fun x hx => by have := HLo.out.ok.short x hx; omega
        have HB1 := Lib.hid HLo.out.below
        have hst := HLo.out.st
        obtain ⟨vn, vb, vp, vc, h1, h2, h3, h4, h5, h6, h7, h8⟩ := hst
        obtain ⟨an, cn, rfl, hn1, hn2, hn3⟩ := owns_form h2
        obtain ⟨ab, cb, rfl, hb1, hb2, hb3⟩ := owns_form h3
        obtain ⟨ac, cc, rfl, _, _, _⟩ := owns_form h5
        obtain ⟨ap, cp, rfl, _, _, _⟩ := owns_form h4
        obtain ⟨cp0, cp1, cp2, cp3, _, _, _, _⟩ := cell_in4 h1
        have HNW : Hid (∀ k : Nat, Calls Tryz.prog 23 #[.slice an r.names.length cn, .slice ab r.below.length cb] (wr.drewN k) fun e w' => RNewPost (wr.drewN k) w' an cn r.names r.below e) := fun k =>
          rnew_any an ab cn cb _ _ r.names r.below _ rfl hn1 (Nat.le_trans hn2 (by unfold maxLen; omega)) (hn3.drewN k) (by omega) rfl (hb3.drewN k) (by omega) (named_ev HSR.out) (fun h U s => place_ev h U s) (fun h1 h2 h3 U hS => hS.lattice_ev h2 h1 h3)
        have HF1 := Lib.hid hfin.1; have HF2 := Lib.hid hfin.2; have H1 := Lib.hid h1; have H4 := Lib.hid h4; have H5 := Lib.hid h5
        clear hfin h1 h2 h3 h4 h5 h6 h7 h8 hn3 hb3 q1 q2 q3 hn1 hn2 hb1 hb2
        by_cases hE : newE r.names r.below = 0
        · have HE := Lib.hid hE
          have hPE := HF2.out
          rw [if_neg (by simpa using hE)] at hPE
          have HPE := Lib.hid hPE; clear hE hPE HF2
          go_upto_region 15 with fail
          go_region_with (go_at_call 23; refine (HNW.out 1).mono ?_; rintro e w4 hP; obtain ⟨p2, rfl, HLA, HB4⟩ := hP.yes HE.out; clear hP)
          all_goals
            have hb4 : Below wr.heap.size wr w4 := (below_drewN (Below.refl _ wr) 1).trans HB4.out
            have hp4 : w4.heap[w.heap.size]? = some (.cells #[.slice an r.names.length cn, .slice ab r.below.length cb, .slice ap (chansL r).length cp, .slice ac (chansL r).length cc] 60 (0, 0)) := by
              rw [hb4.block _ (lt_of_block H1.out)]; exact H1.out
            obtain ⟨_, _, d2, d3, _, _, _, _⟩ := cell_in4 hp4
            have HO4 := Lib.hid (owns_below H4.out hb4); have HO5 := Lib.hid (owns_below H5.out hb4)
            have HBW := Lib.hid (HB1.out.trans (hb4.mono HB1.out.size))
            clear hb4 hp4 cp0 cp1 cp2 cp3
            go_upto_region 18 with fail
            obtain ⟨g, rr, cap, U, hRL, hSh⟩ := HLA.out
            have HRL := Lib.hid hRL; have HSH := Lib.hid hSh; clear hRL hSh
            go_region
            all_goals
              go_wp2
              go_ret3
              have hal : Below w4.heap.size w4 (w4.alloc (.cells #[.pointer (some ⟨p2, 0, none⟩), .slice ac (chansL r).length cc, .slice ap (chansL r).length cp] 38)).drew := ((Below.refl _ _).alloc (Nat.le_refl _) _).drew
              refine ⟨HBW.out.trans (hal.mono HBW.out.size), .inl ⟨HPE.out, _, rfl, ?_⟩⟩
              rw [HF1.out]
              exact ⟨p2, g, rr, an, cn, cap, U, _, _, heap_alloc_new _ _, HRL.out.below hal, HSH.out, owns_base (owns_below HO5.out hal) (Nat.zero_le _), owns_base (owns_below HO4.out hal) (Nat.zero_le _)⟩
        · obtain ⟨ec, hec⟩ : ∃ ec, newE r.names r.below = ec := ⟨_, rfl⟩
          have hPE := HF2.out
          rw [if_pos hE] at hPE
          rw [hec] at hE hPE
          have hne : (ec != 0) = true := by simpa using hE
          have HEC := Lib.hid hec; have HPE := Lib.hid hPE; have HE := Lib.hid hE; clear hE hPE HF2 hec
          go_upto_region 15 with fail
          go_region_with (go_at_call 23; refine (HNW.out 1).mono ?_; rintro e w4 hP; obtain ⟨rfl, HB4⟩ := hP.no HEC.out HE.out; clear hP)
          all_goals
            have HBW := Lib.hid (HB1.out.trans (((below_drewN (Below.refl _ wr) 1).trans HB4.out).mono HB1.out.size))
            clear cp0 cp1 cp2 cp3
            go_wp2
            go_ret3
            exact RParsePost.bad HBW.out HPE.out HE.out rfl
end Go.Proofs.YtckpffkofeoinaaGreatDoor
