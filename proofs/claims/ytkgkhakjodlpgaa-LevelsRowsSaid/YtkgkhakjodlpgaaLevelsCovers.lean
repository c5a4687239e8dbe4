/- The walk of LevelsCovers. -/
import Derived.Test.YtkgkhakjodlpgaaSamePairs
import Derived.Test.YtkgkhakjodlpgaaPCovers
import Derived.Test.YtkgkhakjodlpgaaOpen
import Derived.Deep.RegionLaw
import Derived.Deep.CutBlock
import Derived.Deep.DeepCutAuto
namespace Go.Proofs.Ytkgkhakjodlpgaa
open Go.RowKit

theorem covers_st2 {w : World} (p : Nat) (L : LatD) (h : Lat w p L) :
    Calls Try.prog 25 #[.pointer (some ⟨p, 0, none⟩)] w fun e w' => ∃ A cap, e = .returned (.slice A (covers L).length cap) ∧ (covers L).length ≤ cap ∧ cap ≤ maxLen ∧ Hid (Rd w' A (pairsV (covers L))) ∧ Below w.heap.size w w' :=
  (covers_any p L w h).mono fun e w' ⟨v', he, hO, hB⟩ => by
    obtain ⟨a, cap, rfl, h1, h2, h3⟩ := owns_form hO.out
    exact ⟨a, cap, he, h1, h2, h3, hB⟩

theorem info_strs2 : (Try.prog.info? 26).map (fun i => (i.zero, i.size, i.bytes)) = some (some (.agg #[.string ByteArray.empty, .string ByteArray.empty]), 2, 32) := by kernel_rfl

set_option maxRecDepth 100000 in
set_option maxHeartbeats 8000000 in
theorem levelsCovers_walk (A : Option Addr) (n c : Nat) (names : List ByteArray) (B : Option Addr) (m c2 : Nat) (pairs : List (ByteArray × ByteArray)) (w : World)
    (hn : names.length = n) (hc : n ≤ c) (hcl : c ≤ 9223372036854775807) (hr : Rd w A (names.map Value.string)) (hm : pairs.length = m) (_ : m ≤ c2) (_ : c2 ≤ 9223372036854775807) (hrp : Rd w B (strs2 pairs)) :
    Calls Try.prog 5 #[.slice A n c, .slice B m c2] w fun e w' => e = .returned (.bool true) ∧ Below w.heap.size w w' := by
  have HN := Lib.hid hn; have HM := Lib.hid hm; have HR := Lib.hid hr; have HRP := Lib.hid hrp; clear hn hm hr hrp
  go_enter Try.func5, Try.ntmps5
  go_wp2_with fail
  refine (shown_any _).mono ?_
  rintro e w1 ⟨rfl, hB⟩
  have HB := Lib.hid hB; clear hB
  have HR1 := Lib.hid (HR.out.below HB.out); have HRP1 := Lib.hid (HRP.out.below HB.out)
  go_wp2_with fail
  refine (small_any _ _ _ _ _ _ names pairs _ HN.out HR1.out HM.out HRP1.out).mono ?_
  rintro e w' ⟨rfl, rfl⟩
  cases hs : smallB names pairs with
  | false =>
    go_wp2_with fail
    go_ret
    exact ⟨ret_bool rfl, HB.out⟩
  | true =>
    obtain ⟨s1, s2, s3, s4⟩ := smallB_yes hs
    have hss : Hid (ShortS names) := fun s h => by have := s3 s h; omega
    have l1 : Hid (names.length ≤ 140737488355328) := by show _ ≤ _; omega
    have l2 : Hid (m ≤ 140737488355328) := by show _ ≤ _; rw [← HM.out]; omega
    clear s1 s3 s4 hs
    go_wp2_with fail
    refine (new_any _ _ _ _ _ _ names pairs _ HN.out hc hcl HR1.out hss.out l1.out HM.out HRP1.out l2.out).mono ?_
    rintro e w2 hP
    by_cases hE : newE names pairs = 0
    · obtain ⟨p, rfl, hp, HL, hB2⟩ := hP.yes hE
      have HCV := Lib.hid (CovF.of hE)
      have hst : St w p (newL names pairs) w2 := ⟨HL.out, HB.out.trans (hB2.mono HB.out.size), Nat.le_trans HB.out.size hp⟩
      have HR2 := Lib.hid (HR.out.below (HB.out.trans (hB2.mono HB.out.size)))
      have HRP2 := Lib.hid (HRP.out.below (HB.out.trans (hB2.mono HB.out.size)))
      clear hP hE hp HL hB2 HRP HR1 HRP1 HB l2
      generalize newL names pairs = L at *
      have hnl : L.names.length = n := by rw [HCV.out.nm]; exact HN.out
      have hpos := HCV.out.lat.pos; have hle := HCV.out.lat.le
      rw [hnl] at hpos hle
      have HST := Lib.hid hst
      clear hst
      have hm300 : m ≤ 300 := by rw [← HM.out]; exact s2
      clear s2
      go_wp2_with fail
      go_loopw [9] (fun i wr => ∃ k : Nat, k ≤ m ∧ i = .int .i64 k ∧ Hid (∃ j, wr = w2.drewN j)) (fun i _ => m - (intOf i).toNat)
      case atStart => exact ⟨0, Nat.zero_le _, rfl, 0, rfl⟩
      case round =>
        obtain ⟨k, hk, rfl, HW⟩ := hrel
        by_cases hlt : k < m
        · have hlt' : k < pairs.length := by rw [HM.out]; exact hlt
          have hrp : Rd wr B (strs2 pairs) := by obtain ⟨j, rfl⟩ := HW.out; exact HRP2.out.drewN j
          have hs3 : Lat wr p L := by obtain ⟨j, rfl⟩ := HW.out; exact HST.out.1.drewN j
          obtain ⟨a1, a2⟩ := strs2_at pairs hlt'
          obtain ⟨b, o, rfl, cp1⟩ := hrp.at a1
          obtain ⟨b', o', e1, cp2⟩ := hrp.at a2
          obtain ⟨rfl, rfl⟩ : b' = b ∧ o' = o := by simpa using e1.symm
          rw [← Nat.add_assoc] at cp2
          have hstand := HCV.out.stand k hlt'
          clear e1 a1 a2 hrp
          have HS3 := Lib.hid hs3; have HSTA := Lib.hid hstand; clear hs3 hstand
          generalize pairs[k].1 = s1 at *
          generalize pairs[k].2 = s2 at *
          go_wp2_with fail
          go_quiet ((first
            | (go_at_call 24; exact Calls.quiet_of_same (place_any p L _ _ (HS3.out.drewN _)))
            | (go_at_call 19; exact Calls.quiet_of_same ((below_any p L _ _ _ (HS3.out.drewN _)).mono fun e w' h => ⟨h.1.trans (by rw [HSTA.out]), h.2.symm⟩))))
          go_wp2
          go_roundw
          case rel => exact ⟨k + 1, by omega, by go_num, by obtain ⟨j, rfl⟩ := HW.out; exact ⟨_, (World.drewN_drewN _ _ _)⟩⟩
          case measure => simp [intOf]; omega
        · obtain rfl : k = m := by omega
          have hst3 : St w p L wr := by obtain ⟨j, rfl⟩ := HW.out; exact HST.out.drewN j
          go_wp2_with (go_at_call 25; refine (covers_st p L hst3).mono ?_; rintro e w3 ⟨K, ck, rfl, hck, hcm, HK, HS3⟩)
          have hcs := covers_small L (by omega)
          have HR3 := Lib.hid (HR.out.below HS3.below)
          have HST3 := Lib.hid HS3
          clear hst3 HS3 HST HW HR2 HRP2
          obtain ⟨kn, hkn⟩ : ∃ kn, (covers L).length = kn := ⟨_, rfl⟩
          rw [hkn] at hcs hck ⊢
          have HKN := Lib.hid hkn
          clear hkn
          go_wp2_with fail
          obtain ⟨i3, hi3, hz30, hz31, hz32⟩ := info_parts info_strs2
          go_loopw [11, 12] (fun v i wr => ∃ k : Nat, k ≤ kn ∧ i = .int .i64 k ∧ Hid (wr.ownsRow w3.heap.size 26 2 v k (strs2 (coverPairs names ((covers L).take k)))) ∧ Hid (Below w3.heap.size w3 wr)) (fun _ i _ => kn - (intOf i).toNat)
          case atStart => exact ⟨0, Nat.zero_le _, rfl, World.ownsRow_nil _ _ _ _, Below.refl _ _⟩
          case round =>
            obtain ⟨k2, hk2, rfl, HO, HBR⟩ := hrel
            by_cases hlt : k2 < kn
            · have hlt' : k2 < (covers L).length := by rw [HKN.out]; exact hlt
              obtain ⟨g, o, rfl, d1, d2⟩ := (HK.out.below HBR.out).pair hlt'
              obtain ⟨v1, v2, v3, v4⟩ := HCV.out.cov k2 hlt'
              have hnx : coverPairs names ((covers L).take (k2 + 1)) = coverPairs names ((covers L).take k2) ++ [(names.getD (covers L)[k2].1 ByteArray.empty, names.getD (covers L)[k2].2 ByteArray.empty)] := by
                rw [List.take_succ_eq_append_getElem hlt']; unfold coverPairs; rw [List.map_append, List.map_cons, List.map_nil]
              have HNX := Lib.hid hnx
              have HS4 := Lib.hid (HST3.out.1.below HBR.out)
              have HV2 := Lib.hid v2
              have hq12 : (((covers L)[k2].1 : Int) == ((covers L)[k2].2 : Int)) = false := by simp; omega
              clear hnx v1 v2
              generalize (covers L)[k2].1 = q1 at *
              generalize (covers L)[k2].2 = q2 at *
              have hr4 := HR3.out.below HBR.out
              obtain ⟨ga, oa, rfl, n1⟩ := hr4.at (j := q1) (v := .string (names.getD q1 ByteArray.empty)) (by rw [List.getElem?_map, List.getElem?_eq_getElem v3, List.getD_eq_getElem?_getD, List.getElem?_eq_getElem v3]; rfl)
              obtain ⟨ga', oa', e1, n2⟩ := hr4.at (j := q2) (v := .string (names.getD q2 ByteArray.empty)) (by rw [List.getElem?_map, List.getElem?_eq_getElem v4, List.getD_eq_getElem?_getD, List.getElem?_eq_getElem v4]; rfl)
              obtain ⟨rfl, rfl⟩ : ga' = ga ∧ oa' = oa := by simpa using e1.symm
              generalize names.getD q1 ByteArray.empty = t1 at *
              generalize names.getD q2 ByteArray.empty = t2 at *
              rw [HN.out] at v3 v4
              clear e1 hr4
              go_wp2_with fail
              go_quiet ((go_at_call 19; exact Calls.quiet_of_same ((below_any p L _ _ _ (HS4.out.drewN _)).mono fun e w' h => ⟨h.1.trans (by rw [HV2.out]), h.2.symm⟩)))
              have HBQ : Hid (Below w3.heap.size w3 (wr.drewN nq)) := below_drewN HBR.out _
              have HOQ : Hid ((wr.drewN nq).ownsRow w3.heap.size 26 2 u11 k2 (strs2 (coverPairs names ((covers L).take k2)))) := HO
              change (wr.drewN nq).cell? _ = _ at d1 d2 n1 n2
              clear HO HBR HS4
              generalize wr.drewN nq = wq at *
              go_upto_region 20 with fail
              have hsz := HBQ.out.size
              go_region_law (refine step_append_lies _ rfl (.tmp 99) (.tmp 117) 25 rfl w3.heap.size 26 i3 _ 2 32 Try.underlying25 hi3 hz30 hz31 hz32 rfl (by decide) u11 k2 _ (by simp [Act.eval, Act.put]) (World.ownsRow.alloc (w := wq.drew) HOQ.out _) ⟨wq.heap.size, 0, none⟩ 1 1 [.string t1, .string t2] (by simp [Act.eval, Act.put]) rfl (World.news_of_block (cs := #[.string t1, .string t2]) (t := 26) (fr := (0, 0)) (heap_alloc_new wq.drew _)) (by simp [Value.oneCell']) (by decide) (by unfold maxLen; omega) (by omega) (by simp; omega) _ rfl ?_; intro gg cap w1 hown1 hgrow hat hltg)
              all_goals
                have HO3 : Hid (w1.ownsRow w3.heap.size 26 2 (.slice (some ⟨gg, 0, none⟩) (k2 + 1) cap) (k2 + 1) (strs2 (coverPairs names ((covers L).take (k2 + 1))))) := by
                  rw [HNX.out, show strs2 (coverPairs names ((covers L).take k2) ++ [(t1, t2)]) = strs2 (coverPairs names ((covers L).take k2)) ++ [.string t1, .string t2] by simp [strs2]]
                  exact hown1
                have HB4 := Lib.hid (((below_drewN HBQ.out 1).alloc (by have := HBQ.out.size; simpa using this) _).grown hgrow (by have := HBQ.out.size; simp; omega) (fun q hq => (HOQ.out.lt q hq).1))
                clear hown1 hgrow hat hltg
                go_wp2
                go_roundw
                case rel => exact ⟨k2 + 1, by omega, by go_num, HO3, HB4⟩
                case measure => simp [intOf]; omega
            · obtain rfl : k2 = kn := by omega
              rw [← HKN.out, List.take_length, HKN.out] at HO
              obtain ⟨a4, cap4, rfl, h41, h42, h43⟩ := owns_form HO.out
              have hR4 := HR3.out.below HBR.out
              have hlen : (coverPairs names (covers L)).length = k2 := by unfold coverPairs; rw [List.length_map, HKN.out]
              have HLEN := Lib.hid hlen; have H43 := Lib.hid h43; have HR4 := Lib.hid hR4
              clear hlen h43 hR4 HO
              go_wp2_with fail
              refine (new_any _ _ _ _ _ _ names (coverPairs names (covers L)) _ HN.out hc hcl HR4.out hss.out l1.out HLEN.out H43.out (by omega)).mono ?_
              rintro e w5 hP2
              obtain ⟨p2, rfl, hp2, HL2, hB5⟩ := hP2.yes HCV.out.ok
              rw [HCV.out.same] at HL2
              have hb5 : Below w3.heap.size w3 w5 := HBR.out.trans (hB5.mono HBR.out.size)
              have HST5 : Hid (St w p L w5) := ⟨HST3.out.1.below hb5, HST3.out.2.1.trans (hb5.mono HST3.out.2.1.size), HST3.out.2.2⟩
              have HST6 : Hid (St w p2 L w5) := ⟨HL2.out, HST5.out.2.1, Nat.le_trans (Nat.le_trans HST3.out.2.1.size HBR.out.size) hp2⟩
              have HK5 := Lib.hid (HK.out.below hb5)
              clear hP2 hp2 HL2 hB5 hb5 HBR HR4 H43 HLEN HK HST3 HR3
              go_upto_region 22 with fail
              go_cut [137] (fun s wx => s = .bool false ∧ Below w5.heap.size w5 wx)
              case first =>
                go_wp2_with (first
                  | (go_at_call 25; refine (covers_st2 p2 L HST6.out.1).mono ?_; rintro e w6 ⟨K2, ck2, rfl, hck2, hcm2, HK2, HB6⟩; rw [HKN.out])
                  | (go_at_call 26; refine (samePairs_any _ _ _ _ _ (covers L) _ HKN.out HK2.out (HK5.out.below HB6) (by omega)).mono ?_; rintro e w7 ⟨rfl, jj, rfl⟩))
                go_meet
                exact ⟨rfl, below_drewN HB6 _⟩
              case rest =>
              obtain ⟨rfl, hB7⟩ := hcut
              have HA := Lib.hid (HST5.out.1.below hB7)
              have HA2 := Lib.hid (HST6.out.1.below hB7)
              have HEND := Lib.hid (HST5.out.2.1.trans (hB7.mono HST5.out.2.1.size))
              clear HST5 HST6 HK5 hB7
              go_wp2_with fail
              go_loopw [15] (fun i wr => ∃ k : Nat, k ≤ n ∧ i = .int .i64 k ∧ wr = wc) (fun i _ => n - (intOf i).toNat)
              case atStart => exact ⟨0, Nat.zero_le _, rfl, rfl⟩
              case round =>
                obtain ⟨k3, hk3, rfl, rfl⟩ := hrel
                by_cases hl3 : k3 < n
                · go_wp2_with (go_at_call 23; refine (len_any p L _ HA.out).mono ?_; rintro e w' ⟨rfl, rfl⟩)
                  go_loopw [16] (fun i wr' => ∃ k : Nat, k ≤ n ∧ i = .int .i64 k ∧ wr' = wr) (fun i _ => n - (intOf i).toNat)
                  case atStart => exact ⟨0, Nat.zero_le _, rfl, rfl⟩
                  case round =>
                    obtain ⟨k4, hk4, rfl, rfl⟩ := hrel
                    by_cases hl4 : k4 < n
                    · have hbb : (belowB L (k3 : Int) (k4 : Int) != belowB L (k3 : Int) (k4 : Int)) = false := by simp
                      obtain ⟨bv, hbv⟩ : ∃ bv, belowB L (k3 : Int) (k4 : Int) = bv := ⟨_, rfl⟩
                      rw [hbv] at hbb
                      go_wp2_with (first
                        | (go_at_call 23; refine (len_any p L _ HA.out).mono ?_; rintro e w' ⟨rfl, rfl⟩)
                        | (go_at_call_of 19 (Value.pointer (some ⟨p, 0, none⟩)); refine (below_any p L _ _ _ HA.out).mono ?_; rintro e w' ⟨rfl, rfl⟩; rw [hbv])
                        | (go_at_call_of 19 (Value.pointer (some ⟨p2, 0, none⟩)); refine (below_any p2 L _ _ _ HA2.out).mono ?_; rintro e w' ⟨rfl, rfl⟩; rw [hbv]))
                      go_roundw
                      case rel => exact ⟨k4 + 1, by omega, by go_num, by trivial⟩
                      case measure => simp [intOf]; omega
                    · obtain rfl : k4 = n := by omega
                      go_wp2_with (go_at_call 23; refine (len_any p L _ HA.out).mono ?_; rintro e w' ⟨rfl, rfl⟩)
                      go_roundw
                      case rel => exact ⟨k3 + 1, by omega, by go_num, by trivial⟩
                      case measure => simp [intOf]; omega
                · obtain rfl : k3 = n := by omega
                  go_wp2_with (go_at_call 23; refine (len_any p L _ HA.out).mono ?_; rintro e w' ⟨rfl, rfl⟩)
                  go_ret
                  exact ⟨ret_bool rfl, HEND.out⟩
    · have hc0 : ∃ c, newE names pairs = c := ⟨_, rfl⟩
      obtain ⟨ce, hce⟩ := hc0
      rw [hce] at hE
      obtain ⟨rfl, hB2⟩ := hP.no hce hE
      have hb : (ce != 0) = true := by simpa using hE
      have HB2 := Lib.hid (HB.out.trans (hB2.mono HB.out.size))
      clear hP hE hB2 hce
      go_wp2_with fail
      go_ret
      exact ⟨ret_bool rfl, HB2.out⟩
end Go.Proofs.Ytkgkhakjodlpgaa
