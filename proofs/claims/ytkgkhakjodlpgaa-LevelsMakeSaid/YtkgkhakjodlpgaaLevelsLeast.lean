/- The walk of LevelsLeast. -/
import Derived.Test.YtkgkhakjodlpgaaSt
import Derived.Test.YtkgkhakjodlpgaaPLeast
import Derived.Deep.CutBlock
import Derived.Deep.DeepCutAuto
namespace Go.Proofs.Ytkgkhakjodlpgaa
open Go.RowKit

theorem covers_st {w0 w : World} (p : Nat) (L : LatD) (h : St w0 p L w) :
    Calls Try.prog 25 #[.pointer (some ⟨p, 0, none⟩)] w fun e w' => ∃ A cap, e = .returned (.slice A (covers L).length cap) ∧ (covers L).length ≤ cap ∧ cap ≤ maxLen ∧ Hid (Rd w' A (pairsV (covers L))) ∧ St w0 p L w' :=
  (covers_any p L w h.1).mono fun e w' ⟨v', he, hO, hB⟩ => by
    obtain ⟨a, cap, rfl, h1, h2, h3⟩ := owns_form hO.out
    exact ⟨a, cap, he, h1, h2, h3, h.1.below hB, h.2.1.trans (hB.mono h.2.1.size), h.2.2⟩

theorem St.drewN {w0 w : World} {p : Nat} {L : LatD} (h : St w0 p L w) (n : Nat) : St w0 p L (w.drewN n) := ⟨h.1.drewN n, below_drewN h.2.1 n, h.2.2⟩

theorem covers_small (L : LatD) (h : L.names.length ≤ 16) : (covers L).length ≤ 256 := by
  have h1 := coverTo_len L L.names.length
  have h3 : L.names.length * L.names.length ≤ 16 * 16 := Nat.mul_le_mul h h
  unfold covers; omega

set_option maxRecDepth 100000 in
set_option maxHeartbeats 8000000 in
theorem levelsLeast_walk (A : Option Addr) (n c : Nat) (names : List ByteArray) (B : Option Addr) (m c2 : Nat) (pairs : List (ByteArray × ByteArray)) (x y z : Int) (w : World)
    (hn : names.length = n) (hc : n ≤ c) (hcl : c ≤ 9223372036854775807) (hr : Rd w A (names.map Value.string)) (hm : pairs.length = m) (_ : m ≤ c2) (_ : c2 ≤ 9223372036854775807) (hrp : Rd w B (strs2 pairs))
    (hx : -9223372036854775808 ≤ x ∧ x ≤ 9223372036854775807) (hy : -9223372036854775808 ≤ y ∧ y ≤ 9223372036854775807) (hz : -9223372036854775808 ≤ z ∧ z ≤ 9223372036854775807) :
    Calls Try.prog 6 #[.slice A n c, .slice B m c2, .int .i64 x, .int .i64 y, .int .i64 z] w fun e w' => e = .returned (.bool true) ∧ Below w.heap.size w w' := by
  have HN := Lib.hid hn; have HM := Lib.hid hm; have HR := Lib.hid hr; have HRP := Lib.hid hrp; clear hn hm hr hrp
  obtain ⟨hx1, hx2⟩ := hx; obtain ⟨hy1, hy2⟩ := hy; obtain ⟨hz1, hz2⟩ := hz
  go_enter Try.func6, Try.ntmps6
  go_wp2_with fail
  refine (shown_any _).mono ?_
  rintro e w1 ⟨rfl, hB⟩
  have HB := Lib.hid hB; clear hB
  have HR1 := Lib.hid (HR.out.below HB.out); have HRP1 := Lib.hid (HRP.out.below HB.out)
  go_wp2_with fail
  refine (small_any _ _ _ _ _ _ names pairs _ HN.out HR1.out HM.out HRP1.out).mono ?_
  rintro e w' ⟨rfl, rfl⟩
  cases hs : smallB names pairs with
  | false =>
    go_wp2_with fail
    go_ret
    exact ⟨ret_bool rfl, HB.out⟩
  | true =>
    obtain ⟨s1, s2, s3, s4⟩ := smallB_yes hs
    have hss : Hid (ShortS names) := fun s h => by have := s3 s h; omega
    have l1 : Hid (names.length ≤ 140737488355328) := by show _ ≤ _; omega
    have l2 : Hid (m ≤ 140737488355328) := by show _ ≤ _; rw [← HM.out]; omega
    clear s1 s2 s3 s4 hs
    go_wp2_with fail
    refine (new_any _ _ _ _ _ _ names pairs _ HN.out hc hcl HR1.out hss.out l1.out HM.out HRP1.out l2.out).mono ?_
    rintro e w2 hP
    by_cases hE : newE names pairs = 0
    · obtain ⟨p, rfl, hp, HL, hB2⟩ := hP.yes hE
      have HF : Hid (IsLat (newL names pairs)) := newL_lat hE
      have hst : St w p (newL names pairs) w2 := ⟨HL.out, HB.out.trans (hB2.mono HB.out.size), Nat.le_trans HB.out.size hp⟩
      have hpos := HF.out.pos; have hle := HF.out.le
      clear hP hE hp HL hB2 HR HRP HR1 HRP1 HB hss l1 l2 HN HM hc hcl
      generalize newL names pairs = L at *
      obtain ⟨a, ha⟩ : ∃ a, pickI x L.names.length = a := ⟨_, rfl⟩
      obtain ⟨b, hb⟩ : ∃ b, pickI y L.names.length = b := ⟨_, rfl⟩
      obtain ⟨cc, hcc⟩ : ∃ c, pickI z L.names.length = c := ⟨_, rfl⟩
      have ra := pickI_range x (n := (L.names.length : Int)) (by omega)
      have rb := pickI_range y (n := (L.names.length : Int)) (by omega)
      have rc := pickI_range z (n := (L.names.length : Int)) (by omega)
      rw [ha] at ra; rw [hb] at rb; rw [hcc] at rc
      obtain ⟨cc, rfl⟩ := Int.eq_ofNat_of_zero_le rc.1
      have hcn : Hid (cc < L.names.length) := by have := rc.2; show _ < _; omega
      have HFF := Lib.hid (leastFacts HF.out ra.1 ra.2 rb.1 rb.2 rc.1 rc.2)
      have HA := Lib.hid ha; have HBB := Lib.hid hb; have HC := Lib.hid hcc
      clear ha hb hcc ra rb rc
      go_wp2_with (first
        | (go_at_call 23; refine (len_st p L (by assumption)).mono ?_; rintro e w' ⟨rfl, rfl⟩))
      refine (pick_any x _ _ hx1 hx2 (by omega) (by omega)).mono ?_
      rintro e w' ⟨rfl, rfl⟩
      rw [HA.out]
      go_wp2_with (first
        | (go_at_call 23; refine (len_st p L (by assumption)).mono ?_; rintro e w' ⟨rfl, rfl⟩))
      refine (pick_any y _ _ hy1 hy2 (by omega) (by omega)).mono ?_
      rintro e w' ⟨rfl, rfl⟩
      rw [HBB.out]
      go_wp2_with (first
        | (go_at_call 23; refine (len_st p L (by assumption)).mono ?_; rintro e w' ⟨rfl, rfl⟩))
      refine (pick_any z _ _ hz1 hz2 (by omega) (by omega)).mono ?_
      rintro e w' ⟨rfl, rfl⟩
      rw [HC.out]
      clear HA HBB HC hx1 hx2 hy1 hy2 hz1 hz2
      have f1 := HFF.out.j1; have f2 := HFF.out.j2; have f3 := HFF.out.m1; have f4 := HFF.out.m2
      have fj : (belowB L a cc = false ∨ belowB L a cc = true ∧ belowB L b cc = false) ∨ belowB L a cc = true ∧ belowB L b cc = true ∧ belowB L (joinI L a b) cc = true := by
        cases h1 : belowB L a cc with
        | false => exact .inl (.inl rfl)
        | true => cases h2 : belowB L b cc with
          | false => exact .inl (.inr ⟨rfl, rfl⟩)
          | true => exact .inr ⟨rfl, rfl, HFF.out.j3 h1 h2⟩
      have fm : (belowB L cc a = false ∨ belowB L cc a = true ∧ belowB L cc b = false) ∨ belowB L cc a = true ∧ belowB L cc b = true ∧ belowB L cc (meetI L a b) = true := by
        cases h1 : belowB L cc a with
        | false => exact .inl (.inl rfl)
        | true => cases h2 : belowB L cc b with
          | false => exact .inl (.inr ⟨rfl, rfl⟩)
          | true => exact .inr ⟨rfl, rfl, HFF.out.m3 h1 h2⟩
      have FM := Lib.hid fm; clear fm HFF
      go_upto_region 13 with (first
        | (go_at_call 17; refine (join_st p L _ _ (by assumption)).mono ?_; rintro e w3 ⟨rfl, HS3⟩)
        | (go_at_call 18; refine (meet_st p L _ _ (by assumption)).mono ?_; rintro e w4 ⟨rfl, HS4⟩))
      go_cut [20] (fun s wx => s = .bool true ∧ w4 = wx)
      case first =>
        rcases fj with (h1 | ⟨h1, h2⟩) | ⟨h1, h2, h3⟩
        all_goals
          go_wp2_with (go_at_call 19; refine (below_st p L _ _ (by assumption)).mono ?_; rintro e w' ⟨rfl, rfl⟩)
          go_meet
          exact ⟨rfl, rfl⟩
      case rest =>
      obtain ⟨rfl, rfl⟩ := hcut
      have fm := FM.out; clear FM
      go_upto_region 14 with fail
      go_cut [21] (fun s wx => s = .bool true ∧ w4 = wx)
      case first =>
        rcases fm with (h1 | ⟨h1, h2⟩) | ⟨h1, h2, h3⟩
        all_goals
          go_wp2_with (go_at_call 19; refine (below_st p L _ _ (by assumption)).mono ?_; rintro e w' ⟨rfl, rfl⟩)
          go_meet
          exact ⟨rfl, rfl⟩
      case rest =>
      obtain ⟨rfl, rfl⟩ := hcut
      clear fj fm f1 f2 f3 f4
      go_wp2_with (go_at_call 25; refine (covers_st p L (by assumption)).mono ?_; rintro e w5 ⟨K, ck, rfl, hck, hcm, HK, HS5⟩)
      have hcs := covers_small L hle
      obtain ⟨kn, hkn⟩ : ∃ kn, (covers L).length = kn := ⟨_, rfl⟩
      rw [hkn] at hcs hck ⊢
      have HKN := Lib.hid hkn
      clear hkn HS3 HS4 hst
      go_loopw [23] (fun i wr => ∃ k : Nat, k ≤ kn ∧ i = .int .i64 k ∧ Hid (Rd wr K (pairsV (covers L))) ∧ Hid (St w p L wr)) (fun i _ => kn - (intOf i).toNat)
      case atStart => exact ⟨0, Nat.zero_le _, rfl, HK, HS5⟩
      case round =>
        obtain ⟨k, hk, rfl, HR, HS⟩ := hrel
        by_cases hlt : k < kn
        · have hlt' : k < (covers L).length := by rw [HKN.out]; exact hlt
          obtain ⟨a1, a2⟩ := pairsV_at (covers L) hlt'
          obtain ⟨g, o, rfl, cp1⟩ := HR.out.at a1
          obtain ⟨g', o', e1, cp2⟩ := HR.out.at a2
          obtain ⟨rfl, rfl⟩ : g' = g ∧ o' = o := by simpa using e1.symm
          rw [← Nat.add_assoc] at cp2
          clear e1 a1 a2
          have hgap := covers_gap HF.out (List.getElem_mem hlt') hcn.out
          have HGAP := Lib.hid hgap
          clear hgap
          generalize (covers L)[k].1 = q1 at *
          generalize (covers L)[k].2 = q2 at *
          by_cases h1 : cc = q1
          · have b1 : ((cc : Int) != (q1 : Int)) = false := by simp [h1]
            have b2 : ((q1 : Int) != (q1 : Int)) = false := by simp
            clear h1
            go_wp2_with fail
            go_roundw
            case rel => exact ⟨k + 1, by omega, by go_num, HR, HS⟩
            case measure => simp [intOf]; omega
          · have b1 : ((cc : Int) != (q1 : Int)) = true := by simp; omega
            by_cases h2 : cc = q2
            · have b2 : ((cc : Int) != (q2 : Int)) = false := by simp [h2]
              clear h1 h2
              go_wp2_with fail
              go_roundw
              case rel => exact ⟨k + 1, by omega, by go_num, HR, HS⟩
              case measure => simp [intOf]; omega
            · have b2 : ((cc : Int) != (q2 : Int)) = true := by simp; omega
              cases h3 : belowB L q1 cc with
              | false =>
                clear h1 h2
                go_wp2_with (go_at_call 19; refine (below_any p L _ _ _ HS.out.1).mono ?_; rintro e w' ⟨rfl, rfl⟩)
                go_roundw
                case rel => exact ⟨k + 1, by omega, by go_num, HR, HS⟩
                case measure => simp [intOf]; omega
              | true =>
                have h4 := HGAP.out h1 h2 h3
                clear h1 h2
                go_wp2_with (go_at_call 19; refine (below_any p L _ _ _ HS.out.1).mono ?_; rintro e w' ⟨rfl, rfl⟩)
                go_roundw
                case rel => exact ⟨k + 1, by omega, by go_num, HR, HS⟩
                case measure => simp [intOf]; omega
        · obtain rfl : k = kn := by omega
          go_wp2_with fail
          go_ret
          exact ⟨ret_bool rfl, HS.out.below⟩
    · have hc0 : ∃ c, newE names pairs = c := ⟨_, rfl⟩
      obtain ⟨ce, hce⟩ := hc0
      rw [hce] at hE
      obtain ⟨rfl, hB2⟩ := hP.no hce hE
      have HB2 := Lib.hid (HB.out.trans (hB2.mono HB.out.size))
      clear hP hE hB2 hce
      go_wp2_with fail
      go_ret
      exact ⟨ret_bool rfl, HB2.out⟩
end Go.Proofs.Ytkgkhakjodlpgaa
