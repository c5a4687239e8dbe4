/- The walk of LevelsLaws. -/
import Derived.Test.YtkgkhakjodlpgaaSt
namespace Go.Proofs.Ytkgkhakjodlpgaa
open Go.RowKit

set_option maxRecDepth 100000 in
set_option maxHeartbeats 8000000 in
theorem levelsLaws_walk (A : Option Addr) (n c : Nat) (names : List ByteArray) (B : Option Addr) (m c2 : Nat) (pairs : List (ByteArray × ByteArray)) (x y z : Int) (w : World)
    (hn : names.length = n) (hc : n ≤ c) (hcl : c ≤ 9223372036854775807) (hr : Rd w A (names.map Value.string)) (hm : pairs.length = m) (_ : m ≤ c2) (_ : c2 ≤ 9223372036854775807) (hrp : Rd w B (strs2 pairs))
    (hx : -9223372036854775808 ≤ x ∧ x ≤ 9223372036854775807) (hy : -9223372036854775808 ≤ y ∧ y ≤ 9223372036854775807) (hz : -9223372036854775808 ≤ z ∧ z ≤ 9223372036854775807) :
    Calls Try.prog 4 #[.slice A n c, .slice B m c2, .int .i64 x, .int .i64 y, .int .i64 z] w fun e w' => e = .returned (.bool true) ∧ Below w.heap.size w w' := by
  have HN := Lib.hid hn; have HM := Lib.hid hm; have HR := Lib.hid hr; have HRP := Lib.hid hrp; clear hn hm hr hrp
  obtain ⟨hx1, hx2⟩ := hx; obtain ⟨hy1, hy2⟩ := hy; obtain ⟨hz1, hz2⟩ := hz
  go_enter Try.func4, Try.ntmps4
  go_wp2_with fail
  refine (shown_any _).mono ?_
  rintro e w1 ⟨rfl, hB⟩
  have HB := Lib.hid hB; clear hB
  have HR1 := Lib.hid (HR.out.below HB.out); have HRP1 := Lib.hid (HRP.out.below HB.out)
  go_wp2_with fail
  refine (small_any _ _ _ _ _ _ names pairs _ HN.out HR1.out HM.out HRP1.out).mono ?_
  rintro e w' ⟨rfl, rfl⟩
  cases hs : smallB names pairs with
  | false =>
    go_wp2_with fail
    go_ret
    exact ⟨ret_bool rfl, HB.out⟩
  | true =>
    obtain ⟨s1, s2, s3, s4⟩ := smallB_yes hs
    have hss : Hid (ShortS names) := fun s h => by have := s3 s h; omega
    have l1 : Hid (names.length ≤ 140737488355328) := by show _ ≤ _; omega
    have l2 : Hid (m ≤ 140737488355328) := by show _ ≤ _; rw [← HM.out]; omega
    clear s1 s2 s3 s4 hs
    go_wp2_with fail
    refine (new_any _ _ _ _ _ _ names pairs _ HN.out hc hcl HR1.out hss.out l1.out HM.out HRP1.out l2.out).mono ?_
    rintro e w2 hP
    by_cases hE : newE names pairs = 0
    · obtain ⟨p, rfl, hp, HL, hB2⟩ := hP.yes hE
      have HF : Hid (IsLat (newL names pairs)) := newL_lat hE
      have hst : St w p (newL names pairs) w2 := ⟨HL.out, HB.out.trans (hB2.mono HB.out.size), Nat.le_trans HB.out.size hp⟩
      have hpos := HF.out.pos; have hle := HF.out.le
      clear hP hE hp HL hB2 HR HRP HR1 HRP1 HB hss l1 l2 HN HM hc hcl
      generalize newL names pairs = L at *
      obtain ⟨a, ha⟩ : ∃ a, pickI x L.names.length = a := ⟨_, rfl⟩
      obtain ⟨b, hb⟩ : ∃ b, pickI y L.names.length = b := ⟨_, rfl⟩
      obtain ⟨cc, hcc⟩ : ∃ c, pickI z L.names.length = c := ⟨_, rfl⟩
      have ra := pickI_range x (n := (L.names.length : Int)) (by omega)
      have rb := pickI_range y (n := (L.names.length : Int)) (by omega)
      have rc := pickI_range z (n := (L.names.length : Int)) (by omega)
      rw [ha] at ra; rw [hb] at rb; rw [hcc] at rc
      have HFF := Lib.hid (lawsFacts HF.out ra.1 ra.2 rb.1 rb.2 rc.1 rc.2)
      have HA := Lib.hid ha; have HBB := Lib.hid hb; have HC := Lib.hid hcc
      clear ha hb hcc ra rb rc HF
      go_wp2_with (first
        | (go_at_call 23; refine (len_st p L (by assumption)).mono ?_; rintro e w' ⟨rfl, rfl⟩))
      refine (pick_any x _ _ hx1 hx2 (by omega) (by omega)).mono ?_
      rintro e w' ⟨rfl, rfl⟩
      rw [HA.out]
      go_wp2_with (first
        | (go_at_call 23; refine (len_st p L (by assumption)).mono ?_; rintro e w' ⟨rfl, rfl⟩))
      refine (pick_any y _ _ hy1 hy2 (by omega) (by omega)).mono ?_
      rintro e w' ⟨rfl, rfl⟩
      rw [HBB.out]
      go_wp2_with (first
        | (go_at_call 23; refine (len_st p L (by assumption)).mono ?_; rintro e w' ⟨rfl, rfl⟩))
      refine (pick_any z _ _ hz1 hz2 (by omega) (by omega)).mono ?_
      rintro e w' ⟨rfl, rfl⟩
      rw [HC.out]
      clear HA HBB HC hx1 hx2 hy1 hy2 hz1 hz2
      have f1 : (joinI L a b == joinI L b a) = true := beq_iff_eq.2 HFF.out.f1
      have f2 : (meetI L a b == meetI L b a) = true := beq_iff_eq.2 HFF.out.f2
      have f3 : (joinI L a (joinI L b cc) == joinI L (joinI L a b) cc) = true := beq_iff_eq.2 HFF.out.f3
      have f4 : (meetI L a (meetI L b cc) == meetI L (meetI L a b) cc) = true := beq_iff_eq.2 HFF.out.f4
      have f5 : (joinI L a (meetI L a b) == a) = true := beq_iff_eq.2 HFF.out.f5
      have f6 : (meetI L a (joinI L a b) == a) = true := beq_iff_eq.2 HFF.out.f6
      have f7 := HFF.out.f7
      have f11 := HFF.out.f11
      have f12 := HFF.out.f12
      have f9 := HFF.out.f9
      have f10 := HFF.out.f10
      cases b1 : belowB L a b with
      | false =>
        rw [b1] at f9 f10
        go_wp2_with (first
        | (go_at_call 17; refine (join_st p L _ _ (by assumption)).mono ?_; rintro e w' ⟨rfl, HS'⟩)
        | (go_at_call 18; refine (meet_st p L _ _ (by assumption)).mono ?_; rintro e w' ⟨rfl, HS'⟩)
        | (go_at_call 19; refine (below_st p L _ _ (by assumption)).mono ?_; rintro e w' ⟨rfl, rfl⟩)
        | (go_at_call 21; refine (bottom_st p L (by assumption)).mono ?_; rintro e w' ⟨rfl, HS'⟩)
        | (go_at_call 20; refine (top_st p L (by assumption)).mono ?_; rintro e w' ⟨rfl, HS'⟩))
        go_ret
        exact ⟨ret_bool rfl, St.below (p := p) (L := L) (by assumption)⟩
      | true =>
        rw [b1] at f9 f10
        cases b2 : belowB L b cc with
        | false =>
          go_wp2_with (first
        | (go_at_call 17; refine (join_st p L _ _ (by assumption)).mono ?_; rintro e w' ⟨rfl, HS'⟩)
        | (go_at_call 18; refine (meet_st p L _ _ (by assumption)).mono ?_; rintro e w' ⟨rfl, HS'⟩)
        | (go_at_call 19; refine (below_st p L _ _ (by assumption)).mono ?_; rintro e w' ⟨rfl, rfl⟩)
        | (go_at_call 21; refine (bottom_st p L (by assumption)).mono ?_; rintro e w' ⟨rfl, HS'⟩)
        | (go_at_call 20; refine (top_st p L (by assumption)).mono ?_; rintro e w' ⟨rfl, HS'⟩))
          go_ret
          exact ⟨ret_bool rfl, St.below (p := p) (L := L) (by assumption)⟩
        | true =>
          have b3 := HFF.out.f8 b1 b2
          go_wp2_with (first
        | (go_at_call 17; refine (join_st p L _ _ (by assumption)).mono ?_; rintro e w' ⟨rfl, HS'⟩)
        | (go_at_call 18; refine (meet_st p L _ _ (by assumption)).mono ?_; rintro e w' ⟨rfl, HS'⟩)
        | (go_at_call 19; refine (below_st p L _ _ (by assumption)).mono ?_; rintro e w' ⟨rfl, rfl⟩)
        | (go_at_call 21; refine (bottom_st p L (by assumption)).mono ?_; rintro e w' ⟨rfl, HS'⟩)
        | (go_at_call 20; refine (top_st p L (by assumption)).mono ?_; rintro e w' ⟨rfl, HS'⟩))
          go_ret
          exact ⟨ret_bool rfl, St.below (p := p) (L := L) (by assumption)⟩
    · have hc0 : ∃ c, newE names pairs = c := ⟨_, rfl⟩
      obtain ⟨ce, hce⟩ := hc0
      rw [hce] at hE
      obtain ⟨rfl, hB2⟩ := hP.no hce hE
      have hb : (ce != 0) = true := by simpa using hE
      have HB2 := Lib.hid (HB.out.trans (hB2.mono HB.out.size))
      clear hP hE hB2 hce
      go_wp2_with fail
      go_ret
      exact ⟨ret_bool rfl, HB2.out⟩
end Go.Proofs.Ytkgkhakjodlpgaa
