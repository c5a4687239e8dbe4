/- The walk of LevelsMake. -/
import Derived.Test.YtkgkhakjodlpgaaMakeSt
namespace Go.Proofs.Ytkgkhakjodlpgaa
open Go.RowKit

theorem covers_len {L : LatD} (h : L.names.length ≤ 16) : (covers L).length ≤ 1000 := by
  have h1 : ∀ k, (coverTo L k).length ≤ k * L.names.length := by
    intro k
    induction k with
    | zero => simp [coverTo]
    | succ k ih =>
      have h2 := coverRow_len L k L.names.length
      unfold coverTo at ih ⊢
      rw [List.range_succ, List.flatMap_append, List.length_append, Nat.add_mul, Nat.one_mul]
      simp only [List.flatMap_cons, List.flatMap_nil, List.append_nil]
      omega
  have h2 := h1 L.names.length
  have h3 : L.names.length * L.names.length ≤ 16 * 16 := Nat.mul_le_mul h h
  unfold covers
  omega

set_option maxRecDepth 100000 in
set_option maxHeartbeats 8000000 in
theorem levelsMake_walk (A : Option Addr) (n c : Nat) (names : List ByteArray) (B : Option Addr) (m c2 : Nat) (pairs : List (ByteArray × ByteArray)) (s : ByteArray) (x y : Int) (w : World)
    (hn : names.length = n) (hc : n ≤ c) (hcl : c ≤ 9223372036854775807) (hr : Rd w A (names.map Value.string)) (hm : pairs.length = m) (_ : m ≤ c2) (_ : c2 ≤ 9223372036854775807) (hrp : Rd w B (strs2 pairs)) (_ : s.size ≤ maxLen)
    (hx : -9223372036854775808 ≤ x ∧ x ≤ 9223372036854775807) (hy : -9223372036854775808 ≤ y ∧ y ≤ 9223372036854775807) :
    Calls Try.prog 7 #[.slice A n c, .slice B m c2, .string s, .int .i64 x, .int .i64 y] w fun e w' => e = .returned (.bool true) ∧ Below w.heap.size w w' := by
  subst hn
  have HM := Lib.hid hm; have HR := Lib.hid hr; have HRP := Lib.hid hrp; clear hm hr hrp
  obtain ⟨hx1, hx2⟩ := hx; obtain ⟨hy1, hy2⟩ := hy
  go_enter Try.func7, Try.ntmps7
  go_wp2_with fail
  refine (shown_any _).mono ?_
  rintro e w1 ⟨rfl, hB⟩
  have HB := Lib.hid hB; clear hB
  have HR1 := Lib.hid (HR.out.below HB.out); have HRP1 := Lib.hid (HRP.out.below HB.out)
  go_wp2_with fail
  refine (small_any _ _ _ _ _ _ names pairs _ rfl HR1.out HM.out HRP1.out).mono ?_
  rintro e w' ⟨rfl, rfl⟩
  cases hs : smallB names pairs with
  | false =>
    go_wp2_with fail
    go_ret
    exact ⟨ret_bool rfl, HB.out⟩
  | true =>
    by_cases hlen : s.size ≤ 100
    · have q1 : decide ((100 : Int) < (s.size : Int)) = false := decide_eq_false (by omega)
      obtain ⟨s1, s2, s3, s4⟩ := smallB_yes hs
      have hss : Hid (ShortS names) := fun s h => by have := s3 s h; omega
      have l1 : Hid (names.length ≤ 140737488355328) := by show _ ≤ _; omega
      have l2 : Hid (m ≤ 140737488355328) := by show _ ≤ _; rw [← HM.out]; omega
      clear s1 s2 s3 s4 hs
      go_wp2_with fail
      refine (new_any _ _ _ _ _ _ names pairs _ rfl hc hcl HR1.out hss.out l1.out HM.out HRP1.out l2.out).mono ?_
      rintro e w2 hP
      have HNV : Hid (∀ w2 : World, Below w1.heap.size w1 w2 → Calls Try.prog 27 #[.slice A names.length c, .slice B m c2] w2 fun e w' => RNewPost w2 w' A c names pairs e) := fun w2 hb =>
        rnew_any A B c c2 names.length m names pairs w2 rfl hc hcl (HR1.out.below hb) l1.out HM.out (HRP1.out.below hb) l2.out (named_ev hss.out) (fun h U s => place_ev h U s) (fun h1 h2 h3 U hS => hS.lattice_ev h2 h1 h3)
      clear q1
      by_cases hE : newE names pairs = 0
      · obtain ⟨p, rfl, hp, HL, hB2⟩ := hP.yes hE
        have HB2 := Lib.hid hB2
        have hst : Hid (St w p (newL names pairs) w2) := ⟨HL.out, HB.out.trans (hB2.mono HB.out.size), Nat.le_trans HB.out.size hp⟩
        have HE := Lib.hid hE
        clear hP hp HL hB2 hE
        go_wp2_with fail
        refine (HNV.out w2 HB2.out).mono ?_
        rintro e w3 ⟨hb3, h3⟩
        rcases h3 with ⟨_, q, g, r, cap, U, he, hq, hRL, hSh⟩ | ⟨h4, _⟩
        · obtain rfl : e = .returned (.tuple #[.pointer (some ⟨q, 0, none⟩), .int .i64 0]) := he
          have HM2 : Hid (M2 w p q g r A c cap names pairs U w3) := ⟨⟨hst.out.1.below hb3, hst.out.2.1.trans (hb3.mono hst.out.2.1.size), hst.out.2.2⟩, hRL.1, HR.out, HE.out, hSh⟩
          clear hst hb3 hq hRL hSh HB2 HB HR1 HRP1 HRP HNV hss l1 l2
          go_wp2_with (first | (go_at_call 28; refine (name_any s _ (by omega)).mono ?_; rintro e wx ⟨rfl, hbx⟩; replace HM2 := Lib.hid (HM2.out.later hbx); clear hbx) | (go_at_call 29; refine (rname_any s _ (by omega)).mono ?_; rintro e wx ⟨rfl, hbx⟩; replace HM2 := Lib.hid (HM2.out.later hbx); clear hbx))
          have hle := HM2.out.le
          have hpos := HM2.out.pos
          have hcl3 := covers_len (L := newL names pairs) hle
          go_loopw [17] (fun i wr => ∃ a : Int, -1 ≤ a ∧ a ≤ (names.length : Int) + 1 ∧ i = .int .i64 a ∧ Hid (M2 w p q g r A c cap names pairs U wr)) (fun i _ => ((names.length : Int) + 1 - intOf i).toNat)
          case atStart => exact ⟨-1, by omega, by omega, rfl, HM2⟩
          case round =>
            clear HM2
            obtain ⟨a, ha0, ha1, rfl, HM2⟩ := hrel
            by_cases hla : a ≤ (names.length : Int)
            · go_wp2_with fail
              obtain ⟨wy, rfl⟩ : ∃ wy : World, wy = wr := ⟨_, rfl⟩
              go_loopw [18] (fun i wr => ∃ b : Int, -1 ≤ b ∧ b ≤ (names.length : Int) + 1 ∧ i = .int .i64 b ∧ Hid (M2 w p q g r A c cap names pairs U wr)) (fun i _ => ((names.length : Int) + 1 - intOf i).toNat)
              case atStart => exact ⟨-1, by omega, by omega, rfl, HM2⟩
              case round =>
                clear HM2
                obtain ⟨b, hb0, hb1, rfl, HM2⟩ := hrel
                by_cases hlb : b ≤ (names.length : Int)
                · go_wp2_with (first
        | (go_at_call 19; refine (mc_below HM2.out _ _).mono ?_; rintro e wx ⟨rfl, HM2⟩)
        | (go_at_call 30; refine (mr_below HM2.out _ _).mono ?_; rintro e wx ⟨rfl, HM2⟩)
        | (go_at_call 17; refine (mc_join HM2.out _ _).mono ?_; rintro e wx ⟨rfl, HM2⟩)
        | (go_at_call 31; refine (mr_join HM2.out _ _).mono ?_; rintro e wx ⟨rfl, HM2⟩)
        | (go_at_call 18; refine (mc_meet HM2.out _ _).mono ?_; rintro e wx ⟨rfl, HM2⟩)
        | (go_at_call 32; refine (mr_meet HM2.out _ _).mono ?_; rintro e wx ⟨rfl, HM2⟩))
                  go_roundw
                  case rel => exact ⟨b + 1, by omega, by omega, by go_num, HM2⟩
                  case measure => simp [intOf]; omega
                · have q2 : decide (b ≤ (names.length : Int)) = false := decide_eq_false hlb
                  go_wp2_with fail
                  go_roundw
                  case rel => exact ⟨a + 1, by omega, by omega, by go_num, HM2⟩
                  case measure => simp [intOf]; omega
            · have q2 : decide (a ≤ (names.length : Int)) = false := decide_eq_false hla
              go_upto_region 20 with (first
        | (go_at_call 19; refine (mc_below HM2.out _ _).mono ?_; rintro e wx ⟨rfl, HM2⟩)
        | (go_at_call 30; refine (mr_below HM2.out _ _).mono ?_; rintro e wx ⟨rfl, HM2⟩)
        | (go_at_call 17; refine (mc_join HM2.out _ _).mono ?_; rintro e wx ⟨rfl, HM2⟩)
        | (go_at_call 31; refine (mr_join HM2.out _ _).mono ?_; rintro e wx ⟨rfl, HM2⟩)
        | (go_at_call 18; refine (mc_meet HM2.out _ _).mono ?_; rintro e wx ⟨rfl, HM2⟩)
        | (go_at_call 32; refine (mr_meet HM2.out _ _).mono ?_; rintro e wx ⟨rfl, HM2⟩))
              go_wp2_with (first
        | (go_at_call 23; refine (mc_len HM2.out).mono ?_; rintro e wx ⟨rfl, HM2⟩)
        | (go_at_call 34; refine (mc_names HM2.out).mono ?_; rintro e wx ⟨bn, cn2, rfl, HM2, HRN, hcn⟩)
        | (go_at_call 33; refine (texts_any _ _ _ _ names _ hcn hc HRN.out (HM2.out.rd.below HM2.out.st.below) HM2.out.le).mono ?_; rintro e wx ⟨rfl, hbx⟩; replace HM2 := Lib.hid (HM2.out.later hbx); clear hbx HRN)
        | (go_at_call 24; refine (mc_place HM2.out _).mono ?_; rintro e wx ⟨rfl, HM2⟩)
        | (go_at_call 35; refine (mr_place HM2.out _).mono ?_; rintro e wx ⟨rfl, HM2⟩)
        | (go_at_call 21; refine (mc_bottom HM2.out).mono ?_; rintro e wx ⟨rfl, HM2⟩)
        | (go_at_call 36; refine (mr_bottom HM2.out).mono ?_; rintro e wx ⟨rfl, HM2⟩)
        | (go_at_call 20; refine (mc_top HM2.out).mono ?_; rintro e wx ⟨rfl, HM2⟩)
        | (go_at_call 37; refine (mr_top HM2.out).mono ?_; rintro e wx ⟨rfl, HM2⟩)
        | (go_at_call 25; refine (mc_covers HM2.out).mono ?_; rintro e wx ⟨bc, cc1, rfl, HM2, HRC⟩)
        | (go_at_call 38; refine (mr_covers HM2.out HRC.out).mono ?_; rintro e wx ⟨bd, cc3, rfl, HM2, HRC, HRD⟩)
        | (go_at_call 26; refine (samePairs_any _ _ _ _ _ (covers (newL names pairs)) _ rfl HRC.out HRD.out hcl3).mono ?_; rintro e wx ⟨rfl, kx, rfl⟩; replace HM2 := Lib.hid (HM2.out.later (below_drewN (Below.refl _ _) kx))))
              go_ret
              exact ⟨ret_bool rfl, HM2.out.st.below⟩
        · exact absurd HE.out h4
      · have hc0 : ∃ c, newE names pairs = c := ⟨_, rfl⟩
        obtain ⟨ce, hce⟩ := hc0
        rw [hce] at hE
        obtain ⟨rfl, hB2⟩ := hP.no hce hE
        have HCE := Lib.hid hce
        have HBX := Lib.hid (HB.out.trans (hB2.mono HB.out.size))
        have HB2 := Lib.hid hB2
        clear hP hB2 hce
        go_wp2_with fail
        refine (HNV.out w2 HB2.out).mono ?_
        rintro e w3 ⟨hb3, h3⟩
        rcases h3 with ⟨h4, _⟩ | ⟨h4, he⟩
        · exact absurd (HCE.out.symm.trans h4) hE
        · rw [HCE.out] at he
          obtain rfl : e = .returned (.tuple #[.pointer none, .int .i64 ce]) := he
          have HBY := Lib.hid (HBX.out.trans (hb3.mono HBX.out.size))
          clear hb3 h4 HBX HB2 HB HR1 HRP1 HRP HNV hss l1 l2 HCE
          go_wp2_with (first | (go_at_call 28; refine (name_any s _ (by omega)).mono ?_; rintro e wx ⟨rfl, hbx⟩; replace HBY := Lib.hid (HBY.out.trans (hbx.mono HBY.out.size)); clear hbx) | (go_at_call 29; refine (rname_any s _ (by omega)).mono ?_; rintro e wx ⟨rfl, hbx⟩; replace HBY := Lib.hid (HBY.out.trans (hbx.mono HBY.out.size)); clear hbx))
          go_ret
          exact ⟨ret_bool rfl, HBY.out⟩
    · have q1 : decide ((100 : Int) < (s.size : Int)) = true := decide_eq_true (by omega)
      go_wp2_with fail
      go_ret
      exact ⟨ret_bool rfl, HB.out⟩
end Go.Proofs.Ytkgkhakjodlpgaa
