/- The document's Print, walked. -/
import Derived.Test.YtckpffkofeoinaaGreatDoorZPol
import Derived.Test.YtckpffkofeoinaaGreatDoorRefCov
namespace Go.Proofs.YtckpffkofeoinaaGreatDoor
open Go.RowKit Go.Maps Go.Proofs.YtckpffkofeoinaaGreatDoor.Lr

def bNL : ByteArray := ⟨#[10]⟩
theorem line_level_eq (l : List UInt8) (x : ByteArray) : mkB (l ++ lineP [bLevel, x]) = mkB l ++ ⟨#[108, 101, 118, 101, 108, 32]⟩ ++ x ++ ⟨#[10]⟩ := by
  apply data_inj; rw [data_mkB]; simp [lineP, Lib.join, bLevel, data_mkB, mkB]
theorem line_below_eq (l : List UInt8) (x y : ByteArray) : mkB (l ++ lineP [bBelow, x, y]) = mkB l ++ ⟨#[98, 101, 108, 111, 119, 32]⟩ ++ x ++ ⟨#[32]⟩ ++ y ++ ⟨#[10]⟩ := by
  apply data_inj; rw [data_mkB]; simp [lineP, Lib.join, bBelow, data_mkB, mkB]
theorem line_channel_eq (l : List UInt8) (x y : ByteArray) : mkB (l ++ lineP [bChannel, x, y]) = mkB l ++ ⟨#[99, 104, 97, 110, 110, 101, 108, 32]⟩ ++ x ++ ⟨#[32]⟩ ++ y ++ ⟨#[10]⟩ := by
  apply data_inj; rw [data_mkB]; simp [lineP, Lib.join, bChannel, data_mkB, mkB]

set_option maxRecDepth 100000 in
set_option maxHeartbeats 4000000 in
theorem dprint_any (q : Nat) (r : RS) (w : World) (h : DPol w q r) (h0 : newE r.names r.below = 0) (hsz : (chansL r).length ≤ 1000000) (hlen : (printB r).length ≤ 1000000) (hnm : ∀ x ∈ r.names, x.size ≤ 1000000) (hch : ∀ x ∈ chansL r, x.size ≤ 1000000) (hlv : ∀ x ∈ chansL r, levelN r x < r.names.length) :
    Calls Tryz.prog 14 #[.pointer (some ⟨q, 0, none⟩)] w fun e w' => e = .returned (.string (mkB (printB r))) ∧ Hid (Below w.heap.size w w') := by
  obtain ⟨ql, g, rr, A, cn, cap, U, vc, vp, h1, h2, h3, h4, h5⟩ := h
  have hcov : rcovers U r.names.length = covs r := h3.covers h0
  have HCV : Hid (∀ wr : World, Below w.heap.size w wr → Calls Tryz.prog 34 #[.pointer (some ⟨ql, 0, none⟩)] wr fun e w' => ∃ v', e = .returned v' ∧ Hid (w'.ownsRow wr.heap.size 82 2 v' (covs r).length (pairsV (covs r))) ∧ Below wr.heap.size wr w') := fun wr hb => by
    have := rcovers_any (h2.below hb); rwa [hcov] at this
  obtain ⟨c0, c1, c2, _, _⟩ := cell_in h1
  have hst := h2.1.st
  have hn16 := h2.2.2
  have e0 : w.cell? ⟨ql, 0, none⟩ = some (.slice A r.names.length cn) := by simp [World.cell?, hst]
  have HRN := Lib.hid h2.2.1
  have HLEN := Lib.hid hlen; have HNM := Lib.hid hnm
  clear hlen hnm
  go_enter Tryz.func14, Tryz.ntmps14
  go_wp2_with fail
  go_loopw [3, 4] (fun s3 s4 wr => ∃ k : Nat, k ≤ r.names.length ∧ s3 = .string (mkB (printN r k)) ∧ s4 = .int .i64 k ∧ w = wr) (fun _ s4 _ => r.names.length - (intOf s4).toNat)
  case atStart => exact ⟨0, Nat.zero_le _, rfl, rfl, rfl⟩
  case round =>
    obtain ⟨k, hk, rfl, rfl, rfl⟩ := hrel
    by_cases hlt : k < r.names.length
    · obtain ⟨gA, oA, rfl, d1⟩ := HRN.out.at (j := k) (v := Value.string r.names[k]) (by simp [hlt])
      have hnx : printN r (k + 1) = printN r k ++ lineP [bLevel, r.names[k]] := flat_succ _ _ hlt
      have hll : (mkB (printN r k)).size ≤ 1000000 := by
        rw [mkB_size]
        have h1 := flat_le lineN r.names k
        have h2 := HLEN.out
        unfold printB at h2
        rw [List.length_append] at h2
        unfold printN
        omega
      have hxs : (r.names[k]).size ≤ 1000000 := HNM.out _ (List.getElem_mem hlt)
      have heq := line_level_eq (printN r k) r.names[k]
      rw [← hnx] at heq
      have HEQ := Lib.hid heq
      clear hnx heq
      generalize r.names[k] = x at *
      generalize mkB (printN r k) = acc at *
      go_wp2
      go_roundw
      case rel => exact ⟨k + 1, by omega, by rw [HEQ.out], by go_num, trivial⟩
      case measure => simp [intOf] <;> omega
    · obtain rfl : k = r.names.length := by omega
      have hpn : printN r r.names.length = r.names.flatMap lineN := by unfold printN; rw [List.take_length]
      have HDP : Hid (DPol w q r) := ⟨ql, g, rr, A, cn, cap, U, vc, vp, h1, h2, h3, h4, h5⟩
      have H2 := Lib.hid h2; have H1 := Lib.hid h1; have H4 := Lib.hid h4; have H5 := Lib.hid h5
      clear h1 h2 h3 h4 h5 hst
      go_wp2_with (go_at_call 34; refine (HCV.out _ (Below.refl _ _)).mono ?_; rintro e w3 ⟨v3, rfl, HO3, hb3⟩; have HB3 := Lib.hid hb3; obtain ⟨ac, cc, rfl, hcc1, hcc2, hcc3⟩ := owns_form HO3.out; have HRC := Lib.hid hcc3; clear hcc3 hb3)
      clear HCV
      have hcn : (covs r).length ≤ 1000000 := by have := coverTo_len (newL r.names r.below) r.names.length; have h2 : r.names.length * (newL r.names r.below).names.length ≤ 16 * 16 := Nat.mul_le_mul hn16 hn16; show (coverTo (newL r.names r.below) r.names.length).length ≤ _; omega
      obtain ⟨nC, hnC⟩ : ∃ n, (covs r).length = n := ⟨_, rfl⟩
      rw [hnC] at hcc1 hcn ⊢
      have HNC := Lib.hid hnC; clear hnC
      go_loopw [3, 6] (fun s3 s6 wr => ∃ k : Nat, k ≤ nC ∧ s3 = .string (mkB (printN r r.names.length ++ printC r k)) ∧ s6 = .int .i64 k ∧ Hid (Below w3.heap.size w3 wr)) (fun _ s6 _ => nC - (intOf s6).toNat)
      case atStart => exact ⟨0, Nat.zero_le _, by rw [show printC r 0 = [] from rfl, List.append_nil, hpn], rfl, Below.refl _ _⟩
      case round =>
        obtain ⟨k, hk, rfl, rfl, HBr⟩ := hrel
        have HBw := Lib.hid (HB3.out.trans (HBr.out.mono HB3.out.size))
        by_cases hlt : k < nC
        · have hlt' : k < (covs r).length := by rw [HNC.out]; exact hlt
          obtain ⟨gC, oC, rfl, d1, d2⟩ := (HRC.out.below HBr.out).pair hlt'
          obtain ⟨m1, m2, _⟩ := covers_mem (List.getElem_mem hlt')
          have hnx : printC r (k + 1) = printC r k ++ lineP [bBelow, nameAt r (covs r)[k].1, nameAt r (covs r)[k].2] := flat_succ _ _ hlt'
          have hm1 : (covs r)[k].1 < r.names.length := m1
          have hm2 : (covs r)[k].2 < r.names.length := m2
          clear m1 m2
          have hll : (mkB (printN r r.names.length ++ printC r k)).size ≤ 1000000 := by
            rw [mkB_size]
            have h1 := flat_le (lineC r) (covs r) k
            have h2 := HLEN.out
            unfold printB at h2
            rw [List.length_append, List.length_append] at h2
            rw [List.length_append, hpn]
            unfold printC
            omega
          generalize (covs r)[k].1 = q1 at *
          generalize (covs r)[k].2 = q2 at *
          obtain ⟨ga, oa, rfl, n1⟩ := (HRN.out.below HBw.out).at (j := q1) (v := .string (nameAt r q1)) (by rw [List.getElem?_map, List.getElem?_eq_getElem hm1]; unfold nameAt; rw [List.getD_eq_getElem?_getD, List.getElem?_eq_getElem hm1]; rfl)
          obtain ⟨ga', oa', e1, n2⟩ := (HRN.out.below HBw.out).at (j := q2) (v := .string (nameAt r q2)) (by rw [List.getElem?_map, List.getElem?_eq_getElem hm2]; unfold nameAt; rw [List.getD_eq_getElem?_getD, List.getElem?_eq_getElem hm2]; rfl)
          obtain ⟨rfl, rfl⟩ : ga' = ga ∧ oa' = oa := by simpa using e1.symm
          have hx1 : (nameAt r q1).size ≤ 1000000 := HNM.out _ (by unfold nameAt; rw [List.getD_eq_getElem?_getD, List.getElem?_eq_getElem hm1]; exact List.getElem_mem hm1)
          have hx2 : (nameAt r q2).size ≤ 1000000 := HNM.out _ (by unfold nameAt; rw [List.getD_eq_getElem?_getD, List.getElem?_eq_getElem hm2]; exact List.getElem_mem hm2)
          have heq := line_below_eq (printN r r.names.length ++ printC r k) (nameAt r q1) (nameAt r q2)
          rw [List.append_assoc, ← hnx] at heq
          have HEQ := Lib.hid heq
          have hh1 := (HBw.out.block _ (lt_of_block H1.out)).trans H1.out
          have hh2 := (HBw.out.block _ (lt_of_block H2.out.1.st)).trans H2.out.1.st
          obtain ⟨f0, f1, f2, _, _⟩ := cell_in hh1
          have g0 : wr.cell? ⟨ql, 0, none⟩ = some (.slice (some ⟨ga', oa', none⟩) r.names.length cn) := by simp [World.cell?, hh2]
          clear hnx heq hh1 hh2 e1
          generalize nameAt r q1 = t1 at *
          generalize nameAt r q2 = t2 at *
          generalize mkB (printN r r.names.length ++ printC r k) = acc at *
          go_upto_region 10 with fail
          go_quiet (fail)
          go_wp2
          go_roundw
          case rel => exact ⟨k + 1, by omega, by rw [HEQ.out], by go_num, below_drewN HBr.out _⟩
          case measure => simp [intOf] <;> omega
        · obtain rfl : k = nC := by omega
          have hpc : printC r k = (covs r).flatMap (lineC r) := by unfold printC; rw [← HNC.out, List.take_length]
          have hh1 := (HBw.out.block _ (lt_of_block H1.out)).trans H1.out
          obtain ⟨f0, f1, f2, _, _⟩ := cell_in hh1
          clear hh1
          obtain ⟨ax, cx, rfl, hx1, hx2, hx3⟩ := owns_form H4.out
          obtain ⟨ap, cp, rfl, hp1, hp2, hp3⟩ := owns_form H5.out
          have HRX := Lib.hid hx3; have HRP := Lib.hid hp3
          clear hx3 hp3
          obtain ⟨nX, hnX⟩ : ∃ n, (chansL r).length = n := ⟨_, rfl⟩
          rw [hnX] at f1 f2 hx1 hp1 hsz c1 c2 H1
          have HNX := Lib.hid hnX; clear hnX
          rw [hpn, hpc]
          have HB0 := Lib.hid HBw.out
          clear HBw HBr
          go_wp2_with fail
          go_loopw [3, 7] (fun s3 s7 wx => ∃ j : Nat, j ≤ nX ∧ s3 = .string (mkB (r.names.flatMap lineN ++ (covs r).flatMap (lineC r) ++ printX r j)) ∧ s7 = .int .i64 j ∧ Hid (Below wr.heap.size wr wx)) (fun _ s7 _ => nX - (intOf s7).toNat)
          case atStart => exact ⟨0, Nat.zero_le _, by rw [show printX r 0 = [] from rfl, List.append_nil], rfl, Below.refl _ _⟩
          case round =>
            obtain ⟨j, hj, rfl, rfl, HBr⟩ := hrel
            have HBw := Lib.hid (HB0.out.trans (HBr.out.mono HB0.out.size))
            have hh1 := (HBw.out.block _ (lt_of_block H1.out)).trans H1.out
            have hh2 := (HBw.out.block _ (lt_of_block H2.out.1.st)).trans H2.out.1.st
            obtain ⟨f0, f1, f2, _, _⟩ := cell_in hh1
            have g0 : wr.cell? ⟨ql, 0, none⟩ = some (.slice A r.names.length cn) := by simp [World.cell?, hh2]
            clear hh1 hh2
            by_cases hlt : j < nX
            · have hlt' : j < (chansL r).length := by rw [HNX.out]; exact hlt
              have hmem := List.getElem_mem hlt'
              have hnx : printX r (j + 1) = printX r j ++ lineP [bChannel, (chansL r)[j], nameAt r (levelN r (chansL r)[j])] := flat_succ _ _ hlt'
              obtain ⟨gx, ox, rfl, d1⟩ := (HRX.out.below HBw.out).at (j := j) (v := Value.string (chansL r)[j]) (by simp [hlt'])
              obtain ⟨gp, op, rfl, d2⟩ := (HRP.out.below HBw.out).at (j := j) (v := Value.int .i64 (levelN r (chansL r)[j] : Int)) (by unfold levsL; simp [hlt'])
              have hlv2 := hlv _ hmem
              have hx3 := hch _ hmem
              have hll : (mkB (r.names.flatMap lineN ++ (covs r).flatMap (lineC r) ++ printX r j)).size ≤ 1000000 := by
                rw [mkB_size]
                have h1 := flat_le (lineX r) (chansL r) j
                have h2 := HLEN.out
                unfold printB at h2
                rw [List.length_append, List.length_append] at h2
                rw [List.length_append, List.length_append]
                unfold printX
                omega
              generalize (chansL r)[j] = ch at *
              generalize levelN r ch = lv at *
              obtain ⟨ga, oa, rfl, n1⟩ := (HRN.out.below HBw.out).at (j := lv) (v := .string (nameAt r lv)) (by rw [List.getElem?_map, List.getElem?_eq_getElem hlv2]; unfold nameAt; rw [List.getD_eq_getElem?_getD, List.getElem?_eq_getElem hlv2]; rfl)
              have hx4 : (nameAt r lv).size ≤ 1000000 := HNM.out _ (by unfold nameAt; rw [List.getD_eq_getElem?_getD, List.getElem?_eq_getElem hlv2]; exact List.getElem_mem hlv2)
              have heq := line_channel_eq (r.names.flatMap lineN ++ (covs r).flatMap (lineC r) ++ printX r j) ch (nameAt r lv)
              rw [List.append_assoc, ← hnx] at heq
              have HEQ := Lib.hid heq
              clear hnx heq hmem hch hlv
              generalize nameAt r lv = t1 at *
              generalize mkB (r.names.flatMap lineN ++ (covs r).flatMap (lineC r) ++ printX r j) = acc at *
              go_upto_region 14 with fail
              go_quiet (fail)
              go_wp2
              go_roundw
              case rel => exact ⟨j + 1, by omega, by rw [HEQ.out], by go_num, below_drewN HBr.out _⟩
              case measure => simp [intOf] <;> omega
            · obtain rfl : j = nX := by omega
              have hfin : r.names.flatMap lineN ++ (covs r).flatMap (lineC r) ++ printX r j = printB r := by
                unfold printX printB
                rw [← HNX.out, List.take_length, List.append_assoc]
              rw [hfin]
              clear hfin
              go_wp2
              go_ret
              exact ⟨rfl, HBw.out⟩
end Go.Proofs.YtckpffkofeoinaaGreatDoor
