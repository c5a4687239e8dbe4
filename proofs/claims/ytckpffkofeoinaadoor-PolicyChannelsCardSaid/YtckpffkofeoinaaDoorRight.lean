/- (*Lattice).right. -/
import Derived.Test.YtckpffkofeoinaaDoorLev3
namespace Go.Proofs.YtckpffkofeoinaaDoor
open Go.RowKit

def badB (L : LatD) (a b : Nat) : Bool := ((a != b) && ((L.up.getD a 0).testBit b && (L.up.getD b 0).testBit a)) || (decide (firstI L.up (L.up.getD a 0 &&& L.up.getD b 0) < 0) || decide (firstI L.down (L.down.getD a 0 &&& L.down.getD b 0) < 0))
def rowB (L : LatD) (a k : Nat) : Bool := (List.range k).all fun b => !badB L a b
def rightTo (L : LatD) (k : Nat) : Bool := (List.range k).all fun a => rowB L a L.names.length
def rightB (L : LatD) : Bool := rightTo L L.names.length

theorem rowB_succ (L : LatD) (a k : Nat) (h : rowB L a k = true) (hb : badB L a k = false) : rowB L a (k + 1) = true := by
  simp only [rowB, List.range_succ, List.all_append, List.all_cons, List.all_nil, Bool.and_true, hb, Bool.not_false] at *; exact h
theorem rightB_no (L : LatD) (a b : Nat) (ha : a < L.names.length) (hb : b < L.names.length) (h : badB L a b = true) : rightB L = false := by
  simp only [rightB, rightTo, List.all_eq_false, List.mem_range]
  refine ⟨a, ha, ?_⟩
  simp only [rowB, Bool.not_eq_true, List.all_eq_false, List.mem_range]
  exact ⟨b, hb, by simp [h]⟩
theorem rightTo_succ (L : LatD) (k : Nat) (h : rightTo L k = true) (hb : rowB L k L.names.length = true) : rightTo L (k + 1) = true := by
  simp only [rightTo, List.range_succ, List.all_append, List.all_cons, List.all_nil, Bool.and_true, hb] at *; exact h

theorem quiet_of_plus {P : Program} {f : FuncId} {args : Array Value} {w : World} {n2 x : Nat} {v : Value} (h : Calls P f args (w.drewN (n2 + x)) fun e w' => e = .returned v ∧ w' = w.drewN (n2 + x)) :
    Calls P f args (w.drewN (n2 + x)) fun e w'' => e = .returned v ∧ ∃ n, w'' = w.drewN (n2 + n) := h.mono fun _ _ h => ⟨h.1, x, h.2⟩

set_option maxRecDepth 100000 in
set_option maxHeartbeats 4000000 in
theorem right_any (p : Nat) (L : LatD) (w : World) (h : Lat w p L) :
    Calls Tryd.prog 47 #[.pointer (some ⟨p, 0, none⟩)] w fun e w' => e = .returned (.bool (rightB L)) ∧ ∃ n, w' = w.drewN n := by
  obtain ⟨an, cn, au, cu, ad, cd, h0, h1, h2, r0, r1, r2, l0, l1, l2, ok⟩ := h.cells
  have hpos := ok.pos; have hle := ok.le
  have hlt := h.lt
  have hup := ok.up; have hdn := ok.down; have hub := ok.upB; have hdb := ok.downB
  have HR1 := Lib.hid r1; have HR2 := Lib.hid r2
  have HU := Lib.hid hup; have HD := Lib.hid hdn; have HUB := Lib.hid hub; have HDB := Lib.hid hdb
  clear r0 r1 r2 h ok hup hdn hub hdb l0 l1 l2
  go_enter Tryd.func47, Tryd.ntmps47
  go_wp2_with fail
  go_loopw [10] (fun i wr => ∃ (k : Nat), k ≤ L.names.length ∧ i = .int .i64 k ∧ Hid (rightTo L k = true) ∧ ∃ n, wr = w.drewN n) (fun i _ => L.names.length - (intOf i).toNat)
  case atStart => exact ⟨0, Nat.zero_le _, rfl, rfl, 0, rfl⟩
  case round =>
    obtain ⟨k, hk, rfl, HT, n, rfl⟩ := hrel
    by_cases hlk : k < L.names.length
    · go_wp2_with fail
      go_loopw [18] (fun i wr => ∃ (k2 : Nat), k2 ≤ L.names.length ∧ i = .int .i64 k2 ∧ Hid (rowB L k k2 = true) ∧ ∃ n, wr = w.drewN n) (fun i _ => L.names.length - (intOf i).toNat)
      case atStart => exact ⟨0, Nat.zero_le _, rfl, rfl, n, rfl⟩
      case round =>
        obtain ⟨k2, hk2, rfl, HR, n2, rfl⟩ := hrel
        by_cases hlk2 : k2 < L.names.length
        · obtain ⟨gu, ou, rfl, ca⟩ := rd_u32 HR1.out HU.out hlk
          obtain ⟨gu', ou', e1, ca2⟩ := rd_u32 HR1.out HU.out hlk2
          obtain ⟨rfl, rfl⟩ : gu' = gu ∧ ou' = ou := by simpa using e1.symm
          clear e1
          obtain ⟨gd, od, rfl, cb⟩ := rd_u32 HR2.out HD.out hlk
          obtain ⟨gd', od', e1, cb2⟩ := rd_u32 HR2.out HD.out hlk2
          obtain ⟨rfl, rfl⟩ : gd' = gd ∧ od' = od := by simpa using e1.symm
          clear e1
          have la := getD_le HUB.out hle k
          have la2 := getD_le HUB.out hle k2
          have lb := getD_le HDB.out hle k
          have lb2 := getD_le HDB.out hle k2
          have hbad : badB L k k2 = (((k != k2) && ((L.up.getD k 0).testBit k2 && (L.up.getD k2 0).testBit k)) || (decide (firstI L.up (L.up.getD k 0 &&& L.up.getD k2 0) < 0) || decide (firstI L.down (L.down.getD k 0 &&& L.down.getD k2 0) < 0))) := rfl
          generalize L.up.getD k 0 = ua at *
          generalize L.up.getD k2 0 = ub at *
          generalize L.down.getD k 0 = da at *
          generalize L.down.getD k2 0 = db at *
          obtain ⟨f1, hf1⟩ : ∃ x, firstI L.up (ua &&& ub) = x := ⟨_, rfl⟩
          obtain ⟨f2, hf2⟩ : ∃ x, firstI L.down (da &&& db) = x := ⟨_, rfl⟩
          rw [hf1, hf2] at hbad
          have HF1 := Lib.hid hf1; have HF2 := Lib.hid hf2; have HB := Lib.hid hbad; clear hf1 hf2 hbad
          have sa := and_u32 ua ub la la2
          have sb := and_u32 da db lb lb2
          have HNO : Hid (badB L k k2 = true → rightB L = false) := rightB_no L k k2 hlk hlk2
          have HYES : Hid (badB L k k2 = false → rowB L k (k2 + 1) = true) := rowB_succ L k k2 HR.out
          by_cases hne : k = k2
          · have hb0 : ((k : Int) != (k2 : Int)) = false := by simp [hne]
            have hb1 : (k != k2) = false := by simp [hne]
            clear hne
            by_cases g1 : f1 < 0
            · have d1 : decide (f1 < 0) = true := decide_eq_true g1
              have HE := HNO.out (by rw [HB.out]; simp [hb1, d1])
              have HE' := Lib.hid HE; clear HE
              try clear g1
              try clear g2
              go_wp2_with fail
              simp only [List.append_eq, List.cons_append, List.nil_append]
              go_quiet ((first | (go_at_call 46; exact quiet_of_plus ((has_any _ _ _ (by omega) (by omega) (by omega)).mono fun e w' h => ⟨h.1.trans (by rw [Int.toNat_natCast]), h.2.symm⟩)) | (go_at_call_of 63 (Value.slice (some ⟨gu', ou', none⟩) L.names.length cu); exact quiet_of_plus ((first_any _ _ _ L.up (ua &&& ub) _ (by exact HR1.out) HU.out (by omega)).mono fun e w' h => ⟨h.1.trans (by rw [HF1.out]), h.2.symm⟩)) | (go_at_call_of 63 (Value.slice (some ⟨gd', od', none⟩) L.names.length cd); exact quiet_of_plus ((first_any _ _ _ L.down (da &&& db) _ (by exact HR2.out) HD.out (by omega)).mono fun e w' h => ⟨h.1.trans (by rw [HF2.out]), h.2.symm⟩))))
              go_wp2
              go_ret
              exact ⟨ret_bool HE'.out.symm, _, World.drewN_drewN _ _ _⟩
            · have d1 : decide (f1 < 0) = false := decide_eq_false g1
              by_cases g2 : f2 < 0
              · have d2 : decide (f2 < 0) = true := decide_eq_true g2
                have HE := HNO.out (by rw [HB.out]; simp [hb1, d1, d2])
                have HE' := Lib.hid HE; clear HE
                try clear g1
                try clear g2
                go_wp2_with fail
                simp only [List.append_eq, List.cons_append, List.nil_append]
                go_quiet ((first | (go_at_call 46; exact quiet_of_plus ((has_any _ _ _ (by omega) (by omega) (by omega)).mono fun e w' h => ⟨h.1.trans (by rw [Int.toNat_natCast]), h.2.symm⟩)) | (go_at_call_of 63 (Value.slice (some ⟨gu', ou', none⟩) L.names.length cu); exact quiet_of_plus ((first_any _ _ _ L.up (ua &&& ub) _ (by exact HR1.out) HU.out (by omega)).mono fun e w' h => ⟨h.1.trans (by rw [HF1.out]), h.2.symm⟩)) | (go_at_call_of 63 (Value.slice (some ⟨gd', od', none⟩) L.names.length cd); exact quiet_of_plus ((first_any _ _ _ L.down (da &&& db) _ (by exact HR2.out) HD.out (by omega)).mono fun e w' h => ⟨h.1.trans (by rw [HF2.out]), h.2.symm⟩))))
                go_wp2
                go_ret
                exact ⟨ret_bool HE'.out.symm, _, World.drewN_drewN _ _ _⟩
              · have d2 : decide (f2 < 0) = false := decide_eq_false g2
                have HE := HYES.out (by rw [HB.out]; simp [hb1, d1, d2])
                have HE' := Lib.hid HE; clear HE
                try clear g1
                try clear g2
                go_wp2_with fail
                simp only [List.append_eq, List.cons_append, List.nil_append]
                go_quiet ((first | (go_at_call 46; exact quiet_of_plus ((has_any _ _ _ (by omega) (by omega) (by omega)).mono fun e w' h => ⟨h.1.trans (by rw [Int.toNat_natCast]), h.2.symm⟩)) | (go_at_call_of 63 (Value.slice (some ⟨gu', ou', none⟩) L.names.length cu); exact quiet_of_plus ((first_any _ _ _ L.up (ua &&& ub) _ (by exact HR1.out) HU.out (by omega)).mono fun e w' h => ⟨h.1.trans (by rw [HF1.out]), h.2.symm⟩)) | (go_at_call_of 63 (Value.slice (some ⟨gd', od', none⟩) L.names.length cd); exact quiet_of_plus ((first_any _ _ _ L.down (da &&& db) _ (by exact HR2.out) HD.out (by omega)).mono fun e w' h => ⟨h.1.trans (by rw [HF2.out]), h.2.symm⟩))))
                go_wp2
                go_roundw
                case rel => exact ⟨k2 + 1, by omega, by go_num, HE', _, rfl⟩
                case measure => simp [intOf]; omega
          · have hb0 : ((k : Int) != (k2 : Int)) = true := by simp; omega
            have hb1 : (k != k2) = true := by simpa using hne
            clear hne
            cases t1 : ua.testBit k2 with
            | false =>
              by_cases g1 : f1 < 0
              · have d1 : decide (f1 < 0) = true := decide_eq_true g1
                have HE := HNO.out (by rw [HB.out]; simp [t1, d1])
                have HE' := Lib.hid HE; clear HE
                try clear g1
                try clear g2
                go_wp2_with fail
                simp only [List.append_eq, List.cons_append, List.nil_append]
                go_quiet ((first | (go_at_call 46; exact quiet_of_plus ((has_any _ _ _ (by omega) (by omega) (by omega)).mono fun e w' h => ⟨h.1.trans (by rw [Int.toNat_natCast]), h.2.symm⟩)) | (go_at_call_of 63 (Value.slice (some ⟨gu', ou', none⟩) L.names.length cu); exact quiet_of_plus ((first_any _ _ _ L.up (ua &&& ub) _ (by exact HR1.out) HU.out (by omega)).mono fun e w' h => ⟨h.1.trans (by rw [HF1.out]), h.2.symm⟩)) | (go_at_call_of 63 (Value.slice (some ⟨gd', od', none⟩) L.names.length cd); exact quiet_of_plus ((first_any _ _ _ L.down (da &&& db) _ (by exact HR2.out) HD.out (by omega)).mono fun e w' h => ⟨h.1.trans (by rw [HF2.out]), h.2.symm⟩))))
                go_wp2
                go_ret
                exact ⟨ret_bool HE'.out.symm, _, World.drewN_drewN _ _ _⟩
              · have d1 : decide (f1 < 0) = false := decide_eq_false g1
                by_cases g2 : f2 < 0
                · have d2 : decide (f2 < 0) = true := decide_eq_true g2
                  have HE := HNO.out (by rw [HB.out]; simp [t1, d1, d2])
                  have HE' := Lib.hid HE; clear HE
                  try clear g1
                  try clear g2
                  go_wp2_with fail
                  simp only [List.append_eq, List.cons_append, List.nil_append]
                  go_quiet ((first | (go_at_call 46; exact quiet_of_plus ((has_any _ _ _ (by omega) (by omega) (by omega)).mono fun e w' h => ⟨h.1.trans (by rw [Int.toNat_natCast]), h.2.symm⟩)) | (go_at_call_of 63 (Value.slice (some ⟨gu', ou', none⟩) L.names.length cu); exact quiet_of_plus ((first_any _ _ _ L.up (ua &&& ub) _ (by exact HR1.out) HU.out (by omega)).mono fun e w' h => ⟨h.1.trans (by rw [HF1.out]), h.2.symm⟩)) | (go_at_call_of 63 (Value.slice (some ⟨gd', od', none⟩) L.names.length cd); exact quiet_of_plus ((first_any _ _ _ L.down (da &&& db) _ (by exact HR2.out) HD.out (by omega)).mono fun e w' h => ⟨h.1.trans (by rw [HF2.out]), h.2.symm⟩))))
                  go_wp2
                  go_ret
                  exact ⟨ret_bool HE'.out.symm, _, World.drewN_drewN _ _ _⟩
                · have d2 : decide (f2 < 0) = false := decide_eq_false g2
                  have HE := HYES.out (by rw [HB.out]; simp [t1, d1, d2])
                  have HE' := Lib.hid HE; clear HE
                  try clear g1
                  try clear g2
                  go_wp2_with fail
                  simp only [List.append_eq, List.cons_append, List.nil_append]
                  go_quiet ((first | (go_at_call 46; exact quiet_of_plus ((has_any _ _ _ (by omega) (by omega) (by omega)).mono fun e w' h => ⟨h.1.trans (by rw [Int.toNat_natCast]), h.2.symm⟩)) | (go_at_call_of 63 (Value.slice (some ⟨gu', ou', none⟩) L.names.length cu); exact quiet_of_plus ((first_any _ _ _ L.up (ua &&& ub) _ (by exact HR1.out) HU.out (by omega)).mono fun e w' h => ⟨h.1.trans (by rw [HF1.out]), h.2.symm⟩)) | (go_at_call_of 63 (Value.slice (some ⟨gd', od', none⟩) L.names.length cd); exact quiet_of_plus ((first_any _ _ _ L.down (da &&& db) _ (by exact HR2.out) HD.out (by omega)).mono fun e w' h => ⟨h.1.trans (by rw [HF2.out]), h.2.symm⟩))))
                  go_wp2
                  go_roundw
                  case rel => exact ⟨k2 + 1, by omega, by go_num, HE', _, rfl⟩
                  case measure => simp [intOf]; omega
            | true =>
              cases t2 : ub.testBit k with
              | false =>
                by_cases g1 : f1 < 0
                · have d1 : decide (f1 < 0) = true := decide_eq_true g1
                  have HE := HNO.out (by rw [HB.out]; simp [t1, t2, d1])
                  have HE' := Lib.hid HE; clear HE
                  try clear g1
                  try clear g2
                  go_wp2_with fail
                  simp only [List.append_eq, List.cons_append, List.nil_append]
                  go_quiet ((first | (go_at_call 46; exact quiet_of_plus ((has_any _ _ _ (by omega) (by omega) (by omega)).mono fun e w' h => ⟨h.1.trans (by rw [Int.toNat_natCast]), h.2.symm⟩)) | (go_at_call_of 63 (Value.slice (some ⟨gu', ou', none⟩) L.names.length cu); exact quiet_of_plus ((first_any _ _ _ L.up (ua &&& ub) _ (by exact HR1.out) HU.out (by omega)).mono fun e w' h => ⟨h.1.trans (by rw [HF1.out]), h.2.symm⟩)) | (go_at_call_of 63 (Value.slice (some ⟨gd', od', none⟩) L.names.length cd); exact quiet_of_plus ((first_any _ _ _ L.down (da &&& db) _ (by exact HR2.out) HD.out (by omega)).mono fun e w' h => ⟨h.1.trans (by rw [HF2.out]), h.2.symm⟩))))
                  go_wp2
                  go_ret
                  exact ⟨ret_bool HE'.out.symm, _, World.drewN_drewN _ _ _⟩
                · have d1 : decide (f1 < 0) = false := decide_eq_false g1
                  by_cases g2 : f2 < 0
                  · have d2 : decide (f2 < 0) = true := decide_eq_true g2
                    have HE := HNO.out (by rw [HB.out]; simp [t1, t2, d1, d2])
                    have HE' := Lib.hid HE; clear HE
                    try clear g1
                    try clear g2
                    go_wp2_with fail
                    simp only [List.append_eq, List.cons_append, List.nil_append]
                    go_quiet ((first | (go_at_call 46; exact quiet_of_plus ((has_any _ _ _ (by omega) (by omega) (by omega)).mono fun e w' h => ⟨h.1.trans (by rw [Int.toNat_natCast]), h.2.symm⟩)) | (go_at_call_of 63 (Value.slice (some ⟨gu', ou', none⟩) L.names.length cu); exact quiet_of_plus ((first_any _ _ _ L.up (ua &&& ub) _ (by exact HR1.out) HU.out (by omega)).mono fun e w' h => ⟨h.1.trans (by rw [HF1.out]), h.2.symm⟩)) | (go_at_call_of 63 (Value.slice (some ⟨gd', od', none⟩) L.names.length cd); exact quiet_of_plus ((first_any _ _ _ L.down (da &&& db) _ (by exact HR2.out) HD.out (by omega)).mono fun e w' h => ⟨h.1.trans (by rw [HF2.out]), h.2.symm⟩))))
                    go_wp2
                    go_ret
                    exact ⟨ret_bool HE'.out.symm, _, World.drewN_drewN _ _ _⟩
                  · have d2 : decide (f2 < 0) = false := decide_eq_false g2
                    have HE := HYES.out (by rw [HB.out]; simp [t1, t2, d1, d2])
                    have HE' := Lib.hid HE; clear HE
                    try clear g1
                    try clear g2
                    go_wp2_with fail
                    simp only [List.append_eq, List.cons_append, List.nil_append]
                    go_quiet ((first | (go_at_call 46; exact quiet_of_plus ((has_any _ _ _ (by omega) (by omega) (by omega)).mono fun e w' h => ⟨h.1.trans (by rw [Int.toNat_natCast]), h.2.symm⟩)) | (go_at_call_of 63 (Value.slice (some ⟨gu', ou', none⟩) L.names.length cu); exact quiet_of_plus ((first_any _ _ _ L.up (ua &&& ub) _ (by exact HR1.out) HU.out (by omega)).mono fun e w' h => ⟨h.1.trans (by rw [HF1.out]), h.2.symm⟩)) | (go_at_call_of 63 (Value.slice (some ⟨gd', od', none⟩) L.names.length cd); exact quiet_of_plus ((first_any _ _ _ L.down (da &&& db) _ (by exact HR2.out) HD.out (by omega)).mono fun e w' h => ⟨h.1.trans (by rw [HF2.out]), h.2.symm⟩))))
                    go_wp2
                    go_roundw
                    case rel => exact ⟨k2 + 1, by omega, by go_num, HE', _, rfl⟩
                    case measure => simp [intOf]; omega
              | true =>
                have HE := HNO.out (by rw [HB.out]; simp [hb1, t1, t2])
                have HE' := Lib.hid HE; clear HE
                try clear g1
                try clear g2
                go_wp2_with fail
                simp only [List.append_eq, List.cons_append, List.nil_append]
                go_quiet ((first | (go_at_call 46; exact quiet_of_plus ((has_any _ _ _ (by omega) (by omega) (by omega)).mono fun e w' h => ⟨h.1.trans (by rw [Int.toNat_natCast]), h.2.symm⟩)) | (go_at_call_of 63 (Value.slice (some ⟨gu', ou', none⟩) L.names.length cu); exact quiet_of_plus ((first_any _ _ _ L.up (ua &&& ub) _ (by exact HR1.out) HU.out (by omega)).mono fun e w' h => ⟨h.1.trans (by rw [HF1.out]), h.2.symm⟩)) | (go_at_call_of 63 (Value.slice (some ⟨gd', od', none⟩) L.names.length cd); exact quiet_of_plus ((first_any _ _ _ L.down (da &&& db) _ (by exact HR2.out) HD.out (by omega)).mono fun e w' h => ⟨h.1.trans (by rw [HF2.out]), h.2.symm⟩))))
                go_wp2
                go_ret
                exact ⟨ret_bool HE'.out.symm, _, World.drewN_drewN _ _ _⟩
        · obtain rfl : k2 = L.names.length := by omega
          have HE := Lib.hid (rightTo_succ L k HT.out HR.out)
          go_wp2_with fail
          go_roundw
          case rel => exact ⟨k + 1, by omega, by go_num, HE, _, rfl⟩
          case measure => simp [intOf]; omega
    · obtain rfl : k = L.names.length := by omega
      go_wp2
      go_ret
      exact ⟨ret_bool HT.out.symm, _, rfl⟩
end Go.Proofs.YtckpffkofeoinaaDoor
