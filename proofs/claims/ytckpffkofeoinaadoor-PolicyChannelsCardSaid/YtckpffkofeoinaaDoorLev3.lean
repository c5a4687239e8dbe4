/- Bottom, Top, Names, Covers, right. -/
import Derived.Test.YtckpffkofeoinaaDoorTables
namespace Go.Proofs.YtckpffkofeoinaaDoor
open Go.RowKit

set_option maxRecDepth 100000 in
theorem names_any (p : Nat) (L : LatD) (w : World) (h : Lat w p L) :
    Calls Tryd.prog 13 #[.pointer (some ⟨p, 0, none⟩)] w fun e w' => ∃ v', e = .returned v' ∧ Hid (w'.ownsRow w.heap.size 9 1 v' L.names.length (L.names.map Value.string)) ∧ Below w.heap.size w w' := by
  obtain ⟨an, cn, au, cu, ad, cd, h0, h1, h2, r0, r1, r2, l0, l1, l2, ok⟩ := h.cells
  have hpos := ok.pos; have hle := ok.le
  obtain ⟨b, o, rfl, hc0⟩ := r0.at (j := 0) (v := .string (L.names[0]'hpos)) (by simp [hpos])
  have HR : Hid (∀ (j : Nat), j < L.names.length → w.cell? ⟨b, o + j, none⟩ = some (.string (L.names.getD j ByteArray.empty))) := by
    intro j hj
    rcases r0 with e | ⟨b', o', e, hr⟩
    · simp at e; rw [e] at hj; simp at hj
    · injection e with e; injection e with e1 e2; subst e1; subst e2
      exact hr j _ (by rw [List.getElem?_map, List.getD_eq_getElem?_getD, List.getElem?_eq_getElem hj]; rfl)
  clear r0 r1 r2 h1 h2 hc0 h
  go_enter Tryd.func13, Tryd.ntmps13
  go_wp2_with (go_at_call 26; refine (Tryd.slices_Clone_string b o _ _ L.names _ (Nat.le_refl _) (by omega) HR.out).mono ?_; rintro e w' ⟨v', rfl, ho, hne, hb⟩; rw [List.take_length] at ho; have HO := Lib.hid ho; have HN := Lib.hid hne; clear ho hne)
  go_ret
  exact ⟨_, rfl, HO.out, hb⟩

def bottomI (L : LatD) : Int := firstI L.up (2 ^ L.names.length - 1)
def topI (L : LatD) : Int := firstI L.down (2 ^ L.names.length - 1)

theorem pow16 {n : Nat} (h : n ≤ 16) : 1 ≤ 2 ^ n ∧ 2 ^ n ≤ 65536 := ⟨Nat.one_le_two_pow, by
  have : 2 ^ n ≤ 2 ^ 16 := Nat.pow_le_pow_right (by omega) h
  omega⟩
theorem shl_u32 {n : Nat} (h : n ≤ 16) : IntKind.u32.wrap (2 ^ n) = ((2 ^ n : Nat) : Int) := by
  have := pow16 h
  rw [IntKind.wrap_u32', show ((2 : Int) ^ n) = ((2 ^ n : Nat) : Int) by norm_cast]; omega
theorem shl_u32_1 {n : Nat} (h : n ≤ 16) : IntKind.u32.wrap (((2 ^ n : Nat) : Int) - 1) = ((2 ^ n - 1 : Nat) : Int) := by
  have := pow16 h
  rw [IntKind.wrap_u32']; omega

/-- The pairs with nothing between, as Covers asks. -/
def coverB (L : LatD) (a b : Nat) : Bool := (a != b) && ((L.up.getD a 0).testBit b && ((L.up.getD a 0 &&& L.down.getD b 0) == (2 ^ a ||| 2 ^ b)))
def coverRow (L : LatD) (a k : Nat) : List (Nat × Nat) := ((List.range k).filter fun b => coverB L a b).map fun b => (a, b)
def coverTo (L : LatD) (k : Nat) : List (Nat × Nat) := (List.range k).flatMap fun a => coverRow L a L.names.length
def covers (L : LatD) : List (Nat × Nat) := coverTo L L.names.length
def pairsV (l : List (Nat × Nat)) : List Value := l.flatMap fun q => [.int .i64 (q.1 : Int), .int .i64 (q.2 : Int)]

theorem coverRow_len (L : LatD) (a k : Nat) : (coverRow L a k).length ≤ k := by
  simp only [coverRow, List.length_map]
  exact Nat.le_trans (List.length_filter_le _ _) (by simp)
theorem coverTo_len (L : LatD) (k : Nat) : (coverTo L k).length ≤ k * L.names.length := by
  induction k with
  | zero => simp [coverTo]
  | succ k ih =>
    have e : coverTo L (k + 1) = coverTo L k ++ coverRow L k L.names.length := by simp [coverTo, List.range_succ]
    rw [e, List.length_append, Nat.add_mul, Nat.one_mul]
    have := coverRow_len L k L.names.length
    omega
theorem cover_len (L : LatD) {k k2 : Nat} (h : L.names.length ≤ 16) (hk : k < L.names.length) (hk2 : k2 ≤ L.names.length) : (coverTo L k ++ coverRow L k k2).length ≤ 1000000 := by
  rw [List.length_append]
  have h1 := coverTo_len L k
  have h2 := coverRow_len L k k2
  have h3 : k * L.names.length ≤ 16 * 16 := Nat.mul_le_mul (by omega) h
  omega

theorem info_pair : (Tryd.prog.info? 85).map (fun i => (i.zero, i.size, i.bytes)) = some (some (.agg #[.int .i64 0, .int .i64 0]), 2, 16) := by kernel_rfl

set_option maxRecDepth 100000 in
set_option maxHeartbeats 4000000 in
theorem covers_any (p : Nat) (L : LatD) (w : World) (h : Lat w p L) :
    Calls Tryd.prog 30 #[.pointer (some ⟨p, 0, none⟩)] w fun e w' => ∃ v', e = .returned v' ∧ Hid (w'.ownsRow w.heap.size 85 2 v' (covers L).length (pairsV (covers L))) ∧ Below w.heap.size w w' := by
  obtain ⟨an, cn, au, cu, ad, cd, h0, h1, h2, r0, r1, r2, l0, l1, l2, ok⟩ := h.cells
  have hpos := ok.pos; have hle := ok.le
  have hlt := h.lt
  have hup := ok.up; have hdn := ok.down; have hub := ok.upB; have hdb := ok.downB
  have HR1 := Lib.hid r1; have HR2 := Lib.hid r2
  have HU := Lib.hid hup; have HD := Lib.hid hdn; have HUB := Lib.hid hub; have HDB := Lib.hid hdb
  clear r0 r1 r2 h ok hup hdn hub hdb l0 l1 l2
  obtain ⟨i3, hi3, hz30, hz31, hz32⟩ := info_parts info_pair
  go_enter Tryd.func30, Tryd.ntmps30
  go_wp2_with fail
  go_loopw [3, 11] (fun v i wr => ∃ (k : Nat), k ≤ L.names.length ∧ i = .int .i64 k ∧ Hid (wr.ownsRow w.heap.size 85 2 v (coverTo L k).length (pairsV (coverTo L k))) ∧ Below w.heap.size w wr) (fun _ i _ => L.names.length - (intOf i).toNat)
  case atStart => exact ⟨0, Nat.zero_le _, rfl, World.ownsRow_nil _ _ _ _, Below.refl _ _⟩
  case round =>
    obtain ⟨k, hk, rfl, HO, hB⟩ := hrel
    have cc0 : wr.cell? ⟨p, 0, none⟩ = some (.slice an L.names.length cn) := by rw [hB.cell hlt]; exact h0
    by_cases hlk : k < L.names.length
    · go_wp2_with fail
      obtain ⟨wo, rfl⟩ : ∃ wo : World, wo = wr := ⟨_, rfl⟩
      obtain ⟨vo, rfl⟩ : ∃ vo : Value, vo = u3 := ⟨_, rfl⟩
      go_loopw [3, 19] (fun v i wr => ∃ (k2 : Nat), k2 ≤ L.names.length ∧ i = .int .i64 k2 ∧ Hid (wr.ownsRow w.heap.size 85 2 v (coverTo L k ++ coverRow L k k2).length (pairsV (coverTo L k ++ coverRow L k k2))) ∧ Below w.heap.size w wr) (fun _ i _ => L.names.length - (intOf i).toNat)
      case atStart => exact ⟨0, Nat.zero_le _, rfl, by simpa [coverRow] using HO, hB⟩
      case round =>
        obtain ⟨k2, hk2, rfl, HO2, hB2⟩ := hrel
        by_cases hlk2 : k2 < L.names.length
        · have cc1 : wr.cell? ⟨p, 1, none⟩ = some (.slice au L.names.length cu) := by rw [hB2.cell hlt]; exact h1
          have cc2 : wr.cell? ⟨p, 2, none⟩ = some (.slice ad L.names.length cd) := by rw [hB2.cell hlt]; exact h2
          obtain ⟨gu, ou, rfl, ca⟩ := rd_u32 (HR1.out.below (hB2.mono (Nat.le_refl _))) HU.out hlk
          obtain ⟨gd, od, rfl, cb⟩ := rd_u32 (HR2.out.below (hB2.mono (Nat.le_refl _))) HD.out hlk2
          have la := getD_le HUB.out hle k
          have lb := getD_le HDB.out hle k2
          obtain ⟨mk, hmk⟩ : ∃ m, 2 ^ k = m := ⟨_, rfl⟩
          obtain ⟨mk2, hmk2⟩ : ∃ m, 2 ^ k2 = m := ⟨_, rfl⟩
          have s1 := shl_u32 (n := k) (by omega); have s2 := shl_u32 (n := k2) (by omega)
          have b1 := (pow16 (n := k) (by omega)).2; have b2 := (pow16 (n := k2) (by omega)).2
          rw [hmk] at s1 b1; rw [hmk2] at s2 b2
          have hcov : coverB L k k2 = ((k != k2) && ((L.up.getD k 0).testBit k2 && ((L.up.getD k 0 &&& L.down.getD k2 0) == (mk ||| mk2)))) := by rw [← hmk, ← hmk2]; rfl
          have hlen := cover_len L hle hlk hk2
          clear hmk hmk2
          generalize L.up.getD k 0 = ua at *
          generalize L.down.getD k2 0 = db at *
          have so : bits BinOp.or IntKind.u32 (mk : Int) (mk2 : Int) = ((mk ||| mk2 : Nat) : Int) := u32_or_nat mk mk2 (by omega) (by omega)
          have sa := and_u32 ua db la lb
          have hyes : coverB L k k2 = true → coverRow L k (k2 + 1) = coverRow L k k2 ++ [(k, k2)] := fun h => by simp [coverRow, List.range_succ, List.filter_append, h]
          have hno : coverB L k k2 = false → coverRow L k (k2 + 1) = coverRow L k k2 := fun h => by simp [coverRow, List.range_succ, List.filter_append, h]
          have HY := Lib.hid hyes; have HN := Lib.hid hno; clear hyes hno
          have HC := Lib.hid hcov; clear hcov
          by_cases hne : k = k2
          · have hcb : coverB L k k2 = false := by rw [HC.out, show (k != k2) = false by simp [hne]]; rfl
            have HE := HN.out hcb
            have hb0 : ((k : Int) != (k2 : Int)) = false := by simp [hne]
            rw [← HE] at HO2
            have HB2 := Lib.hid hB2
            clear HE hcb hne ca cb cc1 cc2 s1 s2 so sa
            go_wp2_with fail
            go_quiet (fail)
            go_wp2
            go_roundw
            case rel => exact ⟨k2 + 1, by omega, by go_num, HO2, below_drewN HB2.out _⟩
            case measure => simp [intOf]; omega
          · have hb0 : ((k : Int) != (k2 : Int)) = true := by simp; omega
            have hb1 : (k != k2) = true := by simpa using hne
            cases hbit : ua.testBit k2 with
            | false =>
              have hcb : coverB L k k2 = false := by rw [HC.out, hbit]; simp
              have HE := HN.out hcb
              rw [← HE] at HO2
              have HB2 := Lib.hid hB2; have HBIT := Lib.hid hbit
              clear HE hcb hne hbit cb cc2 s1 s2 so sa hb1
              go_wp2_with fail
              go_quiet ((go_at_call 46; exact Calls.quiet_of_same ((has_any _ _ _ (by omega) (by omega) (by omega)).mono fun e w' h => ⟨h.1.trans (by rw [Int.toNat_natCast, HBIT.out]), h.2.symm⟩)))
              go_wp2
              go_roundw
              case rel => exact ⟨k2 + 1, by omega, by go_num, HO2, below_drewN HB2.out _⟩
              case measure => simp [intOf]; omega
            | true =>
              have HBIT := Lib.hid hbit
              by_cases heq : ua &&& db = mk ||| mk2
              · have hq : (((ua &&& db : Nat) : Int) == ((mk ||| mk2 : Nat) : Int)) = true := by simp [heq]
                have hcb : coverB L k k2 = true := by rw [HC.out, hbit, hb1, heq]; simp
                have HE := Lib.hid (HY.out hcb)
                have HB2 := Lib.hid hB2
                clear hcb hne hbit heq hb1
                go_wp2_with fail
                go_quiet ((go_at_call 46; exact Calls.quiet_of_same ((has_any _ _ _ (by omega) (by omega) (by omega)).mono fun e w' h => ⟨h.1.trans (by rw [Int.toNat_natCast, HBIT.out]), h.2.symm⟩)))
                go_wp2_with (at_builtin; refine wpList_append_lies _ rfl _ _ _ rfl w.heap.size 85 i3 _ 2 16 Tryd.underlying83 hi3 hz30 hz31 hz32 rfl (by omega) u3 _ _ rfl (World.ownsRow.alloc (w := wr.drewN _) HO2.out _) ⟨wr.heap.size, 0, none⟩ 1 1 [.int .i64 (k : Int), .int .i64 (k2 : Int)] rfl rfl (World.news_of_block (cs := #[.int .i64 (k : Int), .int .i64 (k2 : Int)]) (t := 85) (fr := (0, 0)) (heap_alloc_new (wr.drewN _) _)) (by simp [Value.oneCell']) (by omega) (by unfold maxLen; omega) (by omega) (by have := HB2.out.size; simp; omega) (wr.heap.size + 1) (by simp) ?_; intro gg cap w1 hown1 hgrow hat hltg; have HOW := Lib.hid hown1; have HGR := Lib.hid hgrow; clear hown1 hgrow hat hltg)
                have HO3 : Hid (w1.ownsRow w.heap.size 85 2 (.slice (some ⟨gg, 0, none⟩) ((coverTo L k).length + (coverRow L k k2).length + 1) cap) (coverTo L k ++ coverRow L k (k2 + 1)).length (pairsV (coverTo L k ++ coverRow L k (k2 + 1)))) := by
                  have h := HOW.out
                  rw [List.length_append] at h
                  rw [HE.out, ← List.append_assoc]
                  rw [show pairsV (coverTo L k ++ coverRow L k k2 ++ [(k, k2)]) = pairsV (coverTo L k ++ coverRow L k k2) ++ [.int .i64 (k : Int), .int .i64 (k2 : Int)] by simp [pairsV]]
                  rw [show (coverTo L k ++ coverRow L k k2 ++ [(k, k2)]).length = (coverTo L k).length + (coverRow L k k2).length + 1 from by rw [List.length_append, List.length_append]; rfl]
                  exact h
                have HB4 := Lib.hid (((below_drewN HB2.out _).alloc (by have := HB2.out.size; simpa using this) _).grown HGR.out (by have := HB2.out.size; simp; omega) (fun q hq => (HO2.out.lt q hq).1))
                go_wp2
                go_roundw
                case rel => exact ⟨k2 + 1, by omega, by go_num, HO3, HB4.out⟩
                case measure => simp [intOf]; omega
              · have hq : (((ua &&& db : Nat) : Int) == ((mk ||| mk2 : Nat) : Int)) = false := by simp; omega
                have hcb : coverB L k k2 = false := by rw [HC.out, hbit, hb1]; simpa using heq
                have HE := HN.out hcb
                rw [← HE] at HO2
                have HB2 := Lib.hid hB2
                clear HE hcb hne hbit heq hb1
                go_wp2_with fail
                go_quiet ((go_at_call 46; exact Calls.quiet_of_same ((has_any _ _ _ (by omega) (by omega) (by omega)).mono fun e w' h => ⟨h.1.trans (by rw [Int.toNat_natCast, HBIT.out]), h.2.symm⟩)))
                go_wp2
                go_roundw
                case rel => exact ⟨k2 + 1, by omega, by go_num, HO2, below_drewN HB2.out _⟩
                case measure => simp [intOf]; omega
        · obtain rfl : k2 = L.names.length := by omega
          go_wp2_with fail
          go_roundw
          case rel => exact ⟨k + 1, by omega, by go_num, by rw [show coverTo L (k + 1) = coverTo L k ++ coverRow L k L.names.length by simp [coverTo, List.range_succ]]; exact HO2, hB2⟩
          case measure => simp [intOf]; omega
    · obtain rfl : k = L.names.length := by omega
      go_wp2
      go_ret
      exact ⟨_, rfl, HO, hB⟩
end Go.Proofs.YtckpffkofeoinaaDoor
