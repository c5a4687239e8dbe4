/- Bottom, Top, Names, Covers, right. -/
import Derived.Test.YtckpffkofeoinaaGreatDoorLow
import Derived.Lib.ConvBytes
import Derived.Laws.BytesArg
import Derived.Deep.DeepCutAuto
namespace Go.Proofs.YtckpffkofeoinaaGreatDoor
open Go.RowKit

theorem names_any (p : Nat) (L : LatD) (w : World) (h : Lat w p L) :
    Calls Tryz.prog 16 #[.pointer (some ⟨p, 0, none⟩)] w fun e w' => ∃ v', e = .returned v' ∧ Hid (w'.ownsRow w.heap.size 9 1 v' L.names.length (L.names.map Value.string)) ∧ Below w.heap.size w w' := by
  obtain ⟨an, cn, au, cu, ad, cd, h0, h1, h2, r0, r1, r2, l0, l1, l2, ok⟩ := h.cells
  have hpos := ok.pos; have hle := ok.le
  obtain ⟨b, o, rfl, hc0⟩ := r0.at (j := 0) (v := .string (L.names[0]'hpos)) (by simp [hpos])
  have HR : Hid (∀ (j : Nat), j < L.names.length → w.cell? ⟨b, o + j, none⟩ = some (.string (L.names.getD j ByteArray.empty))) := by
    intro j hj
    rcases r0 with e | ⟨b', o', e, hr⟩
    · simp at e; rw [e] at hj; simp at hj
    · injection e with e; injection e with e1 e2; subst e1; subst e2
      exact hr j _ (by rw [List.getElem?_map, List.getD_eq_getElem?_getD, List.getElem?_eq_getElem hj]; rfl)
  clear r0 r1 r2 h1 h2 hc0 h
  go_enter Tryz.func16, Tryz.ntmps16
  go_wp2_with (go_at_call 35; refine (Tryz.slices_Clone_string b o _ _ L.names _ (Nat.le_refl _) (by omega) HR.out).mono ?_; rintro e w' ⟨v', rfl, ho, hne, hb⟩; rw [List.take_length] at ho; have HO := Lib.hid ho; have HN := Lib.hid hne; clear ho hne)
  go_ret
  exact ⟨_, rfl, HO.out, hb⟩

def bottomI (L : LatD) : Int := firstI L.up (2 ^ L.names.length - 1)
def topI (L : LatD) : Int := firstI L.down (2 ^ L.names.length - 1)

theorem pow16 {n : Nat} (h : n ≤ 16) : 1 ≤ 2 ^ n ∧ 2 ^ n ≤ 65536 := ⟨Nat.one_le_two_pow, by
  have : 2 ^ n ≤ 2 ^ 16 := Nat.pow_le_pow_right (by omega) h
  omega⟩
theorem shl_u32 {n : Nat} (h : n ≤ 16) : IntKind.u32.wrap (2 ^ n) = ((2 ^ n : Nat) : Int) := by
  have := pow16 h
  rw [IntKind.wrap_u32', show ((2 : Int) ^ n) = ((2 ^ n : Nat) : Int) by norm_cast]; omega
theorem shl_u32_1 {n : Nat} (h : n ≤ 16) : IntKind.u32.wrap (((2 ^ n : Nat) : Int) - 1) = ((2 ^ n - 1 : Nat) : Int) := by
  have := pow16 h
  rw [IntKind.wrap_u32']; omega

/-- The pairs with nothing between, as Covers asks. -/
def coverB (L : LatD) (a b : Nat) : Bool := (a != b) && ((L.up.getD a 0).testBit b && ((L.up.getD a 0 &&& L.down.getD b 0) == (2 ^ a ||| 2 ^ b)))
def coverRow (L : LatD) (a k : Nat) : List (Nat × Nat) := ((List.range k).filter fun b => coverB L a b).map fun b => (a, b)
def coverTo (L : LatD) (k : Nat) : List (Nat × Nat) := (List.range k).flatMap fun a => coverRow L a L.names.length
def covers (L : LatD) : List (Nat × Nat) := coverTo L L.names.length
def pairsV (l : List (Nat × Nat)) : List Value := l.flatMap fun q => [.int .i64 (q.1 : Int), .int .i64 (q.2 : Int)]

theorem coverRow_len (L : LatD) (a k : Nat) : (coverRow L a k).length ≤ k := by
  simp only [coverRow, List.length_map]
  exact Nat.le_trans (List.length_filter_le _ _) (by simp)
theorem coverTo_len (L : LatD) (k : Nat) : (coverTo L k).length ≤ k * L.names.length := by
  induction k with
  | zero => simp [coverTo]
  | succ k ih =>
    have e : coverTo L (k + 1) = coverTo L k ++ coverRow L k L.names.length := by simp [coverTo, List.range_succ]
    rw [e, List.length_append, Nat.add_mul, Nat.one_mul]
    have := coverRow_len L k L.names.length
    omega
theorem cover_len (L : LatD) {k k2 : Nat} (h : L.names.length ≤ 16) (hk : k < L.names.length) (hk2 : k2 ≤ L.names.length) : (coverTo L k ++ coverRow L k k2).length ≤ 1000000 := by
  rw [List.length_append]
  have h1 := coverTo_len L k
  have h2 := coverRow_len L k k2
  have h3 : k * L.names.length ≤ 16 * 16 := Nat.mul_le_mul (by omega) h
  omega

theorem info_pair : (Tryz.prog.info? 82).map (fun i => (i.zero, i.size, i.bytes)) = some (some (.agg #[.int .i64 0, .int .i64 0]), 2, 16) := by kernel_rfl

set_option maxRecDepth 100000 in
set_option maxHeartbeats 4000000 in
theorem covers_any (p : Nat) (L : LatD) (w : World) (h : Lat w p L) :
    Calls Tryz.prog 32 #[.pointer (some ⟨p, 0, none⟩)] w fun e w' => ∃ v', e = .returned v' ∧ Hid (w'.ownsRow w.heap.size 82 2 v' (covers L).length (pairsV (covers L))) ∧ Below w.heap.size w w' := by
  obtain ⟨an, cn, au, cu, ad, cd, h0, h1, h2, r0, r1, r2, l0, l1, l2, ok⟩ := h.cells
  have hpos := ok.pos; have hle := ok.le
  have hlt := h.lt
  have hup := ok.up; have hdn := ok.down; have hub := ok.upB; have hdb := ok.downB
  have HR1 := Lib.hid r1; have HR2 := Lib.hid r2
  have HU := Lib.hid hup; have HD := Lib.hid hdn; have HUB := Lib.hid hub; have HDB := Lib.hid hdb
  clear r0 r1 r2 h ok hup hdn hub hdb l0 l1 l2
  obtain ⟨i3, hi3, hz30, hz31, hz32⟩ := info_parts info_pair
  go_enter Tryz.func32, Tryz.ntmps32
  go_wp2_with fail
  go_loopw [3, 11] (fun v i wr => ∃ (k : Nat), k ≤ L.names.length ∧ i = .int .i64 k ∧ Hid (wr.ownsRow w.heap.size 82 2 v (coverTo L k).length (pairsV (coverTo L k))) ∧ Below w.heap.size w wr) (fun _ i _ => L.names.length - (intOf i).toNat)
  case atStart => exact ⟨0, Nat.zero_le _, rfl, World.ownsRow_nil _ _ _ _, Below.refl _ _⟩
  case round =>
    obtain ⟨k, hk, rfl, HO, hB⟩ := hrel
    have cc0 : wr.cell? ⟨p, 0, none⟩ = some (.slice an L.names.length cn) := by rw [hB.cell hlt]; exact h0
    by_cases hlk : k < L.names.length
    · go_wp2_with fail
      obtain ⟨wo, rfl⟩ : ∃ wo : World, wo = wr := ⟨_, rfl⟩
      obtain ⟨vo, rfl⟩ : ∃ vo : Value, vo = u3 := ⟨_, rfl⟩
      go_loopw [3, 19] (fun v i wr => ∃ (k2 : Nat), k2 ≤ L.names.length ∧ i = .int .i64 k2 ∧ Hid (wr.ownsRow w.heap.size 82 2 v (coverTo L k ++ coverRow L k k2).length (pairsV (coverTo L k ++ coverRow L k k2))) ∧ Below w.heap.size w wr) (fun _ i _ => L.names.length - (intOf i).toNat)
      case atStart => exact ⟨0, Nat.zero_le _, rfl, by simpa [coverRow] using HO, hB⟩
      case round =>
        obtain ⟨k2, hk2, rfl, HO2, hB2⟩ := hrel
        by_cases hlk2 : k2 < L.names.length
        · have cc1 : wr.cell? ⟨p, 1, none⟩ = some (.slice au L.names.length cu) := by rw [hB2.cell hlt]; exact h1
          have cc2 : wr.cell? ⟨p, 2, none⟩ = some (.slice ad L.names.length cd) := by rw [hB2.cell hlt]; exact h2
          obtain ⟨gu, ou, rfl, ca⟩ := rd_u32 (HR1.out.below (hB2.mono (Nat.le_refl _))) HU.out hlk
          obtain ⟨gd, od, rfl, cb⟩ := rd_u32 (HR2.out.below (hB2.mono (Nat.le_refl _))) HD.out hlk2
          have la := getD_le HUB.out hle k
          have lb := getD_le HDB.out hle k2
          obtain ⟨mk, hmk⟩ : ∃ m, 2 ^ k = m := ⟨_, rfl⟩
          obtain ⟨mk2, hmk2⟩ : ∃ m, 2 ^ k2 = m := ⟨_, rfl⟩
          have s1 := shl_u32 (n := k) (by omega); have s2 := shl_u32 (n := k2) (by omega)
          have b1 := (pow16 (n := k) (by omega)).2; have b2 := (pow16 (n := k2) (by omega)).2
          rw [hmk] at s1 b1; rw [hmk2] at s2 b2
          have hcov : coverB L k k2 = ((k != k2) && ((L.up.getD k 0).testBit k2 && ((L.up.getD k 0 &&& L.down.getD k2 0) == (mk ||| mk2)))) := by rw [← hmk, ← hmk2]; rfl
          have hlen := cover_len L hle hlk hk2
          clear hmk hmk2
          generalize L.up.getD k 0 = ua at *
          generalize L.down.getD k2 0 = db at *
          have so : bits BinOp.or IntKind.u32 (mk : Int) (mk2 : Int) = ((mk ||| mk2 : Nat) : Int) := u32_or_nat mk mk2 (by omega) (by omega)
          have sa := and_u32 ua db la lb
          have hyes : coverB L k k2 = true → coverRow L k (k2 + 1) = coverRow L k k2 ++ [(k, k2)] := fun h => by simp [coverRow, List.range_succ, List.filter_append, h]
          have hno : coverB L k k2 = false → coverRow L k (k2 + 1) = coverRow L k k2 := fun h => by simp [coverRow, List.range_succ, List.filter_append, h]
          have HY := Lib.hid hyes; have HN := Lib.hid hno; clear hyes hno
          have HC := Lib.hid hcov; clear hcov
          by_cases hne : k = k2
          · have hcb : coverB L k k2 = false := by rw [HC.out, show (k != k2) = false by simp [hne]]; rfl
            have HE := HN.out hcb
            have hb0 : ((k : Int) != (k2 : Int)) = false := by simp [hne]
            rw [← HE] at HO2
            have HB2 := Lib.hid hB2
            clear HE hcb hne ca cb cc1 cc2 s1 s2 so sa
            go_wp2_with fail
            go_quiet (fail)
            go_wp2
            go_roundw
            case rel => exact ⟨k2 + 1, by omega, by go_num, HO2, below_drewN HB2.out _⟩
            case measure => simp [intOf]; omega
          · have hb0 : ((k : Int) != (k2 : Int)) = true := by simp; omega
            have hb1 : (k != k2) = true := by simpa using hne
            cases hbit : ua.testBit k2 with
            | false =>
              have hcb : coverB L k k2 = false := by rw [HC.out, hbit]; simp
              have HE := HN.out hcb
              rw [← HE] at HO2
              have HB2 := Lib.hid hB2; have HBIT := Lib.hid hbit
              clear HE hcb hne hbit cb cc2 s1 s2 so sa hb1
              go_wp2_with fail
              go_quiet ((go_at_call 46; exact Calls.quiet_of_same ((has_any _ _ _ (by omega) (by omega) (by omega)).mono fun e w' h => ⟨h.1.trans (by rw [Int.toNat_natCast, HBIT.out]), h.2.symm⟩)))
              go_wp2
              go_roundw
              case rel => exact ⟨k2 + 1, by omega, by go_num, HO2, below_drewN HB2.out _⟩
              case measure => simp [intOf]; omega
            | true =>
              have HBIT := Lib.hid hbit
              by_cases heq : ua &&& db = mk ||| mk2
              · have hq : (((ua &&& db : Nat) : Int) == ((mk ||| mk2 : Nat) : Int)) = true := by simp [heq]
                have hcb : coverB L k k2 = true := by rw [HC.out, hbit, hb1, heq]; simp
                have HE := Lib.hid (HY.out hcb)
                have HB2 := Lib.hid hB2
                clear hcb hne hbit heq hb1
                go_wp2_with fail
                go_quiet ((go_at_call 46; exact Calls.quiet_of_same ((has_any _ _ _ (by omega) (by omega) (by omega)).mono fun e w' h => ⟨h.1.trans (by rw [Int.toNat_natCast, HBIT.out]), h.2.symm⟩)))
                go_wp2_with (at_builtin; refine wpList_append_lies _ rfl _ _ _ rfl w.heap.size 82 i3 _ 2 16 Tryz.underlying80 hi3 hz30 hz31 hz32 rfl (by omega) u3 _ _ rfl (World.ownsRow.alloc (w := wr.drewN _) HO2.out _) ⟨wr.heap.size, 0, none⟩ 1 1 [.int .i64 (k : Int), .int .i64 (k2 : Int)] rfl rfl (World.news_of_block (cs := #[.int .i64 (k : Int), .int .i64 (k2 : Int)]) (t := 82) (fr := (0, 0)) (heap_alloc_new (wr.drewN _) _)) (by simp [Value.oneCell']) (by omega) (by unfold maxLen; omega) (by omega) (by have := HB2.out.size; simp; omega) (wr.heap.size + 1) (by simp) ?_; intro gg cap w1 hown1 hgrow hat hltg; have HOW := Lib.hid hown1; have HGR := Lib.hid hgrow; clear hown1 hgrow hat hltg)
                have HO3 : Hid (w1.ownsRow w.heap.size 82 2 (.slice (some ⟨gg, 0, none⟩) ((coverTo L k).length + (coverRow L k k2).length + 1) cap) (coverTo L k ++ coverRow L k (k2 + 1)).length (pairsV (coverTo L k ++ coverRow L k (k2 + 1)))) := by
                  have h := HOW.out
                  rw [List.length_append] at h
                  rw [HE.out, ← List.append_assoc]
                  rw [show pairsV (coverTo L k ++ coverRow L k k2 ++ [(k, k2)]) = pairsV (coverTo L k ++ coverRow L k k2) ++ [.int .i64 (k : Int), .int .i64 (k2 : Int)] by simp [pairsV]]
                  rw [show (coverTo L k ++ coverRow L k k2 ++ [(k, k2)]).length = (coverTo L k).length + (coverRow L k k2).length + 1 from by rw [List.length_append, List.length_append]; rfl]
                  exact h
                have HB4 := Lib.hid (((below_drewN HB2.out _).alloc (by have := HB2.out.size; simpa using this) _).grown HGR.out (by have := HB2.out.size; simp; omega) (fun q hq => (HO2.out.lt q hq).1))
                go_wp2
                go_roundw
                case rel => exact ⟨k2 + 1, by omega, by go_num, HO3, HB4.out⟩
                case measure => simp [intOf]; omega
              · have hq : (((ua &&& db : Nat) : Int) == ((mk ||| mk2 : Nat) : Int)) = false := by simp; omega
                have hcb : coverB L k k2 = false := by rw [HC.out, hbit, hb1]; simpa using heq
                have HE := HN.out hcb
                rw [← HE] at HO2
                have HB2 := Lib.hid hB2
                clear HE hcb hne hbit heq hb1
                go_wp2_with fail
                go_quiet ((go_at_call 46; exact Calls.quiet_of_same ((has_any _ _ _ (by omega) (by omega) (by omega)).mono fun e w' h => ⟨h.1.trans (by rw [Int.toNat_natCast, HBIT.out]), h.2.symm⟩)))
                go_wp2
                go_roundw
                case rel => exact ⟨k2 + 1, by omega, by go_num, HO2, below_drewN HB2.out _⟩
                case measure => simp [intOf]; omega
        · obtain rfl : k2 = L.names.length := by omega
          go_wp2_with fail
          go_roundw
          case rel => exact ⟨k + 1, by omega, by go_num, by rw [show coverTo L (k + 1) = coverTo L k ++ coverRow L k L.names.length by simp [coverTo, List.range_succ]]; exact HO2, hB2⟩
          case measure => simp [intOf]; omega
    · obtain rfl : k = L.names.length := by omega
      go_wp2
      go_ret
      exact ⟨_, rfl, HO, hB⟩
end Go.Proofs.YtckpffkofeoinaaGreatDoor

/- (*Lattice).right. -/
namespace Go.Proofs.YtckpffkofeoinaaGreatDoor
open Go.RowKit

def badB (L : LatD) (a b : Nat) : Bool := ((a != b) && ((L.up.getD a 0).testBit b && (L.up.getD b 0).testBit a)) || (decide (firstI L.up (L.up.getD a 0 &&& L.up.getD b 0) < 0) || decide (firstI L.down (L.down.getD a 0 &&& L.down.getD b 0) < 0))
def rowB (L : LatD) (a k : Nat) : Bool := (List.range k).all fun b => !badB L a b
def rightTo (L : LatD) (k : Nat) : Bool := (List.range k).all fun a => rowB L a L.names.length
def rightB (L : LatD) : Bool := rightTo L L.names.length

theorem rowB_succ (L : LatD) (a k : Nat) (h : rowB L a k = true) (hb : badB L a k = false) : rowB L a (k + 1) = true := by
  simp only [rowB, List.range_succ, List.all_append, List.all_cons, List.all_nil, Bool.and_true, hb, Bool.not_false] at *; exact h
theorem rightB_no (L : LatD) (a b : Nat) (ha : a < L.names.length) (hb : b < L.names.length) (h : badB L a b = true) : rightB L = false := by
  simp only [rightB, rightTo, List.all_eq_false, List.mem_range]
  refine ⟨a, ha, ?_⟩
  simp only [rowB, Bool.not_eq_true, List.all_eq_false, List.mem_range]
  exact ⟨b, hb, by simp [h]⟩
theorem rightTo_succ (L : LatD) (k : Nat) (h : rightTo L k = true) (hb : rowB L k L.names.length = true) : rightTo L (k + 1) = true := by
  simp only [rightTo, List.range_succ, List.all_append, List.all_cons, List.all_nil, Bool.and_true, hb] at *; exact h

theorem quiet_of_plus {P : Program} {f : FuncId} {args : Array Value} {w : World} {n2 x : Nat} {v : Value} (h : Calls P f args (w.drewN (n2 + x)) fun e w' => e = .returned v ∧ w' = w.drewN (n2 + x)) :
    Calls P f args (w.drewN (n2 + x)) fun e w'' => e = .returned v ∧ ∃ n, w'' = w.drewN (n2 + n) := h.mono fun _ _ h => ⟨h.1, x, h.2⟩

set_option maxRecDepth 100000 in
set_option maxHeartbeats 4000000 in
theorem right_any (p : Nat) (L : LatD) (w : World) (h : Lat w p L) :
    Calls Tryz.prog 47 #[.pointer (some ⟨p, 0, none⟩)] w fun e w' => e = .returned (.bool (rightB L)) ∧ ∃ n, w' = w.drewN n := by
  obtain ⟨an, cn, au, cu, ad, cd, h0, h1, h2, r0, r1, r2, l0, l1, l2, ok⟩ := h.cells
  have hpos := ok.pos; have hle := ok.le
  have hlt := h.lt
  have hup := ok.up; have hdn := ok.down; have hub := ok.upB; have hdb := ok.downB
  have HR1 := Lib.hid r1; have HR2 := Lib.hid r2
  have HU := Lib.hid hup; have HD := Lib.hid hdn; have HUB := Lib.hid hub; have HDB := Lib.hid hdb
  clear r0 r1 r2 h ok hup hdn hub hdb l0 l1 l2
  go_enter Tryz.func47, Tryz.ntmps47
  go_wp2_with fail
  go_loopw [10] (fun i wr => ∃ (k : Nat), k ≤ L.names.length ∧ i = .int .i64 k ∧ Hid (rightTo L k = true) ∧ ∃ n, wr = w.drewN n) (fun i _ => L.names.length - (intOf i).toNat)
  case atStart => exact ⟨0, Nat.zero_le _, rfl, rfl, 0, rfl⟩
  case round =>
    obtain ⟨k, hk, rfl, HT, n, rfl⟩ := hrel
    by_cases hlk : k < L.names.length
    · go_wp2_with fail
      go_loopw [18] (fun i wr => ∃ (k2 : Nat), k2 ≤ L.names.length ∧ i = .int .i64 k2 ∧ Hid (rowB L k k2 = true) ∧ ∃ n, wr = w.drewN n) (fun i _ => L.names.length - (intOf i).toNat)
      case atStart => exact ⟨0, Nat.zero_le _, rfl, rfl, n, rfl⟩
      case round =>
        obtain ⟨k2, hk2, rfl, HR, n2, rfl⟩ := hrel
        by_cases hlk2 : k2 < L.names.length
        · obtain ⟨gu, ou, rfl, ca⟩ := rd_u32 HR1.out HU.out hlk
          obtain ⟨gu', ou', e1, ca2⟩ := rd_u32 HR1.out HU.out hlk2
          obtain ⟨rfl, rfl⟩ : gu' = gu ∧ ou' = ou := by simpa using e1.symm
          clear e1
          obtain ⟨gd, od, rfl, cb⟩ := rd_u32 HR2.out HD.out hlk
          obtain ⟨gd', od', e1, cb2⟩ := rd_u32 HR2.out HD.out hlk2
          obtain ⟨rfl, rfl⟩ : gd' = gd ∧ od' = od := by simpa using e1.symm
          clear e1
          have la := getD_le HUB.out hle k
          have la2 := getD_le HUB.out hle k2
          have lb := getD_le HDB.out hle k
          have lb2 := getD_le HDB.out hle k2
          have hbad : badB L k k2 = (((k != k2) && ((L.up.getD k 0).testBit k2 && (L.up.getD k2 0).testBit k)) || (decide (firstI L.up (L.up.getD k 0 &&& L.up.getD k2 0) < 0) || decide (firstI L.down (L.down.getD k 0 &&& L.down.getD k2 0) < 0))) := rfl
          generalize L.up.getD k 0 = ua at *
          generalize L.up.getD k2 0 = ub at *
          generalize L.down.getD k 0 = da at *
          generalize L.down.getD k2 0 = db at *
          obtain ⟨f1, hf1⟩ : ∃ x, firstI L.up (ua &&& ub) = x := ⟨_, rfl⟩
          obtain ⟨f2, hf2⟩ : ∃ x, firstI L.down (da &&& db) = x := ⟨_, rfl⟩
          rw [hf1, hf2] at hbad
          have HF1 := Lib.hid hf1; have HF2 := Lib.hid hf2; have HB := Lib.hid hbad; clear hf1 hf2 hbad
          have sa := and_u32 ua ub la la2
          have sb := and_u32 da db lb lb2
          have HNO : Hid (badB L k k2 = true → rightB L = false) := rightB_no L k k2 hlk hlk2
          have HYES : Hid (badB L k k2 = false → rowB L k (k2 + 1) = true) := rowB_succ L k k2 HR.out
          by_cases hne : k = k2
          · have hb0 : ((k : Int) != (k2 : Int)) = false := by simp [hne]
            have hb1 : (k != k2) = false := by simp [hne]
            clear hne
            by_cases g1 : f1 < 0
            · have d1 : decide (f1 < 0) = true := decide_eq_true g1
              have HE := HNO.out (by rw [HB.out]; simp [hb1, d1])
              have HE' := Lib.hid HE; clear HE
              try clear g1
              try clear g2
              go_wp2_with fail
              simp only [List.append_eq, List.cons_append, List.nil_append]
              go_quiet ((first | (go_at_call 46; exact quiet_of_plus ((has_any _ _ _ (by omega) (by omega) (by omega)).mono fun e w' h => ⟨h.1.trans (by rw [Int.toNat_natCast]), h.2.symm⟩)) | (go_at_call_of 71 (Value.slice (some ⟨gu', ou', none⟩) L.names.length cu); exact quiet_of_plus ((first_any _ _ _ L.up (ua &&& ub) _ (by exact HR1.out) HU.out (by omega)).mono fun e w' h => ⟨h.1.trans (by rw [HF1.out]), h.2.symm⟩)) | (go_at_call_of 71 (Value.slice (some ⟨gd', od', none⟩) L.names.length cd); exact quiet_of_plus ((first_any _ _ _ L.down (da &&& db) _ (by exact HR2.out) HD.out (by omega)).mono fun e w' h => ⟨h.1.trans (by rw [HF2.out]), h.2.symm⟩))))
              go_wp2
              go_ret
              exact ⟨ret_bool HE'.out.symm, _, World.drewN_drewN _ _ _⟩
            · have d1 : decide (f1 < 0) = false := decide_eq_false g1
              by_cases g2 : f2 < 0
              · have d2 : decide (f2 < 0) = true := decide_eq_true g2
                have HE := HNO.out (by rw [HB.out]; simp [hb1, d1, d2])
                have HE' := Lib.hid HE; clear HE
                try clear g1
                try clear g2
                go_wp2_with fail
                simp only [List.append_eq, List.cons_append, List.nil_append]
                go_quiet ((first | (go_at_call 46; exact quiet_of_plus ((has_any _ _ _ (by omega) (by omega) (by omega)).mono fun e w' h => ⟨h.1.trans (by rw [Int.toNat_natCast]), h.2.symm⟩)) | (go_at_call_of 71 (Value.slice (some ⟨gu', ou', none⟩) L.names.length cu); exact quiet_of_plus ((first_any _ _ _ L.up (ua &&& ub) _ (by exact HR1.out) HU.out (by omega)).mono fun e w' h => ⟨h.1.trans (by rw [HF1.out]), h.2.symm⟩)) | (go_at_call_of 71 (Value.slice (some ⟨gd', od', none⟩) L.names.length cd); exact quiet_of_plus ((first_any _ _ _ L.down (da &&& db) _ (by exact HR2.out) HD.out (by omega)).mono fun e w' h => ⟨h.1.trans (by rw [HF2.out]), h.2.symm⟩))))
                go_wp2
                go_ret
                exact ⟨ret_bool HE'.out.symm, _, World.drewN_drewN _ _ _⟩
              · have d2 : decide (f2 < 0) = false := decide_eq_false g2
                have HE := HYES.out (by rw [HB.out]; simp [hb1, d1, d2])
                have HE' := Lib.hid HE; clear HE
                try clear g1
                try clear g2
                go_wp2_with fail
                simp only [List.append_eq, List.cons_append, List.nil_append]
                go_quiet ((first | (go_at_call 46; exact quiet_of_plus ((has_any _ _ _ (by omega) (by omega) (by omega)).mono fun e w' h => ⟨h.1.trans (by rw [Int.toNat_natCast]), h.2.symm⟩)) | (go_at_call_of 71 (Value.slice (some ⟨gu', ou', none⟩) L.names.length cu); exact quiet_of_plus ((first_any _ _ _ L.up (ua &&& ub) _ (by exact HR1.out) HU.out (by omega)).mono fun e w' h => ⟨h.1.trans (by rw [HF1.out]), h.2.symm⟩)) | (go_at_call_of 71 (Value.slice (some ⟨gd', od', none⟩) L.names.length cd); exact quiet_of_plus ((first_any _ _ _ L.down (da &&& db) _ (by exact HR2.out) HD.out (by omega)).mono fun e w' h => ⟨h.1.trans (by rw [HF2.out]), h.2.symm⟩))))
                go_wp2
                go_roundw
                case rel => exact ⟨k2 + 1, by omega, by go_num, HE', _, rfl⟩
                case measure => simp [intOf]; omega
          · have hb0 : ((k : Int) != (k2 : Int)) = true := by simp; omega
            have hb1 : (k != k2) = true := by simpa using hne
            clear hne
            cases t1 : ua.testBit k2 with
            | false =>
              by_cases g1 : f1 < 0
              · have d1 : decide (f1 < 0) = true := decide_eq_true g1
                have HE := HNO.out (by rw [HB.out]; simp [t1, d1])
                have HE' := Lib.hid HE; clear HE
                try clear g1
                try clear g2
                go_wp2_with fail
                simp only [List.append_eq, List.cons_append, List.nil_append]
                go_quiet ((first | (go_at_call 46; exact quiet_of_plus ((has_any _ _ _ (by omega) (by omega) (by omega)).mono fun e w' h => ⟨h.1.trans (by rw [Int.toNat_natCast]), h.2.symm⟩)) | (go_at_call_of 71 (Value.slice (some ⟨gu', ou', none⟩) L.names.length cu); exact quiet_of_plus ((first_any _ _ _ L.up (ua &&& ub) _ (by exact HR1.out) HU.out (by omega)).mono fun e w' h => ⟨h.1.trans (by rw [HF1.out]), h.2.symm⟩)) | (go_at_call_of 71 (Value.slice (some ⟨gd', od', none⟩) L.names.length cd); exact quiet_of_plus ((first_any _ _ _ L.down (da &&& db) _ (by exact HR2.out) HD.out (by omega)).mono fun e w' h => ⟨h.1.trans (by rw [HF2.out]), h.2.symm⟩))))
                go_wp2
                go_ret
                exact ⟨ret_bool HE'.out.symm, _, World.drewN_drewN _ _ _⟩
              · have d1 : decide (f1 < 0) = false := decide_eq_false g1
                by_cases g2 : f2 < 0
                · have d2 : decide (f2 < 0) = true := decide_eq_true g2
                  have HE := HNO.out (by rw [HB.out]; simp [t1, d1, d2])
                  have HE' := Lib.hid HE; clear HE
                  try clear g1
                  try clear g2
                  go_wp2_with fail
                  simp only [List.append_eq, List.cons_append, List.nil_append]
                  go_quiet ((first | (go_at_call 46; exact quiet_of_plus ((has_any _ _ _ (by omega) (by omega) (by omega)).mono fun e w' h => ⟨h.1.trans (by rw [Int.toNat_natCast]), h.2.symm⟩)) | (go_at_call_of 71 (Value.slice (some ⟨gu', ou', none⟩) L.names.length cu); exact quiet_of_plus ((first_any _ _ _ L.up (ua &&& ub) _ (by exact HR1.out) HU.out (by omega)).mono fun e w' h => ⟨h.1.trans (by rw [HF1.out]), h.2.symm⟩)) | (go_at_call_of 71 (Value.slice (some ⟨gd', od', none⟩) L.names.length cd); exact quiet_of_plus ((first_any _ _ _ L.down (da &&& db) _ (by exact HR2.out) HD.out (by omega)).mono fun e w' h => ⟨h.1.trans (by rw [HF2.out]), h.2.symm⟩))))
                  go_wp2
                  go_ret
                  exact ⟨ret_bool HE'.out.symm, _, World.drewN_drewN _ _ _⟩
                · have d2 : decide (f2 < 0) = false := decide_eq_false g2
                  have HE := HYES.out (by rw [HB.out]; simp [t1, d1, d2])
                  have HE' := Lib.hid HE; clear HE
                  try clear g1
                  try clear g2
                  go_wp2_with fail
                  simp only [List.append_eq, List.cons_append, List.nil_append]
                  go_quiet ((first | (go_at_call 46; exact quiet_of_plus ((has_any _ _ _ (by omega) (by omega) (by omega)).mono fun e w' h => ⟨h.1.trans (by rw [Int.toNat_natCast]), h.2.symm⟩)) | (go_at_call_of 71 (Value.slice (some ⟨gu', ou', none⟩) L.names.length cu); exact quiet_of_plus ((first_any _ _ _ L.up (ua &&& ub) _ (by exact HR1.out) HU.out (by omega)).mono fun e w' h => ⟨h.1.trans (by rw [HF1.out]), h.2.symm⟩)) | (go_at_call_of 71 (Value.slice (some ⟨gd', od', none⟩) L.names.length cd); exact quiet_of_plus ((first_any _ _ _ L.down (da &&& db) _ (by exact HR2.out) HD.out (by omega)).mono fun e w' h => ⟨h.1.trans (by rw [HF2.out]), h.2.symm⟩))))
                  go_wp2
                  go_roundw
                  case rel => exact ⟨k2 + 1, by omega, by go_num, HE', _, rfl⟩
                  case measure => simp [intOf]; omega
            | true =>
              cases t2 : ub.testBit k with
              | false =>
                by_cases g1 : f1 < 0
                · have d1 : decide (f1 < 0) = true := decide_eq_true g1
                  have HE := HNO.out (by rw [HB.out]; simp [t1, t2, d1])
                  have HE' := Lib.hid HE; clear HE
                  try clear g1
                  try clear g2
                  go_wp2_with fail
                  simp only [List.append_eq, List.cons_append, List.nil_append]
                  go_quiet ((first | (go_at_call 46; exact quiet_of_plus ((has_any _ _ _ (by omega) (by omega) (by omega)).mono fun e w' h => ⟨h.1.trans (by rw [Int.toNat_natCast]), h.2.symm⟩)) | (go_at_call_of 71 (Value.slice (some ⟨gu', ou', none⟩) L.names.length cu); exact quiet_of_plus ((first_any _ _ _ L.up (ua &&& ub) _ (by exact HR1.out) HU.out (by omega)).mono fun e w' h => ⟨h.1.trans (by rw [HF1.out]), h.2.symm⟩)) | (go_at_call_of 71 (Value.slice (some ⟨gd', od', none⟩) L.names.length cd); exact quiet_of_plus ((first_any _ _ _ L.down (da &&& db) _ (by exact HR2.out) HD.out (by omega)).mono fun e w' h => ⟨h.1.trans (by rw [HF2.out]), h.2.symm⟩))))
                  go_wp2
                  go_ret
                  exact ⟨ret_bool HE'.out.symm, _, World.drewN_drewN _ _ _⟩
                · have d1 : decide (f1 < 0) = false := decide_eq_false g1
                  by_cases g2 : f2 < 0
                  · have d2 : decide (f2 < 0) = true := decide_eq_true g2
                    have HE := HNO.out (by rw [HB.out]; simp [t1, t2, d1, d2])
                    have HE' := Lib.hid HE; clear HE
                    try clear g1
                    try clear g2
                    go_wp2_with fail
                    simp only [List.append_eq, List.cons_append, List.nil_append]
                    go_quiet ((first | (go_at_call 46; exact quiet_of_plus ((has_any _ _ _ (by omega) (by omega) (by omega)).mono fun e w' h => ⟨h.1.trans (by rw [Int.toNat_natCast]), h.2.symm⟩)) | (go_at_call_of 71 (Value.slice (some ⟨gu', ou', none⟩) L.names.length cu); exact quiet_of_plus ((first_any _ _ _ L.up (ua &&& ub) _ (by exact HR1.out) HU.out (by omega)).mono fun e w' h => ⟨h.1.trans (by rw [HF1.out]), h.2.symm⟩)) | (go_at_call_of 71 (Value.slice (some ⟨gd', od', none⟩) L.names.length cd); exact quiet_of_plus ((first_any _ _ _ L.down (da &&& db) _ (by exact HR2.out) HD.out (by omega)).mono fun e w' h => ⟨h.1.trans (by rw [HF2.out]), h.2.symm⟩))))
                    go_wp2
                    go_ret
                    exact ⟨ret_bool HE'.out.symm, _, World.drewN_drewN _ _ _⟩
                  · have d2 : decide (f2 < 0) = false := decide_eq_false g2
                    have HE := HYES.out (by rw [HB.out]; simp [t1, t2, d1, d2])
                    have HE' := Lib.hid HE; clear HE
                    try clear g1
                    try clear g2
                    go_wp2_with fail
                    simp only [List.append_eq, List.cons_append, List.nil_append]
                    go_quiet ((first | (go_at_call 46; exact quiet_of_plus ((has_any _ _ _ (by omega) (by omega) (by omega)).mono fun e w' h => ⟨h.1.trans (by rw [Int.toNat_natCast]), h.2.symm⟩)) | (go_at_call_of 71 (Value.slice (some ⟨gu', ou', none⟩) L.names.length cu); exact quiet_of_plus ((first_any _ _ _ L.up (ua &&& ub) _ (by exact HR1.out) HU.out (by omega)).mono fun e w' h => ⟨h.1.trans (by rw [HF1.out]), h.2.symm⟩)) | (go_at_call_of 71 (Value.slice (some ⟨gd', od', none⟩) L.names.length cd); exact quiet_of_plus ((first_any _ _ _ L.down (da &&& db) _ (by exact HR2.out) HD.out (by omega)).mono fun e w' h => ⟨h.1.trans (by rw [HF2.out]), h.2.symm⟩))))
                    go_wp2
                    go_roundw
                    case rel => exact ⟨k2 + 1, by omega, by go_num, HE', _, rfl⟩
                    case measure => simp [intOf]; omega
              | true =>
                have HE := HNO.out (by rw [HB.out]; simp [hb1, t1, t2])
                have HE' := Lib.hid HE; clear HE
                try clear g1
                try clear g2
                go_wp2_with fail
                simp only [List.append_eq, List.cons_append, List.nil_append]
                go_quiet ((first | (go_at_call 46; exact quiet_of_plus ((has_any _ _ _ (by omega) (by omega) (by omega)).mono fun e w' h => ⟨h.1.trans (by rw [Int.toNat_natCast]), h.2.symm⟩)) | (go_at_call_of 71 (Value.slice (some ⟨gu', ou', none⟩) L.names.length cu); exact quiet_of_plus ((first_any _ _ _ L.up (ua &&& ub) _ (by exact HR1.out) HU.out (by omega)).mono fun e w' h => ⟨h.1.trans (by rw [HF1.out]), h.2.symm⟩)) | (go_at_call_of 71 (Value.slice (some ⟨gd', od', none⟩) L.names.length cd); exact quiet_of_plus ((first_any _ _ _ L.down (da &&& db) _ (by exact HR2.out) HD.out (by omega)).mono fun e w' h => ⟨h.1.trans (by rw [HF2.out]), h.2.symm⟩))))
                go_wp2
                go_ret
                exact ⟨ret_bool HE'.out.symm, _, World.drewN_drewN _ _ _⟩
        · obtain rfl : k2 = L.names.length := by omega
          have HE := Lib.hid (rightTo_succ L k HT.out HR.out)
          go_wp2_with fail
          go_roundw
          case rel => exact ⟨k + 1, by omega, by go_num, HE, _, rfl⟩
          case measure => simp [intOf]; omega
    · obtain rfl : k = L.names.length := by omega
      go_wp2
      go_ret
      exact ⟨ret_bool HT.out.symm, _, rfl⟩
end Go.Proofs.YtckpffkofeoinaaGreatDoor

/- levels.Name. -/
namespace Go.Proofs.YtckpffkofeoinaaGreatDoor
open Go.RowKit

def nameOk (l : List UInt8) : Bool := decide (l ≠ []) && (decide (l.length ≤ 20) && (isLetter (l.headD 0) && l.all isSign))

theorem let_any (c : UInt8) (w : World) :
    Calls Tryz.prog 64 #[.string ⟨#[97, 98, 99, 100, 101, 102, 103, 104, 105, 106, 107, 108, 109, 110, 111, 112, 113, 114, 115, 116, 117, 118, 119, 120, 121, 122]⟩, .int .u8 c.toNat] w fun e w' => (∃ i : Int, e = .returned (.int .i64 i) ∧ Hid (decide (i ≥ 0) = isLetter c)) ∧ w = w' := by
  refine (Tryz.strings_IndexByte _ _ _).mono ?_
  rintro e w' ⟨rfl, rfl⟩
  refine ⟨⟨_, rfl, ?_⟩, rfl⟩
  have e : (c.toNat : Int).toNat.toUInt8 = c := by simp
  rw [e]; exact letter_byte c

set_option maxRecDepth 100000 in
theorem name_any (s : ByteArray) (w : World) (hs : s.size ≤ 140737488351232) :
    Calls Tryz.prog 40 #[.string s] w fun e w' => e = .returned (.bool (nameOk s.data.toList)) ∧ Below w.heap.size w w' := by
  have hsz : s.data.toList.length = s.size := by simp
  by_cases h0 : s.size = 0
  · have e1 : s.toList = [] := by rw [ByteArray.toList_eq]; exact List.eq_nil_of_length_eq_zero (by omega)
    have e2 : (!s.toList.isEmpty) = false := by simp [e1]
    have hfin : nameOk s.data.toList = false := by rw [List.eq_nil_of_length_eq_zero (l := s.data.toList) (by omega)]; rfl
    have HF := Lib.hid hfin; clear hfin
    go_enter Tryz.func40, Tryz.ntmps40
    go_wp2
    go_ret
    exact ⟨ret_bool HF.out.symm, Below.refl _ _⟩
  · have hpos : 0 < s.size := by omega
    have hne : s.data.toList ≠ [] := fun e => by rw [e] at hsz; simp at hsz; omega
    have e2 : (!s.toList.isEmpty) = true := by rw [ByteArray.toList_eq]; simpa using hne
    by_cases h20 : 20 < s.size
    · clear hne
      have hfin : nameOk s.data.toList = false := by rw [nameOk, decide_eq_false (p := s.data.toList.length ≤ 20) (by omega)]; simp
      have HF := Lib.hid hfin; clear hfin
      go_enter Tryz.func40, Tryz.ntmps40
      go_wp2
      go_ret
      exact ⟨ret_bool HF.out.symm, Below.refl _ _⟩
    · have hle : s.size ≤ 20 := by omega
      have hfin : nameOk s.data.toList = (isLetter s[0] && s.data.toList.all isSign) := by
        have hh : s.data.toList.headD 0 = s[0] := by
          rw [List.headD_eq_head?_getD, List.head?_eq_getElem?, List.getElem?_eq_getElem (by omega)]; rfl
        rw [nameOk, decide_eq_true hne, decide_eq_true (p := s.data.toList.length ≤ 20) (by omega), hh]; simp
      clear hne
      have HF := Lib.hid hfin; clear hfin
      cases hl : isLetter s[0] with
      | false =>
        rw [hl] at HF
        have HL := Lib.hid hl; clear hl
        go_enter Tryz.func40, Tryz.ntmps40
        go_wp2_with (go_at_call 64; refine (let_any s[0] _).mono ?_; rintro e w' ⟨⟨i, rfl, hi⟩, rfl⟩; have hi2 : (0 ≤ i) = False := (by rw [HL.out] at hi; simpa using hi.out); clear hi)
        go_ret
        exact ⟨ret_bool HF.out.symm, Below.refl _ _⟩
      | true =>
        rw [hl] at HF
        have HL := Lib.hid hl; clear hl
        have hcv := fun (w : World) => Lib.run_convert_string_bytes (P := Tryz.prog) w 9 71 5 s Tryz.underlying9 Tryz.underlying71 Tryz.underlying5
        have hrd : Hid (Rd (Lib.bytesWorld w 5 s) (some ⟨w.heap.size, 0, none⟩) (s.data.toList.map fun (z : UInt8) => Value.int .u8 z.toNat)) := by
          refine .inr ⟨_, _, rfl, fun j v hj => ?_⟩
          rw [List.getElem?_map] at hj
          have hjl : j < s.data.toList.length := by
            rcases Nat.lt_or_ge j s.data.toList.length with h | h
            · exact h
            · rw [List.getElem?_eq_none h] at hj; simp at hj
          rw [List.getElem?_eq_getElem hjl] at hj
          rw [Nat.zero_add, Lib.bytesWorld_cell _ _ _ _ (by simpa using hjl), ← Option.some.inj hj, List.getD_eq_getElem?_getD, List.getElem?_eq_getElem hjl]
          rfl
        have hbel : Hid (Below w.heap.size w (Lib.bytesWorld w 5 s)) := ⟨rfl, rfl, rfl, by rw [Lib.bytesWorld_size]; omega, fun k hk => Lib.bytesWorld_at_old w _ s k hk⟩
        have HSZ := Lib.hid hsz; clear hsz
        go_enter Tryz.func40, Tryz.ntmps40
        go_wp2_with (first | (go_at_call 64; refine (let_any s[0] _).mono ?_; rintro e w' ⟨⟨i, rfl, hi⟩, rfl⟩; have hi2 : 0 ≤ i := (by rw [HL.out] at hi; simpa using hi.out); clear hi) | (go_at_call 65; refine (conF_byte _ _ _ s.data.toList _ HSZ.out hrd.out (by have := HSZ.out; omega)).mono ?_; rintro e w' ⟨rfl, rfl⟩))
        go_ret
        exact ⟨ret_bool (by rw [HF.out]; simp), hbel.out⟩
end Go.Proofs.YtckpffkofeoinaaGreatDoor

/- levels.check, and the search for a name that is none. -/
namespace Go.Proofs.YtckpffkofeoinaaGreatDoor
open Go.RowKit

def okS (s : ByteArray) : Bool := nameOk s.data.toList
/-- No string is longer than may be read. -/
def ShortS (zs : List ByteArray) : Prop := ∀ s ∈ zs, s.size ≤ 140737488351232

theorem checkF_any (s : ByteArray) (w : World) (hs : s.size ≤ 140737488351232) :
    Calls Tryz.prog 70 #[.string s] w fun e w' => e = .returned (.bool (!okS s)) ∧ Below w.heap.size w w' := by
  go_enter Tryz.func70, Tryz.ntmps70
  go_wp2_with (go_at_call 40; refine (name_any s _ hs).mono ?_; rintro e w' ⟨rfl, hb⟩)
  go_ret
  exact ⟨ret_bool rfl, hb⟩

theorem idxF_str (A : Option Addr) (c n : Nat) (zs : List ByteArray) (w : World) (hn : zs.length = n) (hr : Rd w A (zs.map Value.string)) (hs : ShortS zs) (hl : zs.length ≤ 140737488355328) :
    Calls Tryz.prog 89 #[.slice A n c, .func (.func 70) #[] #[]] w fun e w' => (∃ i : Int, e = .returned (.int .i64 i) ∧ Hid (decide (i ≥ 0) = !zs.all okS)) ∧ Below w.heap.size w w' := by
  subst hn
  go_enter Tryz.func89, Tryz.ntmps89
  have HR := Lib.hid hr; have HS := Lib.hid hs; clear hr hs
  go_wp2
  go_loopw [8] (fun i wr => ∃ k : Nat, k ≤ zs.length ∧ i = .int .i64 k ∧ Hid ((zs.take k).all okS = true) ∧ Below w.heap.size w wr) (fun i _ => zs.length - (intOf i).toNat)
  case atStart => exact ⟨0, Nat.zero_le _, rfl, rfl, Below.refl _ _⟩
  case round =>
    obtain ⟨k, hk, rfl, HA, hB⟩ := hrel
    by_cases hlt : k < zs.length
    · obtain ⟨b, o, hA, hc⟩ := (HR.out.below hB).at (j := k) (v := Value.string zs[k]) (by simp [hlt])
      subst hA
      have hsz : zs[k].size ≤ 140737488351232 := HS.out _ (List.getElem_mem hlt)
      cases hok : okS zs[k] with
      | true =>
        have hk1 : Hid ((zs.take (k + 1)).all okS = true) := by
          show _ = true
          rw [List.take_succ_eq_append_getElem hlt, List.all_append, HA.out, Bool.true_and, List.all_cons, List.all_nil, hok]; rfl
        have HOK := Lib.hid hok; clear hok
        generalize zs[k] = s at *
        go_wp2_with (go_at_call 70; refine (checkF_any s _ hsz).mono ?_; rintro e w' ⟨rfl, hb⟩; rw [HOK.out]; have HB' := Lib.hid (hB.trans (hb.mono hB.size)); clear hb)
        go_roundw
        case rel => exact ⟨k + 1, by omega, by go_num, hk1, HB'.out⟩
        case measure => simp [intOf]; omega
      | false =>
        have hfin : zs.all okS = false := by rw [List.all_eq_false]; exact ⟨_, List.getElem_mem hlt, by rw [hok]; simp⟩
        have HF := Lib.hid hfin; clear hfin
        have HOK := Lib.hid hok; clear hok
        generalize zs[k] = s at *
        go_wp2_with (go_at_call 70; refine (checkF_any s _ hsz).mono ?_; rintro e w' ⟨rfl, hb⟩; rw [HOK.out]; have HB' := Lib.hid (hB.trans (hb.mono hB.size)); clear hb)
        go_ret
        exact ⟨⟨_, rfl, by rw [HF.out]; exact decide_eq_true (Int.natCast_nonneg _)⟩, HB'.out⟩
    · have hfin : zs.all okS = true := by have := HA.out; rwa [List.take_of_length_le (by omega)] at this
      have HF := Lib.hid hfin; clear hfin
      go_wp2
      go_ret
      exact ⟨⟨_, rfl, by rw [HF.out]; rfl⟩, hB⟩

theorem conF_str (A : Option Addr) (c n : Nat) (zs : List ByteArray) (w : World) (hn : zs.length = n) (hr : Rd w A (zs.map Value.string)) (hs : ShortS zs) (hl : zs.length ≤ 140737488355328) :
    Calls Tryz.prog 69 #[.slice A n c, .func (.func 70) #[] #[]] w fun e w' => e = .returned (.bool (!zs.all okS)) ∧ Below w.heap.size w w' := by
  have HR := Lib.hid hr; have HS := Lib.hid hs; have HN := Lib.hid hn; clear hr hs hn
  go_enter Tryz.func69, Tryz.ntmps69
  go_wp2_with (go_at_call 89; refine (idxF_str _ _ _ _ _ HN.out HR.out HS.out hl).mono ?_; rintro e w' ⟨⟨i, rfl, HI⟩, hb⟩)
  go_ret
  exact ⟨ret_bool HI.out, hb⟩

/-- A name that stands twice, among the first k. -/
def dupTo (names : List ByteArray) (k : Nat) : Bool := (List.range k).any fun i => Lib.containsS (names.take i) (names.getD i ByteArray.empty)
def checkE (names : List ByteArray) : Int :=
  if names.length = 0 ∨ 16 < names.length then 8 else if names.all okS = false then 3 else if dupTo names names.length then 4 else 0

theorem check_any (A : Option Addr) (c n : Nat) (zs : List ByteArray) (w : World) (hn : zs.length = n) (hc : n ≤ c) (hr : Rd w A (zs.map Value.string)) (hs : ShortS zs) (hl : zs.length ≤ 140737488355328) (hcl : c ≤ 9223372036854775807) :
    Calls Tryz.prog 44 #[.slice A n c] w fun e w' => e = .returned (.int .i64 (checkE zs)) ∧ Below w.heap.size w w' := by
  subst hn
  by_cases h0 : zs.length = 0 ∨ 16 < zs.length
  · have hfin : checkE zs = 8 := by rw [checkE, if_pos h0]
    rw [hfin]; clear hfin
    rcases h0 with h0 | h0
    · have hb : ((zs.length : Int) == 0) = true := by simp [h0]
      have H0 := Lib.hid h0; clear h0
      go_enter Tryz.func44, Tryz.ntmps44
      go_wp2_with fail
      go_ret
      exact ⟨rfl, Below.refl _ _⟩
    · have hb : ((zs.length : Int) == 0) = false := by rw [beq_eq_false_iff_ne]; omega
      go_enter Tryz.func44, Tryz.ntmps44
      go_wp2_with fail
      go_ret
      exact ⟨rfl, Below.refl _ _⟩
  · have hpos : 0 < zs.length := by omega
    have hle : zs.length ≤ 16 := by omega
    have hb : ((zs.length : Int) == 0) = false := by rw [beq_eq_false_iff_ne]; omega
    have HR := Lib.hid hr; have HS := Lib.hid hs; clear hr hs
    have hchk : checkE zs = if zs.all okS = false then 3 else if dupTo zs zs.length then 4 else 0 := by rw [checkE, if_neg h0]
    have HC := Lib.hid hchk; clear hchk h0
    cases hall : zs.all okS with
    | false =>
      have hfin : checkE zs = 3 := by rw [HC.out, if_pos hall]
      rw [hfin]; clear hfin
      have HA := Lib.hid hall; clear hall
      go_enter Tryz.func44, Tryz.ntmps44
      go_wp2_with (go_at_call 69; refine (conF_str _ _ _ _ _ rfl HR.out HS.out hl).mono ?_; rintro e w' ⟨rfl, hb⟩; rw [HA.out])
      go_ret
      exact ⟨rfl, by assumption⟩
    | true =>
      have hfin : checkE zs = if dupTo zs zs.length then 4 else 0 := by rw [HC.out, if_neg (by rw [hall]; simp)]
      have HF := Lib.hid hfin; clear hfin
      have HA := Lib.hid hall; clear hall
      go_enter Tryz.func44, Tryz.ntmps44
      go_wp2_with (go_at_call 69; refine (conF_str _ _ _ _ _ rfl HR.out HS.out hl).mono ?_; rintro e w1 ⟨rfl, hB⟩; rw [HA.out])
      go_loop [17] (fun i => ∃ k : Nat, k ≤ zs.length ∧ i = .int .i64 k ∧ Hid (dupTo zs k = false)) (fun i => zs.length - (intOf i).toNat)
      case atStart => exact ⟨0, Nat.zero_le _, rfl, rfl⟩
      case round =>
        obtain ⟨k, hk, rfl, HD⟩ := hrel
        by_cases hlt : k < zs.length
        · have hr1 := HR.out.below hB
          obtain ⟨b, o, hA, hc1⟩ := hr1.at (j := k) (v := Value.string zs[k]) (by simp [hlt])
          subst hA
          have hr2 : Hid (Rd w1 (some ⟨b, o, none⟩) ((zs.take k).map Value.string)) := by
            rcases hr1 with e | ⟨b', o', e, h⟩
            · simp at e; rw [e] at hlt; simp at hlt
            · refine .inr ⟨b', o', e, fun j v hj => h j v ?_⟩
              rw [List.getElem?_map, List.getElem?_take] at hj
              rw [List.getElem?_map]
              split at hj
              · exact hj
              · simp at hj
          have hdk : dupTo zs (k + 1) = Lib.containsS (zs.take k) zs[k] := by
            have := HD.out
            simp only [dupTo] at this ⊢
            rw [List.range_succ, List.any_append, this, Bool.false_or, List.any_cons, List.any_nil, Bool.or_false, List.getD_eq_getElem?_getD, List.getElem?_eq_getElem hlt]; rfl
          have hlen : Hid ((zs.take k).length = k) := by show _ = _; rw [List.length_take]; omega
          have HDK := Lib.hid hdk; clear hdk hr1
          cases hd : Lib.containsS (zs.take k) zs[k] with
          | true =>
            have hfin : checkE zs = 4 := by
              rw [HF.out, if_pos]
              simp only [dupTo, List.any_eq_true, List.mem_range]
              exact ⟨k, hlt, by rw [List.getD_eq_getElem?_getD, List.getElem?_eq_getElem hlt]; exact hd⟩
            have HFF := Lib.hid hfin; have HDD := Lib.hid hd; clear hfin hd
            generalize zs[k] = s at *
            go_wp2_with (go_at_call 41; refine (con_str _ _ _ (zs.take k) s _ hr2.out hlen.out (by omega)).mono ?_; rintro e w' ⟨rfl, rfl⟩; rw [HDD.out])
            go_ret
            exact ⟨ret_int HFF.out.symm, hB⟩
          | false =>
            have hnx : Hid (dupTo zs (k + 1) = false) := by show _ = false; rw [HDK.out, hd]
            have HDD := Lib.hid hd; clear hd
            generalize zs[k] = s at *
            go_wp2_with (go_at_call 41; refine (con_str _ _ _ (zs.take k) s _ hr2.out hlen.out (by omega)).mono ?_; rintro e w' ⟨rfl, rfl⟩; rw [HDD.out])
            go_round
            case rel => exact ⟨k + 1, by omega, by go_num, hnx⟩
            case measure => simp [intOf]; omega
        · have hfin : checkE zs = 0 := by
            have hd := HD.out
            obtain rfl : k = zs.length := by omega
            rw [HF.out, hd]; rfl
          have HFF := Lib.hid hfin; clear hfin
          go_wp2
          go_ret
          exact ⟨ret_int HFF.out.symm, hB⟩
end Go.Proofs.YtckpffkofeoinaaGreatDoor

/- levels.New, its first part: the names are copied, the two rows of sets made. -/
namespace Go.Proofs.YtckpffkofeoinaaGreatDoor
open Go.RowKit

def zerosC (n : Nat) : Array Value := madeCells #[.int .u32 0] n
theorem zerosC_eq (n : Nat) : zerosC n = (u32s (List.replicate n 0)).toArray := by
  apply Array.toList_inj.1
  rw [zerosC, toList_madeCells_one]
  simp [u32s]

theorem info_set : (Tryz.prog.info? 108).map (fun i => (i.zero, i.size, i.bytes)) = some (some (.int .u32 0), 1, 4) := by kernel_rfl

theorem make_sets {n : Nat} (hn : n ≤ 16) (w : World) : (Instr.makeSlice 84 (.int .i64 n) (.int .i64 n)).run Tryz.prog w = .ok (.slice (some ⟨w.heap.size, 0, none⟩) n n) (w.alloc (.cells (zerosC n) 108)) := by
  obtain ⟨i3, hi3, hz30, hz31, hz32⟩ := info_parts info_set
  have h := run_make (P := Tryz.prog) w 84 108 i3 _ Tryz.underlying84 hi3 hz30 .i64 .i64 n n (by omega) (by omega) (by rw [hz32]; omega) (by omega)
  rw [hz31] at h
  simpa [zerosC, Value.cells] using h

theorem at_new {w : World} {o : Obj} {b : Nat} (h : b = w.heap.size) : (w.alloc o).heap[b]? = some o := by subst h; exact heap_alloc_new w o
theorem at_alloc {w : World} {o x : Obj} {b : Nat} (h : w.heap[b]? = some x) : (w.alloc o).heap[b]? = some x := (heap_alloc_old w o (lt_of_block h)).trans h
theorem at_below {w w' : World} {x : Obj} {b : Nat} (hb : Below w.heap.size w w') (h : w.heap[b]? = some x) : w'.heap[b]? = some x := by rw [hb.block b (lt_of_block h)]; exact h

/-- Behind the literal: the lattice's own block, and its rows. -/
def NewStart (w wx : World) (names : List ByteArray) (s8 : Value) : Prop :=
  ∃ p gu gd vn, s8 = .pointer (some ⟨p, 0, none⟩) ∧ w.heap.size ≤ p ∧ w.heap.size ≤ gu ∧ w.heap.size ≤ gd ∧ gu ≠ gd ∧
    wx.heap[p]? = some (.cells #[vn, .slice (some ⟨gu, 0, none⟩) names.length names.length, .slice (some ⟨gd, 0, none⟩) names.length names.length, .int .u32 0, .int .i32 0, .int .u32 0, nilS, nilS] 99 (0, 0)) ∧
    wx.heap[gu]? = some (.cells (zerosC names.length) 108 (0, 0)) ∧ wx.heap[gd]? = some (.cells (zerosC names.length) 108 (0, 0)) ∧
    wx.ownsRow w.heap.size 9 1 vn names.length (names.map Value.string) ∧ Below w.heap.size w wx

theorem NewStart.mk {w wx : World} {names : List ByteArray} {p gu gd : Nat} {vn : Value}
    (hp : wx.heap[p]? = some (.cells #[vn, .slice (some ⟨gu, 0, none⟩) names.length names.length, .slice (some ⟨gd, 0, none⟩) names.length names.length, .int .u32 0, .int .i32 0, .int .u32 0, nilS, nilS] 99 (0, 0)))
    (h1 : w.heap.size ≤ p) (h2 : w.heap.size ≤ gu) (h3 : w.heap.size ≤ gd) (h4 : gu ≠ gd)
    (h5 : wx.heap[gu]? = some (.cells (zerosC names.length) 108 (0, 0))) (h6 : wx.heap[gd]? = some (.cells (zerosC names.length) 108 (0, 0)))
    (h7 : wx.ownsRow w.heap.size 9 1 vn names.length (names.map Value.string)) (h8 : Below w.heap.size w wx) : NewStart w wx names (.pointer (some ⟨p, 0, none⟩)) :=
  ⟨p, gu, gd, vn, rfl, h1, h2, h3, h4, hp, h5, h6, h7, h8⟩

end Go.Proofs.YtckpffkofeoinaaGreatDoor

/- The sets of New as plain functions, and the lattice as it lies while it is made. -/
namespace Go.Proofs.YtckpffkofeoinaaGreatDoor
open Go.RowKit

def upsTo (n k : Nat) : List Nat := (List.range n).map fun i => if i < k then 2 ^ i else 0
def addP (names : List ByteArray) (up : List Nat) (q : ByteArray × ByteArray) : List Nat := up.set (placeI names q.1).toNat (up.getD (placeI names q.1).toNat 0 ||| 2 ^ (placeI names q.2).toNat)
def pairOk (names : List ByteArray) (q : ByteArray × ByteArray) : Bool := decide (0 ≤ placeI names q.1) && decide (0 ≤ placeI names q.2)
def upP (names : List ByteArray) (pairs : List (ByteArray × ByteArray)) : List Nat := pairs.foldl (addP names) (upsTo names.length names.length)
def wStep (k : Nat) (u : List Nat) (a : Nat) : List Nat := if (u.getD a 0).testBit k then u.set a (u.getD a 0 ||| u.getD k 0) else u
def wRow (n : Nat) (u : List Nat) (k : Nat) : List Nat := (List.range n).foldl (wStep k) u
def warsh (n : Nat) (u : List Nat) : List Nat := (List.range n).foldl (wRow n) u
def dStep (u : List Nat) (a : Nat) (d : List Nat) (b : Nat) : List Nat := if (u.getD a 0).testBit b then d.set b (d.getD b 0 ||| 2 ^ a) else d
def dRow (n : Nat) (u d : List Nat) (a : Nat) : List Nat := (List.range n).foldl (dStep u a) d
def downs (n : Nat) (u : List Nat) : List Nat := (List.range n).foldl (dRow n u) (List.replicate n 0)
def newL (names : List ByteArray) (pairs : List (ByteArray × ByteArray)) : LatD := ⟨names, warsh names.length (upP names pairs), downs names.length (warsh names.length (upP names pairs))⟩
def newE (names : List ByteArray) (pairs : List (ByteArray × ByteArray)) : Int :=
  if checkE names ≠ 0 then checkE names else if pairs.all (pairOk names) = false then 3 else if rightB (newL names pairs) = false then 9 else 0

/-- So many sets, each within n places. -/
def Bnd (n : Nat) (u : List Nat) : Prop := u.length = n ∧ ∀ s ∈ u, s < 2 ^ n

theorem Bnd.get {n : Nat} {u : List Nat} (h : Bnd n u) (k : Nat) : u.getD k 0 < 2 ^ n := by
  rw [List.getD_eq_getElem?_getD]
  rcases Nat.lt_or_ge k u.length with hk | hk
  · rw [List.getElem?_eq_getElem hk]; exact h.2 _ (List.getElem_mem hk)
  · rw [List.getElem?_eq_none hk]; exact Nat.two_pow_pos n
theorem Bnd.set {n : Nat} {u : List Nat} (h : Bnd n u) (k s : Nat) (hs : s < 2 ^ n) : Bnd n (u.set k s) :=
  ⟨by rw [List.length_set]; exact h.1, fun x hx => by
    rcases List.mem_or_eq_of_mem_set hx with hx | rfl
    · exact h.2 x hx
    · exact hs⟩
theorem Bnd.or {n a b : Nat} (ha : a < 2 ^ n) (hb : b < 2 ^ n) : a ||| b < 2 ^ n := Nat.or_lt_two_pow ha hb
theorem pow_lt {n k : Nat} (h : k < n) : 2 ^ k < 2 ^ n := Nat.pow_lt_pow_right (by omega) h
theorem Bnd.zeros (n : Nat) : Bnd n (List.replicate n 0) := ⟨List.length_replicate, fun s hs => by rw [List.eq_of_mem_replicate hs]; exact Nat.two_pow_pos n⟩

theorem upsTo_zero (n : Nat) : upsTo n 0 = List.replicate n 0 := by
  apply List.ext_getElem?
  intro j
  rcases Nat.lt_or_ge j n with hj | hj
  · simp [upsTo, hj]
  · simp [upsTo, Nat.not_lt.2 hj]
theorem upsTo_set {n k : Nat} (h : k < n) : (upsTo n k).set k (2 ^ k) = upsTo n (k + 1) := by
  apply List.ext_getElem?
  intro j
  rw [List.getElem?_set]
  simp only [upsTo, List.length_map, List.length_range, List.getElem?_map]
  rcases Nat.lt_or_ge j n with hj | hj
  · rw [List.getElem?_range hj]
    by_cases e : k = j
    · subst e; simp [h]
    · rw [if_neg e]
      simp only [Option.map_some]
      congr 1
      by_cases e2 : j < k
      · rw [if_pos e2, if_pos (by omega)]
      · rw [if_neg e2, if_neg (by omega)]
  · rw [List.getElem?_eq_none (by simpa using hj)]
    rw [if_neg (by omega)]; rfl
theorem upsTo_len (n k : Nat) : (upsTo n k).length = n := by simp [upsTo]
theorem Bnd.upsTo (n k : Nat) : Bnd n (upsTo n k) := ⟨upsTo_len n k, fun s hs => by
  simp only [Go.Proofs.YtckpffkofeoinaaGreatDoor.upsTo, List.mem_map, List.mem_range] at hs
  obtain ⟨i, hi, rfl⟩ := hs
  split
  · exact pow_lt hi
  · exact Nat.two_pow_pos n⟩

/-- The lattice while New makes it. -/
def NewMid (w wr : World) (p gu gd : Nat) (vn : Value) (names : List ByteArray) (up down : List Nat) : Prop :=
  wr.heap[p]? = some (.cells #[vn, .slice (some ⟨gu, 0, none⟩) names.length names.length, .slice (some ⟨gd, 0, none⟩) names.length names.length, .int .u32 0, .int .i32 0, .int .u32 0, nilS, nilS] 99 (0, 0)) ∧
  wr.heap[gu]? = some (.cells (u32s up).toArray 108 (0, 0)) ∧ wr.heap[gd]? = some (.cells (u32s down).toArray 108 (0, 0)) ∧
  wr.ownsRow w.heap.size 9 1 vn names.length (names.map Value.string) ∧ Below w.heap.size w wr ∧ Bnd names.length up ∧ Bnd names.length down

theorem NewMid.of_start {w wx : World} {names : List ByteArray} {p gu gd : Nat} {vn : Value}
    (hp : wx.heap[p]? = some (.cells #[vn, .slice (some ⟨gu, 0, none⟩) names.length names.length, .slice (some ⟨gd, 0, none⟩) names.length names.length, .int .u32 0, .int .i32 0, .int .u32 0, nilS, nilS] 99 (0, 0)))
    (h5 : wx.heap[gu]? = some (.cells (zerosC names.length) 108 (0, 0))) (h6 : wx.heap[gd]? = some (.cells (zerosC names.length) 108 (0, 0)))
    (h7 : wx.ownsRow w.heap.size 9 1 vn names.length (names.map Value.string)) (h8 : Below w.heap.size w wx) : NewMid w wx p gu gd vn names (upsTo names.length 0) (List.replicate names.length 0) :=
  ⟨hp, by rw [upsTo_zero]; rw [zerosC_eq] at h5; exact h5, by rw [zerosC_eq] at h6; exact h6, h7, h8, Bnd.upsTo _ _, Bnd.zeros _⟩

theorem NewMid.drewN {w wr : World} {p gu gd : Nat} {vn : Value} {names : List ByteArray} {up down : List Nat} (h : NewMid w wr p gu gd vn names up down) (n : Nat) : NewMid w (wr.drewN n) p gu gd vn names up down :=
  ⟨h.1, h.2.1, h.2.2.1, h.2.2.2.1, below_drewN h.2.2.2.2.1 n, h.2.2.2.2.2⟩

theorem NewMid.drew {w wr : World} {p gu gd : Nat} {vn : Value} {names : List ByteArray} {up down : List Nat} (h : NewMid w wr p gu gd vn names up down) : NewMid w wr.drew p gu gd vn names up down :=
  ⟨h.1, h.2.1, h.2.2.1, h.2.2.2.1, h.2.2.2.2.1.drew, h.2.2.2.2.2⟩

theorem NewMid.alloc {w wr : World} {p gu gd : Nat} {vn : Value} {names : List ByteArray} {up down : List Nat} (h : NewMid w wr p gu gd vn names up down) (o : Obj) : NewMid w (wr.alloc o) p gu gd vn names up down :=
  ⟨at_alloc h.1, at_alloc h.2.1, at_alloc h.2.2.1, h.2.2.2.1.alloc o, h.2.2.2.2.1.alloc h.2.2.2.2.1.size o, h.2.2.2.2.2⟩

theorem at_setCell {w : World} {a : Addr} {v : Value} {b : Nat} {x : Obj} (h : w.heap[b]? = some x) (hne : b ≠ a.block) : (w.setCell a v).heap[b]? = some x := by
  rw [Below.heap_setCell _ _ _ _ hne]; exact h

theorem ownsRow_setCell_type {w : World} {base e n p T : Nat} {v : Value} {xs : List Value} {c : Array Value} {fr : Nat × Nat} (h : w.ownsRow base e 1 v n xs) (hp : w.heap[p]? = some (.cells c T fr)) (hT : T ≠ e) (o : Nat) (u : Value) : (w.setCell ⟨p, o, none⟩ u).ownsRow base e 1 v n xs :=
  owns_move h (fun g hg => Below.heap_setCell _ _ _ _ (fun e => by simp at e; subst e; exact owns_ne h hp hT hg))

theorem set_u32s (l : List Nat) (k s : Nat) : (u32s l).toArray.setIfInBounds k (.int .u32 (s : Int)) = (u32s (l.set k s)).toArray := by
  simp [u32s, List.map_set]

/-- A store into a block that no field of the lattice leads to. -/
theorem NewMid.far {w wr : World} {p gu gd : Nat} {vn : Value} {names : List ByteArray} {up down : List Nat} (h : NewMid w wr p gu gd vn names up down) (q : Nat) (hq : w.heap.size ≤ q) {c : Array Value} {T : Nat} {fr : Nat × Nat}
    (hc : wr.heap[q]? = some (.cells c T fr)) (h1 : T ≠ 99) (h2 : T ≠ 108) (h3 : T ≠ 9) (o : Nat) (u : Value) : NewMid w (wr.setCell ⟨q, o, none⟩ u) p gu gd vn names up down := by
  obtain ⟨a, b, c', d, e, f⟩ := h
  refine ⟨at_setCell a ?_, at_setCell b ?_, at_setCell c' ?_, ownsRow_setCell_type d hc h3 o u, e.setCell hq u, f⟩
  · intro e'; simp at e'; subst e'; rw [hc] at a; injection a with a; injection a with _ a _; exact h1 a
  · intro e'; simp at e'; subst e'; rw [hc] at b; injection b with b; injection b with _ b _; exact h2 b
  · intro e'; simp at e'; subst e'; rw [hc] at c'; injection c' with b; injection b with _ b _; exact h2 b

theorem NewMid.setUp {w wr : World} {p gu gd : Nat} {vn : Value} {names : List ByteArray} {up down : List Nat} (h : NewMid w wr p gu gd vn names up down) (hgu : w.heap.size ≤ gu) (hne : gu ≠ gd) (k s : Nat) (hs : s < 2 ^ names.length) :
    NewMid w (wr.setCell ⟨gu, k, none⟩ (.int .u32 (s : Int))) p gu gd vn names (up.set k s) down := by
  obtain ⟨a, b, c, d, e, f, g⟩ := h
  refine ⟨at_setCell a ?_, ?_, at_setCell c (Ne.symm hne), ownsRow_setCell_type d b (by decide) k _, e.setCell hgu _, f.set k s hs, g⟩
  · intro e'; simp at e'; subst e'; rw [a] at b; simp at b
  · rw [World.setCell, Array.getElem?_modify, b]; simp [← set_u32s]

theorem NewMid.setDown {w wr : World} {p gu gd : Nat} {vn : Value} {names : List ByteArray} {up down : List Nat} (h : NewMid w wr p gu gd vn names up down) (hgd : w.heap.size ≤ gd) (hne : gu ≠ gd) (k s : Nat) (hs : s < 2 ^ names.length) :
    NewMid w (wr.setCell ⟨gd, k, none⟩ (.int .u32 (s : Int))) p gu gd vn names up (down.set k s) := by
  obtain ⟨a, b, c, d, e, f, g⟩ := h
  refine ⟨at_setCell a ?_, at_setCell b hne, ?_, ownsRow_setCell_type d c (by decide) k _, e.setCell hgd _, f, g.set k s hs⟩
  · intro e'; simp at e'; subst e'; rw [a] at c; simp at c
  · rw [World.setCell, Array.getElem?_modify, c]; simp [← set_u32s]

/-- What a walk reads and writes of it. -/
theorem NewMid.cells {w wr : World} {p gu gd : Nat} {vn : Value} {names : List ByteArray} {up down : List Nat} (h : NewMid w wr p gu gd vn names up down) :
    wr.cell? ⟨p, 1, none⟩ = some (.slice (some ⟨gu, 0, none⟩) names.length names.length) ∧ wr.cell? ⟨p, 2, none⟩ = some (.slice (some ⟨gd, 0, none⟩) names.length names.length) ∧
    (∀ k, k < names.length → wr.cell? ⟨gu, k, none⟩ = some (.int .u32 ((up.getD k 0 : Nat) : Int)) ∧ wr.frozen? ⟨gu, k, none⟩ = false ∧ wr.cell? ⟨gd, k, none⟩ = some (.int .u32 ((down.getD k 0 : Nat) : Int)) ∧ wr.frozen? ⟨gd, k, none⟩ = false) ∧ p ≠ gu ∧ p ≠ gd := by
  obtain ⟨a, b, c, d, e, f, g⟩ := h
  refine ⟨by simp [World.cell?, a], by simp [World.cell?, a], fun k hk => ⟨?_, by simp [World.frozen?, b], ?_, by simp [World.frozen?, c]⟩, ?_, ?_⟩
  · have := f.1
    simp [World.cell?, b, u32s, List.getD_eq_getElem?_getD]; rw [List.getElem?_eq_getElem (by omega)]; simp
  · have := g.1
    simp [World.cell?, c, u32s, List.getD_eq_getElem?_getD]; rw [List.getElem?_eq_getElem (by omega)]; simp
  · intro e'; subst e'; rw [a] at b; simp at b
  · intro e'; subst e'; rw [a] at c; simp at c

theorem NewMid.lat {w wr : World} {p gu gd : Nat} {vn : Value} {names : List ByteArray} {up down : List Nat} (h : NewMid w wr p gu gd vn names up down) (hpos : 0 < names.length) (hle : names.length ≤ 16) : Lat wr p ⟨names, up, down⟩ := by
  obtain ⟨a, b, c, d, e, f, g⟩ := h
  have ml : names.length ≤ maxLen := by unfold maxLen; omega
  refine ⟨vn, _, _, 0, nilS, nilS, a, owns_base d (Nat.zero_le _), ?_, ?_, .inl ⟨rfl, rfl, rfl⟩, ⟨hpos, hle, f.1, g.1, f.2, g.2⟩⟩
  · exact ⟨by simp [u32s], .inr ⟨gu, names.length, _, by rw [f.1], Nat.zero_le _, b, by rw [f.1]; exact Nat.le_refl _, ml, by simp [u32s, f.1], by rw [Nat.mul_one, List.take_of_length_le (by simp [u32s])]⟩⟩
  · exact ⟨by simp [u32s], .inr ⟨gd, names.length, _, by rw [g.1], Nat.zero_le _, c, by rw [g.1]; exact Nat.le_refl _, ml, by simp [u32s, g.1], by rw [Nat.mul_one, List.take_of_length_le (by simp [u32s])]⟩⟩
end Go.Proofs.YtckpffkofeoinaaGreatDoor

/- levels.New. -/
namespace Go.Proofs.YtckpffkofeoinaaGreatDoor
open Go.RowKit

theorem keep_far {w : World} {a b : Addr} {v u : Value} (h : w.cell? b = some u) (hne : a ≠ b) : (w.setCell a v).drew.cell? b = some u := (World.cell?_setCell_other _ _ _ _ hne).trans h

theorem placeI_lt (names : List ByteArray) (s : ByteArray) (h : 0 < names.length) : placeI names s < names.length := by
  have key : ∀ (l : List ByteArray) (i : Nat), Lib.idxFromS l s i < ((i + l.length : Nat) : Int) ∨ Lib.idxFromS l s i = -1 := by
    intro l
    induction l with
    | nil => intro i; right; rfl
    | cons x l ih =>
      intro i
      by_cases e : x = s
      · left
        rw [Lib.idxFromS_hit s (x :: l) 0 i (by simp) (by simpa using e) (by omega)]
        simp; omega
      · have h1 := ih (i + 1)
        have h2 : Lib.idxFromS (x :: l) s i = Lib.idxFromS l s (i + 1) := by simp [Lib.idxFromS, e]
        rw [h2]
        simp only [List.length_cons]
        rcases h1 with h1 | h1
        · left; omega
        · exact .inr h1
  have := key names 0
  unfold placeI Lib.idxOfS
  omega

def strs2 (pairs : List (ByteArray × ByteArray)) : List Value := pairs.flatMap fun q => [.string q.1, .string q.2]

theorem strs2_at (pairs : List (ByteArray × ByteArray)) {k : Nat} (h : k < pairs.length) : (strs2 pairs)[k * 2]? = some (.string pairs[k].1) ∧ (strs2 pairs)[k * 2 + 1]? = some (.string pairs[k].2) := by
  induction pairs generalizing k with
  | nil => simp at h
  | cons q l ih =>
    cases k with
    | zero => simp [strs2]
    | succ k =>
      have := ih (k := k) (by simpa using h)
      simp only [strs2, List.flatMap_cons, List.cons_append, List.nil_append] at this ⊢
      rw [show (k + 1) * 2 = k * 2 + 1 + 1 by omega]
      simpa using this

/-- The sets behind k pairs. -/
def upPto (names : List ByteArray) (pairs : List (ByteArray × ByteArray)) (k : Nat) : List Nat := (pairs.take k).foldl (addP names) (upsTo names.length names.length)

def warshTo (n : Nat) (u : List Nat) (k : Nat) : List Nat := (List.range k).foldl (wRow n) u
def rowTo (k : Nat) (u : List Nat) (a : Nat) : List Nat := (List.range a).foldl (wStep k) u
def downsTo (n : Nat) (u : List Nat) (k : Nat) : List Nat := (List.range k).foldl (dRow n u) (List.replicate n 0)
def dRowTo (u d : List Nat) (a b : Nat) : List Nat := (List.range b).foldl (dStep u a) d

def pairV (e : Int) (pv : Value) : Ending := .returned (.tuple #[pv, .int .i64 e])

/-- What New hands back: a fresh lattice, or nil. -/
def NewPost (w w' : World) (names : List ByteArray) (pairs : List (ByteArray × ByteArray)) (e : Ending) : Prop :=
  Below w.heap.size w w' ∧ ((newE names pairs = 0 ∧ ∃ p, e = pairV 0 (.pointer (some ⟨p, 0, none⟩)) ∧ w.heap.size ≤ p ∧ Lat w' p (newL names pairs)) ∨ (newE names pairs ≠ 0 ∧ e = pairV (newE names pairs) (.pointer none)))

theorem NewPost.err {w w' : World} {names : List ByteArray} {pairs : List (ByteArray × ByteArray)} {c : Int} (h : newE names pairs = c) (hc : c ≠ 0) (hB : Below w.heap.size w w') : NewPost w w' names pairs (.returned (.tuple #[.pointer none, .int .i64 c])) :=
  ⟨hB, .inr ⟨by rw [h]; exact hc, by rw [h]; rfl⟩⟩

set_option maxRecDepth 100000 in
set_option maxHeartbeats 8000000 in
theorem new_ok (A B : Option Addr) (c c2 n m : Nat) (names : List ByteArray) (pairs : List (ByteArray × ByteArray)) (w : World)
    (hn : names.length = n) (hc : n ≤ c) (hcl : c ≤ 9223372036854775807) (hr : Rd w A (names.map Value.string)) (hs : ShortS names) (hl : names.length ≤ 140737488355328)
    (hm : pairs.length = m) (hrp : Rd w B (strs2 pairs)) (hml : m ≤ 140737488355328) (hE : checkE names = 0) (hpos : 0 < n) (hle : n ≤ 16) :
    Calls Tryz.prog 20 #[.slice A n c, .slice B m c2] w fun e w' => NewPost w w' names pairs e := by
  subst hn
  subst hm
  have HR := Lib.hid hr; have HS := Lib.hid hs; have HE := Lib.hid hE; have HRP := Lib.hid hrp; clear hr hs hE hrp
  have hmk := make_sets hle
  go_enter Tryz.func20, Tryz.ntmps20
  go_wp2_with (go_at_call 44; refine (check_any _ _ _ names _ rfl hc HR.out HS.out hl hcl).mono ?_; rintro e w1 ⟨rfl, hB⟩; rw [HE.out]; have HB := Lib.hid hB; clear hB)
  go_upto_region 5 with fail
  go_cut [8] (fun s8 wx => NewStart w1 wx names s8)
  case first =>
    -- BEGIN first
    have hr1 := HR.out.below HB.out
    obtain ⟨b, o, rfl, hc0⟩ := hr1.at (j := 0) (v := .string (names[0]'hpos)) (by simp [hpos])
    have HRC : Hid (∀ (j : Nat), j < names.length → w1.cell? ⟨b, o + j, none⟩ = some (.string (names.getD j ByteArray.empty))) := by
      intro j hj
      rcases hr1 with e | ⟨b', o', e, hr⟩
      · simp at e; rw [e] at hj; simp at hj
      · injection e with e; injection e with e1 e2; subst e1; subst e2
        exact hr j _ (by rw [List.getElem?_map, List.getD_eq_getElem?_getD, List.getElem?_eq_getElem hj]; rfl)
    have hblt : b < w1.heap.size := World.block_lt_of_cell? w1 _ hc0
    clear hr1 hc0
    go_region_held3 (fun w' => Below w1.heap.size w1 w')
      (first
        | exact (Below.refl _ _).drew
        | assumption
        | exact Below.alloc (by assumption) (Below.size (B := w1.heap.size) (by assumption)) _
        | exact Below.trans (by assumption) (Below.mono (by assumption) (Below.size (B := w1.heap.size) (by assumption))))
      ((go_at_call 35; refine (Tryz.slices_Clone_string b o _ _ names _ (Nat.le_refl _) (by omega) (fun j hj => by rw [Below.cell (B := w1.heap.size) (w := w1) (by assumption) hblt]; exact HRC.out j hj)).mono ?_; rintro e w2 ⟨v', rfl, ho, hne, hb⟩; rw [List.take_length] at ho; obtain ⟨av, cv, rfl, _, _, _⟩ := owns_form ho; have HO := Lib.hid ho; clear ho hne))
    all_goals
      go_wp2_with fail
      go_meet
      have hz := hb.size
      simp at hz
      have ho := HO.out
      refine NewStart.mk (at_new (by simp)) ?_ ?_ ?_ ?_ ?_ ?_ ?_ ?_
      · first | omega | (simp; omega) | (simp; done)
      · first | omega | (simp; omega) | (simp; done)
      · first | omega | (simp; omega) | (simp; done)
      · first | omega | (simp; omega) | (simp; done)
      · repeat (first | (refine at_new ?_; first | rfl | (simp; done) | (simp; omega)) | refine at_alloc ?_ | refine at_below hb ?_)
      · repeat (first | (refine at_new ?_; first | rfl | (simp; done) | (simp; omega)) | refine at_alloc ?_ | refine at_below hb ?_)
      · first | exact owns_base (((ho.alloc _).alloc _).alloc _) (by first | exact Nat.le_refl _ | omega | (simp; omega) | (simp; done)) | exact owns_base ((ho.alloc _).alloc _) (by first | omega | (simp; omega) | (simp; done)) | exact owns_base (ho.alloc _) (by first | omega | (simp; omega) | (simp; done))
      · assumption
    -- END first
  case rest =>
    obtain ⟨p, gu, gd, vn, rfl, hp1, hgu, hgd, hne, q1, q2, q3, q4, q5⟩ := hcut
    have HM := Lib.hid (NewMid.of_start q1 q2 q3 q4 q5)
    clear q1 q2 q3 q4 q5 hmk
    go_wp2_with fail
    go_loopw [34] (fun i wr => ∃ (k : Nat), k ≤ names.length ∧ i = .int .i64 k ∧ Hid (NewMid w1 wr p gu gd vn names (upsTo names.length k) (List.replicate names.length 0))) (fun i _ => names.length - (intOf i).toNat)
    case atStart => exact ⟨0, Nat.zero_le _, rfl, HM⟩
    case round =>
      obtain ⟨k, hk, rfl, HK⟩ := hrel
      by_cases hlt : k < names.length
      · obtain ⟨mk, hmk⟩ : ∃ m, 2 ^ k = m := ⟨_, rfl⟩
        have s1 := shl_u32 (n := k) (by omega)
        have HN : Hid (∀ n, NewMid w1 ((wr.setCell ⟨gu, k, none⟩ (.int .u32 (mk : Int))).drewN n) p gu gd vn names (upsTo names.length (k + 1)) (List.replicate names.length 0)) := by
          intro n
          rw [← hmk, ← upsTo_set hlt]
          exact (HK.out.setUp hgu hne k _ (pow_lt hlt)).drewN n
        rw [hmk] at s1
        clear hmk
        obtain ⟨cc1, cc2, cr, np1, np2⟩ := HK.out.cells
        obtain ⟨cg, fg, _, _⟩ := cr k hlt
        clear cr cc2
        have nq : (⟨gu, k, none⟩ : Addr) ≠ ⟨p, 1, none⟩ := by intro e; injection e with e _ _; exact np1 e.symm
        go_wp2_with fail
        go_region
        all_goals
          go_wp2
          go_roundw
          case rel => exact ⟨k + 1, by omega, by go_num, HN.out 1⟩
          case measure => simp [intOf]; omega
      · obtain rfl : k = names.length := by omega
        have HM2 : Hid (NewMid w1 wr p gu gd vn names (upPto names pairs 0) (List.replicate names.length 0)) := HK.out
        have HB1 : Hid (Below w1.heap.size w1 wr) := HK.out.2.2.2.2.1
        clear HK HM
        go_wp2_with fail
        obtain ⟨wx, rfl⟩ : ∃ wx : World, wx = wr := ⟨_, rfl⟩
        go_loopw [48] (fun i wr => ∃ (k : Nat), k ≤ pairs.length ∧ i = .int .i64 k ∧ Hid ((pairs.take k).all (pairOk names) = true) ∧ Hid (NewMid w1 wr p gu gd vn names (upPto names pairs k) (List.replicate names.length 0))) (fun i _ => pairs.length - (intOf i).toNat)
        case atStart => exact ⟨0, Nat.zero_le _, rfl, rfl, HM2⟩
        case round =>
          obtain ⟨k, hk, rfl, HA, HK⟩ := hrel
          by_cases hlt : k < pairs.length
          · obtain ⟨a1, a2⟩ := strs2_at pairs hlt
            have hrp := (HRP.out.below HB.out).below HK.out.2.2.2.2.1
            obtain ⟨b, o, rfl, cp1⟩ := hrp.at a1
            obtain ⟨b', o', e1, cp2⟩ := hrp.at a2
            obtain ⟨rfl, rfl⟩ : b' = b ∧ o' = o := by simpa using e1.symm
            rw [← Nat.add_assoc] at cp2
            clear e1 hrp a1 a2
            have hall1 : ∀ (b : Bool), pairOk names pairs[k] = b → (pairs.take (k + 1)).all (pairOk names) = b := by
              intro b hb
              rw [List.take_succ_eq_append_getElem hlt, List.all_append, HA.out, List.all_cons, List.all_nil, hb]; simp
            have hup1 : upPto names pairs (k + 1) = addP names (upPto names pairs k) pairs[k] := by
              rw [upPto, List.take_succ_eq_append_getElem hlt, List.foldl_append]; rfl
            have hno : pairOk names pairs[k] = false → newE names pairs = 3 := by
              intro hb
              rw [newE, if_neg (by rw [HE.out]; simp), if_pos]
              rw [List.all_eq_false]; exact ⟨_, List.getElem_mem hlt, by rw [hb]; simp⟩
            have HALL := Lib.hid hall1; have HUP := Lib.hid hup1; have HNO := Lib.hid hno; clear hall1 hup1 hno
            have hq : pairs[k] = (pairs[k].1, pairs[k].2) := rfl
            generalize pairs[k].1 = s1 at *
            generalize pairs[k].2 = s2 at *
            rw [hq] at HALL HUP HNO
            clear hq
            have HL : Hid (∀ n, Lat ((wr.alloc (.cells #[.string s1, .string s2] 107)).drewN n) p ⟨names, upPto names pairs k, List.replicate names.length 0⟩) := fun n => ((HK.out.alloc _).drewN n).lat hpos hle
            have HMA : Hid (NewMid w1 (wr.alloc (.cells #[.string s1, .string s2] 107)) p gu gd vn names (upPto names pairs k) (List.replicate names.length 0)) := HK.out.alloc _
            have l1 := placeI_lt names s1 hpos; have l2 := placeI_lt names s2 hpos
            go_wp2_with fail
            by_cases h1 : placeI names s1 < 0
            · have HN3 := Lib.hid (HNO.out (by rw [pairOk, decide_eq_false (p := 0 ≤ placeI names s1) (by omega)]; rfl))
              go_quiet ((go_at_call 45; exact Calls.quiet_of_same ((place_any p ⟨names, upPto names pairs k, List.replicate names.length 0⟩ _ _ (HL.out _)).mono fun e w' h => h)))
              go_wp2
              go_ret2
              exact NewPost.err HN3.out (by decide) (HB.out.trans ((below_drewN HMA.out.2.2.2.2.1 _).mono HB.out.size))
            · by_cases h2 : placeI names s2 < 0
              · have HN3 := Lib.hid (HNO.out (by rw [pairOk, decide_eq_false (p := 0 ≤ placeI names s2) (by omega)]; simp))
                go_quiet ((go_at_call 45; exact Calls.quiet_of_same ((place_any p ⟨names, upPto names pairs k, List.replicate names.length 0⟩ _ _ (HL.out _)).mono fun e w' h => h)))
                go_wp2
                go_ret2
                exact NewPost.err HN3.out (by decide) (HB.out.trans ((below_drewN HMA.out.2.2.2.2.1 _).mono HB.out.size))
              · have hok := HALL.out true (by rw [pairOk, decide_eq_true (p := 0 ≤ placeI names s1) (by omega), decide_eq_true (p := 0 ≤ placeI names s2) (by omega)]; rfl)
                obtain ⟨ia, hia⟩ : ∃ i : Nat, placeI names s1 = (i : Int) := ⟨(placeI names s1).toNat, by omega⟩
                obtain ⟨ib, hib⟩ : ∃ i : Nat, placeI names s2 = (i : Int) := ⟨(placeI names s2).toNat, by omega⟩
                have lia : ia < names.length := by omega
                have lib : ib < names.length := by omega
                obtain ⟨cc1, cc2, cr, np1, np2⟩ := HMA.out.cells
                obtain ⟨cg, fg, _, _⟩ := cr ia lia
                have hua := HMA.out.2.2.2.2.2.1.get ia
                have HN : Hid (∀ n, NewMid w1 (((wr.alloc (.cells #[.string s1, .string s2] 107)).setCell ⟨gu, ia, none⟩ (.int .u32 (((upPto names pairs k).getD ia 0 ||| 2 ^ ib : Nat) : Int))).drewN n) p gu gd vn names (upPto names pairs (k + 1)) (List.replicate names.length 0)) := by
                  intro n
                  have e : upPto names pairs (k + 1) = (upPto names pairs k).set ia ((upPto names pairs k).getD ia 0 ||| 2 ^ ib) := by
                    rw [HUP.out, addP]; simp only [hia, hib, Int.toNat_natCast]
                  rw [e]
                  exact (HMA.out.setUp hgu hne ia _ (Bnd.or hua (pow_lt lib))).drewN n
                have s3 := shl_u32 (n := ib) (by omega)
                have b3 := (pow16 (n := ib) (by omega)).2
                have hua2 := LatD.Ok.lt hle hua
                generalize (upPto names pairs k).getD ia 0 = ua at *
                obtain ⟨mb, hmb⟩ : ∃ m, 2 ^ ib = m := ⟨_, rfl⟩
                rw [hmb] at s3 b3 HN
                clear hmb
                have s4 : bits BinOp.or IntKind.u32 (ua : Int) (mb : Int) = ((ua ||| mb : Nat) : Int) := u32_or_nat ua mb (by omega) (by omega)
                have HOK := Lib.hid hok
                have i0 : (0 : Int) ≤ (ia : Int) := Int.natCast_nonneg _
                have i1 : (ia : Int) < (names.length : Int) := by omega
                have j0 : (0 : Int) ≤ (ib : Int) := Int.natCast_nonneg _
                clear hok cr cc2 l1 l2 h1 h2 hua cp1 cp2
                go_quiet ((go_at_call 45; exact Calls.quiet_of_same ((place_any p ⟨names, upPto names pairs k, List.replicate names.length 0⟩ _ _ (HL.out _)).mono fun e w' h => h)))
                go_wp2_with fail
                go_region
                all_goals
                  go_wp2
                  go_roundw
                  case rel => exact ⟨k + 1, by omega, by go_num, HOK.out, HN.out _⟩
                  case measure => simp [intOf]; omega
          · obtain rfl : k = pairs.length := by omega
            have HAP : Hid (pairs.all (pairOk names) = true) := by have := HA.out; rwa [List.take_length] at this
            have HW0 : Hid (NewMid w1 wr p gu gd vn names (warshTo names.length (upP names pairs) 0) (List.replicate names.length 0)) := by
              have := HK.out; rw [upPto, List.take_length] at this; exact this
            clear HK HA HM2 HB1
            go_wp2_with fail
            go_loopw [79] (fun i wr => ∃ (k : Nat), k ≤ names.length ∧ i = .int .i64 k ∧ Hid (NewMid w1 wr p gu gd vn names (warshTo names.length (upP names pairs) k) (List.replicate names.length 0))) (fun i _ => names.length - (intOf i).toNat)
            case atStart => exact ⟨0, Nat.zero_le _, rfl, HW0⟩
            case round =>
              obtain ⟨k, hk, rfl, HK⟩ := hrel
              by_cases hlt : k < names.length
              · go_wp2_with fail
                obtain ⟨wy, rfl⟩ : ∃ wy : World, wy = wr := ⟨_, rfl⟩
                go_loopw [83] (fun i wr => ∃ (a : Nat), a ≤ names.length ∧ i = .int .i64 a ∧ Hid (NewMid w1 wr p gu gd vn names (rowTo k (warshTo names.length (upP names pairs) k) a) (List.replicate names.length 0))) (fun i _ => names.length - (intOf i).toNat)
                case atStart => exact ⟨0, Nat.zero_le _, rfl, HK⟩
                case round =>
                  obtain ⟨a, ha, rfl, HR2⟩ := hrel
                  by_cases hla : a < names.length
                  · obtain ⟨cc1, cc2, cr, np1, np2⟩ := HR2.out.cells
                    obtain ⟨ca, fa, _, _⟩ := cr a hla
                    obtain ⟨ck, _, _, _⟩ := cr k hlt
                    have hua := HR2.out.2.2.2.2.2.1.get a
                    have huk := HR2.out.2.2.2.2.2.1.get k
                    have hstep : rowTo k (warshTo names.length (upP names pairs) k) (a + 1) = wStep k (rowTo k (warshTo names.length (upP names pairs) k) a) a := by simp [rowTo, List.range_succ]
                    have HN : Hid (((rowTo k (warshTo names.length (upP names pairs) k) a).getD a 0).testBit k = true → ∀ n, NewMid w1 ((wr.setCell ⟨gu, a, none⟩ (.int .u32 (((rowTo k (warshTo names.length (upP names pairs) k) a).getD a 0 ||| (rowTo k (warshTo names.length (upP names pairs) k) a).getD k 0 : Nat) : Int))).drewN n) p gu gd vn names (rowTo k (warshTo names.length (upP names pairs) k) (a + 1)) (List.replicate names.length 0)) := by
                      intro hb n
                      rw [hstep, wStep, if_pos hb]
                      exact (HR2.out.setUp hgu hne a _ (Bnd.or hua huk)).drewN n
                    have HN2 : Hid (((rowTo k (warshTo names.length (upP names pairs) k) a).getD a 0).testBit k = false → NewMid w1 wr p gu gd vn names (rowTo k (warshTo names.length (upP names pairs) k) (a + 1)) (List.replicate names.length 0)) := by
                      intro hb
                      rw [hstep, wStep, if_neg (by rw [hb]; simp)]
                      exact HR2.out
                    have lua := LatD.Ok.lt hle hua
                    have luk := LatD.Ok.lt hle huk
                    clear hstep hua huk cr cc2
                    generalize (rowTo k (warshTo names.length (upP names pairs) k) a).getD a 0 = ua at *
                    generalize (rowTo k (warshTo names.length (upP names pairs) k) a).getD k 0 = uk at *
                    have s4 : bits BinOp.or IntKind.u32 (ua : Int) (uk : Int) = ((ua ||| uk : Nat) : Int) := u32_or_nat ua uk (by omega) (by omega)
                    have i0 : (0 : Int) ≤ (a : Int) := Int.natCast_nonneg _
                    have i1 : (a : Int) < (names.length : Int) := by omega
                    have j0 : (0 : Int) ≤ (k : Int) := Int.natCast_nonneg _
                    have j1 : (k : Int) < (names.length : Int) := by omega
                    cases hbit : ua.testBit k with
                    | true =>
                      have HX := Lib.hid (HN.out hbit)
                      have HBIT := Lib.hid hbit; clear hbit
                      go_wp2_with (go_at_call 46; refine (has_any _ _ _ (by omega) (by omega) (by omega)).mono ?_; rintro e w' ⟨rfl, rfl⟩; rw [Int.toNat_natCast, HBIT.out])
                      go_region
                      all_goals
                        go_wp2
                        go_roundw
                        case rel => exact ⟨a + 1, by omega, by go_num, HX.out 1⟩
                        case measure => simp [intOf]; omega
                    | false =>
                      have HX := Lib.hid (HN2.out hbit)
                      have HBIT := Lib.hid hbit; clear hbit
                      go_wp2_with (go_at_call 46; refine (has_any _ _ _ (by omega) (by omega) (by omega)).mono ?_; rintro e w' ⟨rfl, rfl⟩; rw [Int.toNat_natCast, HBIT.out])
                      go_roundw
                      case rel => exact ⟨a + 1, by omega, by go_num, HX.out⟩
                      case measure => simp [intOf]; omega
                  · obtain rfl : a = names.length := by omega
                    have HX : Hid (NewMid w1 wr p gu gd vn names (warshTo names.length (upP names pairs) (k + 1)) (List.replicate names.length 0)) := by
                      have := HR2.out
                      rw [warshTo, List.range_succ, List.foldl_append]; exact this
                    go_wp2_with fail
                    go_roundw
                    case rel => exact ⟨k + 1, by omega, by go_num, HX⟩
                    case measure => simp [intOf]; omega
              · obtain rfl : k = names.length := by omega
                have HD0 : Hid (NewMid w1 wr p gu gd vn names (warsh names.length (upP names pairs)) (downsTo names.length (warsh names.length (upP names pairs)) 0)) := HK.out
                clear HK HW0
                go_wp2_with fail
                go_loopw [114] (fun i wr => ∃ (k : Nat), k ≤ names.length ∧ i = .int .i64 k ∧ Hid (NewMid w1 wr p gu gd vn names (warsh names.length (upP names pairs)) (downsTo names.length (warsh names.length (upP names pairs)) k))) (fun i _ => names.length - (intOf i).toNat)
                case atStart => exact ⟨0, Nat.zero_le _, rfl, HD0⟩
                case round =>
                  obtain ⟨k, hk, rfl, HK⟩ := hrel
                  by_cases hlt : k < names.length
                  · go_wp2_with fail
                    obtain ⟨wz, rfl⟩ : ∃ wz : World, wz = wr := ⟨_, rfl⟩
                    go_loopw [118] (fun i wr => ∃ (a : Nat), a ≤ names.length ∧ i = .int .i64 a ∧ Hid (NewMid w1 wr p gu gd vn names (warsh names.length (upP names pairs)) (dRowTo (warsh names.length (upP names pairs)) (downsTo names.length (warsh names.length (upP names pairs)) k) k a))) (fun i _ => names.length - (intOf i).toNat)
                    case atStart => exact ⟨0, Nat.zero_le _, rfl, HK⟩
                    case round =>
                      obtain ⟨a, ha, rfl, HR2⟩ := hrel
                      by_cases hla : a < names.length
                      · obtain ⟨cc1, cc2, cr, np1, np2⟩ := HR2.out.cells
                        obtain ⟨_, _, ca, fa⟩ := cr a hla
                        obtain ⟨ck, _, _, _⟩ := cr k hlt
                        have hda := HR2.out.2.2.2.2.2.2.get a
                        have huk := HR2.out.2.2.2.2.2.1.get k
                        have hstep : dRowTo (warsh names.length (upP names pairs)) (downsTo names.length (warsh names.length (upP names pairs)) k) k (a + 1) = dStep (warsh names.length (upP names pairs)) k (dRowTo (warsh names.length (upP names pairs)) (downsTo names.length (warsh names.length (upP names pairs)) k) k a) a := by simp [dRowTo, List.range_succ]
                        generalize hDD : dRowTo (warsh names.length (upP names pairs)) (downsTo names.length (warsh names.length (upP names pairs)) k) k a = dd at *
                        have HN : Hid (((warsh names.length (upP names pairs)).getD k 0).testBit a = true → ∀ n, NewMid w1 ((wr.setCell ⟨gd, a, none⟩ (.int .u32 ((dd.getD a 0 ||| 2 ^ k : Nat) : Int))).drewN n) p gu gd vn names (warsh names.length (upP names pairs)) (dRowTo (warsh names.length (upP names pairs)) (downsTo names.length (warsh names.length (upP names pairs)) k) k (a + 1))) := by
                          intro hb n
                          rw [hstep, dStep, if_pos hb]
                          exact (HR2.out.setDown hgd hne a _ (Bnd.or hda (pow_lt hlt))).drewN n
                        have HN2 : Hid (((warsh names.length (upP names pairs)).getD k 0).testBit a = false → NewMid w1 wr p gu gd vn names (warsh names.length (upP names pairs)) (dRowTo (warsh names.length (upP names pairs)) (downsTo names.length (warsh names.length (upP names pairs)) k) k (a + 1))) := by
                          intro hb
                          rw [hstep, dStep, if_neg (by rw [hb]; simp)]
                          exact HR2.out
                        have lda := LatD.Ok.lt hle hda
                        have luk := LatD.Ok.lt hle huk
                        have s3 := shl_u32 (n := k) (by omega)
                        have b3 := (pow16 (n := k) (by omega)).2
                        clear hstep hda huk cr hDD
                        obtain ⟨mk, hmk⟩ : ∃ m, 2 ^ k = m := ⟨_, rfl⟩
                        rw [hmk] at s3 b3 HN
                        clear hmk
                        generalize dd.getD a 0 = da at *
                        generalize (warsh names.length (upP names pairs)).getD k 0 = uk at *
                        have s4 : bits BinOp.or IntKind.u32 (da : Int) (mk : Int) = ((da ||| mk : Nat) : Int) := u32_or_nat da mk (by omega) (by omega)
                        have i0 : (0 : Int) ≤ (a : Int) := Int.natCast_nonneg _
                        have i1 : (a : Int) < (names.length : Int) := by omega
                        have j0 : (0 : Int) ≤ (k : Int) := Int.natCast_nonneg _
                        have j1 : (k : Int) < (names.length : Int) := by omega
                        cases hbit : uk.testBit a with
                        | true =>
                          have HX := Lib.hid (HN.out hbit)
                          have HBIT := Lib.hid hbit; clear hbit
                          go_wp2_with (go_at_call 46; refine (has_any _ _ _ (by omega) (by omega) (by omega)).mono ?_; rintro e w' ⟨rfl, rfl⟩; rw [Int.toNat_natCast, HBIT.out])
                          go_region
                          all_goals
                            go_wp2
                            go_roundw
                            case rel => exact ⟨a + 1, by omega, by go_num, HX.out 1⟩
                            case measure => simp [intOf]; omega
                        | false =>
                          have HX := Lib.hid (HN2.out hbit)
                          have HBIT := Lib.hid hbit; clear hbit
                          go_wp2_with (go_at_call 46; refine (has_any _ _ _ (by omega) (by omega) (by omega)).mono ?_; rintro e w' ⟨rfl, rfl⟩; rw [Int.toNat_natCast, HBIT.out])
                          go_roundw
                          case rel => exact ⟨a + 1, by omega, by go_num, HX.out⟩
                          case measure => simp [intOf]; omega
                      · obtain rfl : a = names.length := by omega
                        have HX : Hid (NewMid w1 wr p gu gd vn names (warsh names.length (upP names pairs)) (downsTo names.length (warsh names.length (upP names pairs)) (k + 1))) := by
                          have := HR2.out
                          rw [downsTo, List.range_succ, List.foldl_append]; exact this
                        go_wp2_with fail
                        go_roundw
                        case rel => exact ⟨k + 1, by omega, by go_num, HX⟩
                        case measure => simp [intOf]; omega
                  · obtain rfl : k = names.length := by omega
                    have HLAT : Hid (Lat wr p (newL names pairs)) := HK.out.lat hpos hle
                    have HBW : Hid (Below w.heap.size w wr) := HB.out.trans (HK.out.2.2.2.2.1.mono HB.out.size)
                    have hpw : w.heap.size ≤ p := Nat.le_trans HB.out.size hp1
                    have hres : newE names pairs = if rightB (newL names pairs) = false then 9 else 0 := by
                      rw [newE, if_neg (by rw [HE.out]; simp), if_neg (by rw [HAP.out]; simp)]
                    have HRES := Lib.hid hres; clear hres HK HD0
                    cases hright : rightB (newL names pairs) with
                    | true =>
                      have HZ : Hid (newE names pairs = 0) := by rw [HRES.out, if_neg (by rw [hright]; simp)]; rfl
                      have HRT := Lib.hid hright; clear hright
                      go_wp2_with (go_at_call 47; refine (right_any p _ _ HLAT.out).mono ?_; rintro e w' ⟨rfl, n, rfl⟩; rw [HRT.out])
                      go_ret2
                      exact ⟨below_drewN HBW.out _, .inl ⟨HZ.out, p, rfl, hpw, HLAT.out.drewN _⟩⟩
                    | false =>
                      have HZ : Hid (newE names pairs = 9) := by rw [HRES.out, if_pos hright]; rfl
                      have HRT := Lib.hid hright; clear hright
                      go_wp2_with (go_at_call 47; refine (right_any p _ _ HLAT.out).mono ?_; rintro e w' ⟨rfl, n, rfl⟩; rw [HRT.out])
                      go_ret2
                      exact NewPost.err HZ.out (by decide) (below_drewN HBW.out _)

theorem checkE_zero {names : List ByteArray} (h : checkE names = 0) : 0 < names.length ∧ names.length ≤ 16 := by
  unfold checkE at h
  split at h
  · omega
  · omega

set_option maxRecDepth 100000 in
theorem new_any (A B : Option Addr) (c c2 n m : Nat) (names : List ByteArray) (pairs : List (ByteArray × ByteArray)) (w : World)
    (hn : names.length = n) (hc : n ≤ c) (hcl : c ≤ 9223372036854775807) (hr : Rd w A (names.map Value.string)) (hs : ShortS names) (hl : names.length ≤ 140737488355328)
    (hm : pairs.length = m) (hrp : Rd w B (strs2 pairs)) (hml : m ≤ 140737488355328) :
    Calls Tryz.prog 20 #[.slice A n c, .slice B m c2] w fun e w' => NewPost w w' names pairs e := by
  by_cases hE : checkE names = 0
  · obtain ⟨h1, h2⟩ := checkE_zero hE
    exact new_ok A B c c2 n m names pairs w hn hc hcl hr hs hl hm hrp hml hE (by omega) (by omega)
  · subst hn
    have hfin : newE names pairs = checkE names := by rw [newE, if_pos hE]
    have HF := Lib.hid hfin; clear hfin
    have HR := Lib.hid hr; have HS := Lib.hid hs; clear hr hs hrp
    have hb : (checkE names != 0) = true := by simpa using hE
    have HE := Lib.hid hE; clear hE
    obtain ⟨ce, hce⟩ : ∃ x, checkE names = x := ⟨_, rfl⟩
    rw [hce] at hb HE HF
    have HCE := Lib.hid hce; clear hce
    go_enter Tryz.func20, Tryz.ntmps20
    go_wp2_with (go_at_call 44; refine (check_any _ _ _ names _ rfl hc HR.out HS.out hl hcl).mono ?_; rintro e w1 ⟨rfl, hB⟩; rw [HCE.out]; have HB := Lib.hid hB; clear hB)
    go_ret2
    exact NewPost.err HF.out HE.out HB.out
end Go.Proofs.YtckpffkofeoinaaGreatDoor
