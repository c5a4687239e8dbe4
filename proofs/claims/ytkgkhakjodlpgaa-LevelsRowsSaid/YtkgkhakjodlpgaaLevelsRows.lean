/- The walk of LevelsRows. -/
import Derived.Test.YtkgkhakjodlpgaaTwo
import Derived.Test.YtkgkhakjodlpgaaPRows
import Derived.Test.YtkgkhakjodlpgaaLevelsCovers
import Derived.Deep.LoopGhost
import Derived.Deep.CutBlock
import Derived.Deep.DeepCutAuto
import Derived.Deep.RegionLaw
namespace Go.Proofs.Ytkgkhakjodlpgaa
open Go.RowKit

theorem shl_i64 {k : Nat} (h : k ≤ 4) : IntKind.i64.wrap (2 ^ k) = ((2 ^ k : Nat) : Int) := by
  match k, h with
  | 0, _ => decide
  | 1, _ => decide
  | 2, _ => decide
  | 3, _ => decide
  | 4, _ => decide

theorem i64_small {m : Nat} (h : m < 1000) : IntKind.i64.wrap (m : Int) = (m : Int) := by
  simp [IntKind.wrap, IntKind.signed, IntKind.bits]; omega

theorem bits_chk : ((List.range 16).all fun a => (List.range 16).all fun b => bits BinOp.or IntKind.i64 (a : Int) (b : Int) == ((a ||| b : Nat) : Int) && bits BinOp.and IntKind.i64 (a : Int) (b : Int) == ((a &&& b : Nat) : Int)) = true := by kernel_rfl
theorem bits_small {a b : Nat} (ha : a < 16) (hb : b < 16) : bits BinOp.or IntKind.i64 (a : Int) (b : Int) = ((a ||| b : Nat) : Int) ∧ bits BinOp.and IntKind.i64 (a : Int) (b : Int) = ((a &&& b : Nat) : Int) := by
  have h := List.all_eq_true.1 (List.all_eq_true.1 bits_chk a (List.mem_range.2 ha)) b (List.mem_range.2 hb)
  simp only [Bool.and_eq_true, beq_iff_eq] at h
  exact h

theorem bit_form (m j : Nat) : (((m : Int) / 2 ^ j).tmod 2 == 0) = (m / 2 ^ j % 2 == 0) := by
  have e1 : (m : Int) / 2 ^ j = ((m / 2 ^ j : Nat) : Int) := by norm_cast
  rw [e1]
  generalize m / 2 ^ j = q
  have e2 : (q : Int).tmod 2 = ((q % 2 : Nat) : Int) := rfl
  rw [e2]
  rcases Nat.mod_two_eq_zero_or_one q with h | h <;> rw [h] <;> rfl

theorem rowP_length (i : Nat) : (rowP i).length = i := by simp [rowP]
theorem rowP_succ (i : Nat) : rowP (i + 1) = rowP i ++ [(lets.getD i ByteArray.empty, lets.getD (i + 1) ByteArray.empty)] := by
  unfold rowP; rw [List.range_succ, List.map_append]; rfl
theorem setRow_yes {i j : Nat} (h : i / 2 ^ j % 2 = 0) : setRow i (j + 1) = setRow i j ++ [(lets.getD i ByteArray.empty, lets.getD (i + 2 ^ j) ByteArray.empty)] := by
  unfold setRow; rw [List.range_succ, List.filter_append, List.map_append]; simp [h]
theorem setRow_no {i j : Nat} (h : ¬ i / 2 ^ j % 2 = 0) : setRow i (j + 1) = setRow i j := by
  unfold setRow; rw [List.range_succ, List.filter_append, List.map_append]; simp [h]
theorem setRow_len (i j : Nat) : (setRow i j).length ≤ j := by
  unfold setRow; rw [List.length_map]; exact Nat.le_trans (List.length_filter_le _ _) (by simp)
theorem setsP_succ (k i : Nat) : setsP k (i + 1) = setsP k i ++ setRow i k := by
  unfold setsP; rw [List.range_succ, List.flatMap_append]; simp
theorem setsP_len (k i : Nat) : (setsP k i).length ≤ i * k := by
  induction i with
  | zero => simp [setsP]
  | succ i ih => rw [setsP_succ, List.length_append, Nat.add_mul, Nat.one_mul]; have := setRow_len i k; omega
theorem setLen {k i j : Nat} (hk : k ≤ 4) (hi : i ≤ 16) (hj : j ≤ k) : (setsP k i ++ setRow i j).length ≤ 100 := by
  rw [List.length_append]
  have h1 := setsP_len k i; have h2 := setRow_len i j
  have h3 : i * k ≤ 16 * 4 := Nat.mul_le_mul hi hk
  omega
theorem pow4 {k : Nat} (h1 : 1 ≤ k) (h : k ≤ 4) : 2 ≤ 2 ^ k ∧ 2 ^ k ≤ 16 := by
  match k, h1, h with
  | 1, _, _ => decide
  | 2, _, _ => decide
  | 3, _, _ => decide
  | 4, _, _ => decide

/-- The two rows as they have come so far: so many pairs of the row, the sets of m places, and so many of the next one. -/
structure Grow (w2 wr : World) (k : Nat) (r s : Value) (m mr j : Nat) : Prop where
  hb : Below w2.heap.size w2 wr
  hr : wr.ownsRow w2.heap.size 26 2 r mr (strs2 (rowP mr))
  hs : wr.ownsRow w2.heap.size 26 2 s (setsP k m ++ setRow m j).length (strs2 (setsP k m ++ setRow m j))
  ap : Apart r s

theorem Grow.mono {w2 wr w' : World} {k m mr j : Nat} {r s : Value} (h : Grow w2 wr k r s m mr j) (hb : Below wr.heap.size wr w') : Grow w2 w' k r s m mr j :=
  ⟨h.hb.trans (hb.mono h.hb.size), owns_below h.hr hb, owns_below h.hs hb, h.ap⟩
theorem Grow.next {w2 wr : World} {k m mr j : Nat} {r s : Value} (h : Grow w2 wr k r s m mr j) (o : Obj) : Grow w2 (wr.drew.alloc o) k r s m mr j :=
  h.mono ((below_drewN (Below.refl _ _) 1).alloc (by simp) _)
theorem Grow.addRow {w2 wr w' : World} {k m mr j g cap : Nat} {r s : Value} (h : Grow w2 wr k r s m mr j) (hg : wr.grownBy w' r.ownBlock) (hat : r.ownBlock = some g ∨ g = wr.heap.size)
    (ho : w'.ownsRow w2.heap.size 26 2 (.slice (some ⟨g, 0, none⟩) (mr + 1) cap) (mr + 1) (strs2 (rowP (mr + 1)))) : Grow w2 w' k (.slice (some ⟨g, 0, none⟩) (mr + 1) cap) s m (mr + 1) j :=
  ⟨h.hb.grown hg h.hb.size (fun q hq => (h.hr.lt q hq).1), ho, h.ap.keep h.hs hg, h.ap.grown h.hs hat⟩
theorem Grow.addSet {w2 wr w' : World} {k m mr j g c cap : Nat} {r s : Value} (h : Grow w2 wr k r s m mr j) (hg : wr.grownBy w' s.ownBlock) (hat : s.ownBlock = some g ∨ g = wr.heap.size) (hc : c = (setsP k m ++ setRow m (j + 1)).length)
    (ho : w'.ownsRow w2.heap.size 26 2 (.slice (some ⟨g, 0, none⟩) c cap) c (strs2 (setsP k m ++ setRow m (j + 1)))) : Grow w2 w' k r (.slice (some ⟨g, 0, none⟩) c cap) m mr (j + 1) := by
  subst hc
  exact ⟨h.hb.grown hg h.hb.size (fun q hq => (h.hs.lt q hq).1), h.ap.symm.keep h.hr hg, ho, (h.ap.symm.grown h.hr hat).symm⟩
theorem Grow.end {w2 wr : World} {k m mr : Nat} {r s : Value} (h : Grow w2 wr k r s m mr k) : Grow w2 wr k r s (m + 1) mr 0 := by
  refine ⟨h.hb, h.hr, ?_, h.ap⟩
  rw [setsP_succ, show setRow (m + 1) 0 = [] from rfl, List.append_nil]; exact h.hs

theorem Rd.take {w : World} {A : Option Addr} {l : List ByteArray} (h : Rd w A (l.map Value.string)) (n : Nat) : Rd w A ((l.take n).map Value.string) := by
  rcases h with h | ⟨b, o, rfl, h⟩
  · left; rw [List.map_eq_nil_iff] at h; subst h; simp
  · exact .inr ⟨b, o, rfl, fun j v hj => h j v (by
      rw [List.getElem?_map, List.getElem?_take] at hj
      rw [List.getElem?_map]
      split at hj
      · exact hj
      · cases hj)⟩

theorem lets_cell {w : World} {g j : Nat} (h : Rd w (some ⟨g, 0, none⟩) (lets.map Value.string)) (hj : j < 16) : w.cell? ⟨g, j, none⟩ = some (.string (lets.getD j ByteArray.empty)) := by
  have hl : j < lets.length := hj
  obtain ⟨b, o, e, hc⟩ := h.at (j := j) (v := .string (lets.getD j ByteArray.empty)) (by rw [List.getElem?_map, List.getD_eq_getElem?_getD, List.getElem?_eq_getElem hl]; rfl)
  injection e with e; injection e with e1 e2
  subst e1; subst e2
  simpa using hc

set_option maxRecDepth 100000 in
set_option maxHeartbeats 8000000 in
theorem levelsRows_walk (n x y : Int) (w : World)
    (hn : -9223372036854775808 ≤ n ∧ n ≤ 9223372036854775807) (hx : -9223372036854775808 ≤ x ∧ x ≤ 9223372036854775807) (hy : -9223372036854775808 ≤ y ∧ y ≤ 9223372036854775807) :
    Calls Try.prog 3 #[.int .i64 n, .int .i64 x, .int .i64 y] w fun e w' => e = .returned (.bool true) ∧ Below w.heap.size w w' := by
  obtain ⟨hn1, hn2⟩ := hn; obtain ⟨hx1, hx2⟩ := hx; obtain ⟨hy1, hy2⟩ := hy
  go_enter Try.func3, Try.ntmps3
  go_wp2_with fail
  refine (shown_any _).mono ?_
  rintro e w1 ⟨rfl, hB⟩
  have HB := Lib.hid hB; clear hB
  have rk := pickI_range n (n := 4) (by omega)
  obtain ⟨k0, hk0⟩ := Int.eq_ofNat_of_zero_le rk.1
  rw [hk0] at rk
  obtain ⟨k, hk⟩ : ∃ k : Nat, (k0 : Int) + 1 = (k : Int) := ⟨k0 + 1, by simp⟩
  have hk1 : 1 ≤ k := by omega
  have hk4 : k ≤ 4 := by omega
  go_upto_region 3 with (go_at_call 15; refine (pick_any n 4 _ hn1 hn2 (by omega) (by omega)).mono ?_; rintro e w' ⟨rfl, rfl⟩; rw [hk0])
  clear hk0 rk hk
  have hshl := shl_i64 hk4
  have hp4 := pow4 hk1 hk4
  have HF := Lib.hid (rowsF_all hk1 hk4)
  go_upto_region 4 with fail
  have HLT : Hid (Rd (w1.alloc (.cells (lets.map Value.string).toArray 9)) (some ⟨w1.heap.size, 0, none⟩) (lets.map Value.string)) := Rd.of_block (at_new rfl)
  have HB2 : Hid (Below w.heap.size w (w1.alloc (.cells (lets.map Value.string).toArray 9))) := HB.out.alloc HB.out.size _
  obtain ⟨w2, hw2⟩ : ∃ w2, w1.alloc (.cells (lets.map Value.string).toArray 9) = w2 := ⟨_, rfl⟩
  rw [hw2] at HLT HB2
  change Code.wp _ _ _ _ (w1.alloc (.cells (lets.map Value.string).toArray 9))
  rw [hw2]
  have hgl : w1.heap.size < w2.heap.size := by rw [← hw2]; simp
  generalize w1.heap.size = gl at *
  clear hw2 HB
  obtain ⟨N, hN⟩ : ∃ N, 2 ^ k = N := ⟨_, rfl⟩
  rw [hN] at hshl hp4
  have HNN := Lib.hid hN
  obtain ⟨hN2, hN16⟩ := hp4
  obtain ⟨i3, hi3, hz30, hz31, hz32⟩ := info_parts info_strs2
  go_wp2_with fail
  go_loopg [11, 12, 13] N (fun g r s i wr => ∃ m : Nat, m ≤ N ∧ g = N - m ∧ i = .int .i64 m ∧ Hid (Grow w2 wr k r s m (m - 1) 0))
  case atStart => exact ⟨0, Nat.zero_le _, rfl, rfl, ⟨Below.refl _ _, World.ownsRow_nil _ _ _ _, World.ownsRow_nil _ _ _ _, .inl rfl⟩⟩
  case round =>
    obtain ⟨m, hm, rfl, rfl, HG⟩ := hrel
    by_cases hlt : m < N
    · go_upto_if 34 with fail
      go_cut [11] (fun r' wx => Hid (Grow w2 wx k r' u12 m m 0))
      case first =>
        by_cases h0 : m = 0
        · subst h0
          go_wp2_with fail
          go_meet
          exact HG
        · obtain ⟨m', rfl⟩ : ∃ m' : Nat, m = m' + 1 := ⟨m - 1, by omega⟩
          have HRW := Lib.hid (HLT.out.below HG.out.hb)
          have c1 := lets_cell HRW.out (j := m') (by omega)
          have c2 := lets_cell HRW.out (j := m' + 1) (by omega)
          have HNX := Lib.hid (rowP_succ m')
          rw [Nat.add_sub_cancel] at HG
          have hm16 : (m' : Int) < 16 := by omega
          have hm17 : (m' : Int) + 1 < 16 := by omega
          have hm18 : 0 ≤ (m' : Int) + 1 := by omega
          have hwr : IntKind.i64.wrap (m' : Int) = (m' : Int) := i64_small (by omega)
          have HO := Lib.hid HG.out.hr
          have hsz := HG.out.hb.size
          generalize lets.getD m' ByteArray.empty = t1 at *
          generalize lets.getD (m' + 1) ByteArray.empty = t2 at *
          clear HRW h0
          go_upto_region 11 with fail
          go_region_law (refine step_append_lies _ rfl (.tmp 35) (.tmp 46) 25 rfl w2.heap.size 26 i3 _ 2 32 Try.underlying25 hi3 hz30 hz31 hz32 rfl (by decide) u11 m' _ (by simp [Act.eval]) (World.ownsRow.alloc (w := wr.drew) HO.out _) ⟨wr.heap.size, 0, none⟩ 1 1 [.string t1, .string t2] (by simp [Act.eval]) rfl (World.news_of_block (cs := #[.string t1, .string t2]) (t := 26) (fr := (0, 0)) (heap_alloc_new wr.drew _)) (by simp [Value.oneCell']) (by decide) (by unfold maxLen; omega) (by omega) (by simp; omega) _ rfl ?_; intro gg cap w3 hown1 hgrow hat hltg)
          all_goals
            have HGN := Lib.hid ((HG.out.next _).addRow hgrow hat (by rw [HNX.out, show strs2 (rowP m' ++ [(t1, t2)]) = strs2 (rowP m') ++ [.string t1, .string t2] by simp [strs2]]; exact hown1))
            clear hown1 hgrow hat hltg
            go_wp2_with fail
            go_meet
            exact HGN
      case rest =>
        have HG2 := hcut
        clear hcut HG
        go_wp2_with fail
        go_loopg [12, 14] k (fun g s j wr => ∃ j' : Nat, j' ≤ k ∧ g = k - j' ∧ j = .int .i64 j' ∧ Hid (Grow w2 wr k u11 s m m j'))
        case atStart => exact ⟨0, Nat.zero_le _, rfl, rfl, HG2⟩
        case round =>
          obtain ⟨j, hj, rfl, rfl, HG⟩ := hrel
          by_cases hlj : j < k
          · have hbf := bit_form m j
            by_cases hbit : m / 2 ^ j % 2 = 0
            · have hin := set_in (k := k) (i := m) (j := j) (by omega) (by omega) (by rw [hN]; exact hlt) hlj hbit
              have hsy := setRow_yes hbit
              have hb1 : (m / 2 ^ j % 2 == 0) = true := by simp [hbit]
              rw [hb1] at hbf
              have hs2 := shl_i64 (k := j) (by omega)
              have hln := setLen (k := k) (i := m) (j := j) hk4 (by omega) (by omega)
              obtain ⟨P, hP⟩ : ∃ P, 2 ^ j = P := ⟨_, rfl⟩
              rw [hP] at hs2 hin hsy
              have HSY := Lib.hid hsy
              clear hsy hbit hb1 hP
              have HRW := Lib.hid (HLT.out.below HG.out.hb)
              have c1 := lets_cell HRW.out (j := m) (by omega)
              obtain ⟨mp, hmp⟩ : ∃ mp, m + P = mp := ⟨_, rfl⟩
              rw [hmp] at hin
              have c2 := lets_cell HRW.out (j := mp) hin
              have hsy2 := HSY.out
              rw [hmp] at hsy2
              have HSY := Lib.hid hsy2
              clear hsy2
              have hw1 : (m : Int) + (P : Int) = (mp : Int) := by omega
              have hw2 := i64_small (m := mp) (by omega)
              clear hmp
              generalize lets.getD m ByteArray.empty = t1 at *
              generalize lets.getD mp ByteArray.empty = t2 at *
              have hm16 : (m : Int) < 16 := by omega
              have hm17 : (mp : Int) < 16 := by omega
              have HO := Lib.hid HG.out.hs
              have hsz := HG.out.hb.size
              obtain ⟨sl, hsl⟩ : ∃ sl, (setsP k m ++ setRow m j).length = sl := ⟨_, rfl⟩
              rw [hsl] at HO hln
              have HSL := Lib.hid hsl
              clear HRW hsl
              go_upto_region 16 with fail
              go_region_law (refine step_append_lies _ rfl (.tmp 58) (.tmp 71) 25 rfl w2.heap.size 26 i3 _ 2 32 Try.underlying25 hi3 hz30 hz31 hz32 rfl (by decide) u12 sl _ (by simp [Act.eval]) (World.ownsRow.alloc (w := wr.drew) HO.out _) ⟨wr.heap.size, 0, none⟩ 1 1 [.string t1, .string t2] (by simp [Act.eval]) rfl (World.news_of_block (cs := #[.string t1, .string t2]) (t := 26) (fr := (0, 0)) (heap_alloc_new wr.drew _)) (by simp [Value.oneCell']) (by decide) (by unfold maxLen; omega) (by omega) (by simp; omega) _ rfl ?_; intro gg cap w3 hown1 hgrow hat hltg)
              all_goals
                have HGN := Lib.hid ((HG.out.next _).addSet hgrow hat (c := sl + 1) (by rw [HSY.out, ← List.append_assoc, List.length_append, HSL.out]; rfl) (by rw [HSY.out, ← List.append_assoc, show strs2 (setsP k m ++ setRow m j ++ [(t1, t2)]) = strs2 (setsP k m ++ setRow m j) ++ [.string t1, .string t2] by simp [strs2]]; exact hown1))
                clear hown1 hgrow hat hltg
                go_wp2_with fail
                go_roundg (k - (j + 1))
                case measure => omega
                case rel => exact ⟨j + 1, by omega, rfl, by go_num, HGN⟩
            · have hb1 : (m / 2 ^ j % 2 == 0) = false := by simp; omega
              rw [hb1] at hbf
              have hsn := setRow_no hbit
              clear hbit hb1
              have HGN : Hid (Grow w2 wr k u11 u12 m m (j + 1)) := ⟨HG.out.hb, HG.out.hr, by rw [hsn]; exact HG.out.hs, HG.out.ap⟩
              go_wp2_with fail
              go_roundg (k - (j + 1))
              case measure => omega
              case rel => exact ⟨j + 1, by omega, rfl, by go_num, HGN⟩
          · obtain rfl : j = k := by omega
            have HGE := Lib.hid HG.out.end
            go_wp2_with fail
            go_roundg (N - (m + 1))
            case measure => omega
            case rel => exact ⟨m + 1, by omega, rfl, by go_num, HGE⟩
    · obtain rfl : m = N := by omega
      have hrow := HG.out.hr
      have hset := HG.out.hs
      rw [show setRow m 0 = [] from rfl, List.append_nil] at hset
      obtain ⟨ra, rc, rfl, hr1, hr2, hr3⟩ := owns_form hrow
      obtain ⟨sa, sc, rfl, hs1, hs2, hs3⟩ := owns_form hset
      have HR3 := Lib.hid hr3; have HS3 := Lib.hid hs3
      have HNM : Hid (Rd wr (some ⟨gl, 0, none⟩) ((lets.take m).map Value.string)) := Rd.take (HLT.out.below HG.out.hb) m
      have HBW : Hid (Below w.heap.size w wr) := HB2.out.trans (HG.out.hb.mono HB2.out.size)
      have hnl : (lets.take m).length = m := by rw [List.length_take]; simp [lets]; omega
      have hrl := rowP_length (m - 1)
      have hsl := setsP_len k m
      have hsl2 : m * k ≤ 16 * 4 := Nat.mul_le_mul hN16 hk4
      have HNL := Lib.hid hnl; have HRL := Lib.hid hrl
      have hsh : Hid (ShortS (lets.take m)) := fun s hs => ShortS.of lets (by kernel_rfl) s (List.mem_of_mem_take hs)
      obtain ⟨sl, hsl3⟩ : ∃ sl, (setsP k m).length = sl := ⟨_, rfl⟩
      rw [hsl3] at hsl hs1 ⊢
      have HSL := Lib.hid hsl3
      clear hrow hset hr3 hs3 HG hnl hrl hsl3
      clear hshl
      have HNN2 := Lib.hid hN
      have e1 := HF.out.e1; have e2 := HF.out.e2
      rw [hN] at e1 e2
      have E1 := Lib.hid e1; have E2 := Lib.hid e2
      clear e1 e2 hN
      go_wp2_with fail
      refine (new_any _ _ _ _ _ _ (lets.take m) (rowP (m - 1)) _ HNL.out (by omega) (by decide) HNM.out hsh.out (by rw [HNL.out]; omega) HRL.out HR3.out (by omega)).mono ?_
      rintro e w5 hP1
      obtain ⟨p, rfl, hp, HL1, hB5⟩ := hP1.yes E1.out
      have HNM5 := Lib.hid (HNM.out.below hB5)
      have HS5 := Lib.hid (HS3.out.below hB5)
      have HB5 : Hid (Below w.heap.size w w5) := HBW.out.trans (hB5.mono HBW.out.size)
      have hpw : w.heap.size ≤ p := Nat.le_trans HBW.out.size hp
      have hp5 := HL1.out.lt
      clear hP1 hp hB5 HNM HS3 HR3 HBW
      go_wp2_with fail
      refine (new_any _ _ _ _ _ _ (lets.take m) (setsP k m) _ HNL.out (by omega) (by decide) HNM5.out hsh.out (by rw [HNL.out]; omega) HSL.out HS5.out (by omega)).mono ?_
      rintro e w6 hP2
      obtain ⟨q, rfl, hq, HL2, hB6⟩ := hP2.yes E2.out
      have HTT : Hid (St2 w p q (newL (lets.take m) (rowP (m - 1))) (newL (lets.take m) (setsP k m)) w6) := by
        have hb : Below w.heap.size w w6 := HB5.out.trans (hB6.mono HB5.out.size)
        exact ⟨⟨HL1.out.below hB6, hb, hpw⟩, ⟨HL2.out, hb, Nat.le_trans HB5.out.size hq⟩, by omega⟩
      clear hP2 hq HL1 HL2 hB6 HB5 hpw hp5 HNM5 HS5
      have ra := pickI_range x (n := (m : Int)) (by omega)
      have rb := pickI_range y (n := (m : Int)) (by omega)
      obtain ⟨a, ha⟩ := Int.eq_ofNat_of_zero_le ra.1
      obtain ⟨b, hb⟩ := Int.eq_ofNat_of_zero_le rb.1
      rw [ha] at ra; rw [hb] at rb
      have FR := HF.out.row (a := a) (b := b) (by rw [HNN.out]; omega) (by rw [HNN.out]; omega)
      have FS := HF.out.set (a := a) (b := b) (by rw [HNN.out]; omega) (by rw [HNN.out]; omega)
      have FT := HF.out.t; have FB := HF.out.b
      rw [HNN.out] at FR FS FT FB
      have HA := Lib.hid ha; have HB := Lib.hid hb
      clear ha hb
      generalize newL (lets.take m) (rowP (m - 1)) = L at *
      generalize newL (lets.take m) (setsP k m) = M at *
      go_upto_region 22 with (go_at_call 15; refine (pick_any x _ _ hx1 hx2 (by omega) (by omega)).mono ?_; rintro e w' ⟨rfl, rfl⟩; rw [HA.out])
      go_upto_region 23 with (go_at_call 15; refine (pick_any y _ _ hy1 hy2 (by omega) (by omega)).mono ?_; rintro e w' ⟨rfl, rfl⟩; rw [HB.out])
      have hsub : (m : Int) - 1 = ((m - 1 : Nat) : Int) := by omega
      have ha16 : a < 16 := by omega
      have hb16 : b < 16 := by omega
      obtain ⟨o1, o2⟩ := bits_small ha16 hb16
      have F1 : Hid (joinI L (a : Int) (b : Int) = max (a : Int) (b : Int)) := by show _ = _; rw [FR.1]; omega
      have F2 : Hid (meetI L (a : Int) (b : Int) = min (a : Int) (b : Int)) := by show _ = _; rw [FR.2]; omega
      have F3 := Lib.hid FS.1; have F4 := Lib.hid FS.2.1
      have F5 : Hid (belowB M (a : Int) (b : Int) = (((a &&& b : Nat) : Int) == (a : Int))) := by
        show _ = _
        rw [FS.2.2, Bool.eq_iff_iff, beq_iff_eq, beq_iff_eq]; omega
      have F6 := Lib.hid FT; have F7 := Lib.hid FB
      clear FR FS FT FB
      obtain ⟨ob, hob⟩ : ∃ ob, a ||| b = ob := ⟨_, rfl⟩
      obtain ⟨ab, hab⟩ : ∃ ab, a &&& b = ab := ⟨_, rfl⟩
      rw [hob] at o1 F3; rw [hab] at o2 F4 F5
      clear hob hab
      obtain ⟨mx, hmx⟩ : ∃ mx, max (a : Int) (b : Int) = mx := ⟨_, rfl⟩
      obtain ⟨mn, hmn⟩ : ∃ mn, min (a : Int) (b : Int) = mn := ⟨_, rfl⟩
      rw [hmx] at F1; rw [hmn] at F2
      obtain ⟨tb, htb⟩ : ∃ tb, ((ab : Int) == (a : Int)) = tb := ⟨_, rfl⟩
      rw [htb] at F5
      go_wp2_with (first
        | (go_at_call_of 17 (Value.pointer (some ⟨p, 0, none⟩)); refine (join_l p q L M _ _ (by first | exact HTT.out | exact Hid.out (by assumption))).mono ?_; rintro e w7 ⟨rfl, HT⟩; rw [F1.out])
        | (go_at_call_of 18 (Value.pointer (some ⟨p, 0, none⟩)); refine (meet_l p q L M _ _ (Hid.out (by assumption))).mono ?_; rintro e w8 ⟨rfl, HT⟩; rw [F2.out])
        | (go_at_call_of 17 (Value.pointer (some ⟨q, 0, none⟩)); refine (join_r p q L M _ _ (Hid.out (by assumption))).mono ?_; rintro e w9 ⟨rfl, HT⟩; rw [F3.out])
        | (go_at_call_of 18 (Value.pointer (some ⟨q, 0, none⟩)); refine (meet_r p q L M _ _ (Hid.out (by assumption))).mono ?_; rintro e w10 ⟨rfl, HT⟩; rw [F4.out])
        | (go_at_call_of 19 (Value.pointer (some ⟨q, 0, none⟩)); refine (below_r p q L M _ _ (Hid.out (by assumption))).mono ?_; rintro e w11 ⟨rfl, rfl⟩; rw [F5.out])
        | (go_at_call_of 20 (Value.pointer (some ⟨p, 0, none⟩)); refine (top_l p q L M (Hid.out (by assumption))).mono ?_; rintro e w12 ⟨rfl, HT⟩; rw [F6.out])
        | (go_at_call_of 21 (Value.pointer (some ⟨q, 0, none⟩)); refine (bottom_r p q L M (Hid.out (by assumption))).mono ?_; rintro e w13 ⟨rfl, HT⟩; rw [F7.out]))
      go_ret
      exact ⟨ret_bool rfl, St2.below (p := p) (q := q) (L := L) (M := M) (Hid.out (by assumption))⟩
end Go.Proofs.Ytkgkhakjodlpgaa
