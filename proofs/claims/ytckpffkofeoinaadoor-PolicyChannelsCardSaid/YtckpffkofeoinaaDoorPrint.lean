/- Print: the lines of a policy, walked. -/
import Derived.Test.YtckpffkofeoinaaDoorPline
import Derived.Test.YtckpffkofeoinaaDoorChans
import Derived.Test.YtckpffkofeoinaaDoorPCov
namespace Go.Proofs.YtckpffkofeoinaaDoor
open Go.RowKit Go.Maps

/-- The lines of Print. -/
def nameAt (r : RS) (i : Nat) : ByteArray := r.names.getD i ByteArray.empty
def levelN (r : RS) (c : ByteArray) : Nat := (ofAt r.of c).getD 0
def lineN (s : ByteArray) : List UInt8 := lineP [bLevel, s]
def lineC (r : RS) (c : Nat × Nat) : List UInt8 := lineP [bBelow, nameAt r c.1, nameAt r c.2]
def lineX (r : RS) (c : ByteArray) : List UInt8 := lineP [bChannel, c, nameAt r (levelN r c)]
def covs (r : RS) : List (Nat × Nat) := covers (newL r.names r.below)
def printN (r : RS) (k : Nat) : List UInt8 := (r.names.take k).flatMap lineN
def printC (r : RS) (k : Nat) : List UInt8 := ((covs r).take k).flatMap (lineC r)
def printX (r : RS) (k : Nat) : List UInt8 := ((chansL r).take k).flatMap (lineX r)
def printB (r : RS) : List UInt8 := r.names.flatMap lineN ++ ((covs r).flatMap (lineC r) ++ (chansL r).flatMap (lineX r))

theorem flat_succ {α : Type} (f : α → List UInt8) (l : List α) {k : Nat} (h : k < l.length) : (l.take (k + 1)).flatMap f = (l.take k).flatMap f ++ f l[k] := by
  rw [List.take_succ_eq_append_getElem h, List.flatMap_append]; simp
theorem flat_le {α : Type} (f : α → List UInt8) (l : List α) (k : Nat) : ((l.take k).flatMap f).length ≤ (l.flatMap f).length := by
  conv => rhs; rw [← List.take_append_drop k l, List.flatMap_append, List.length_append]
  omega

/-! ### channels -/
theorem ofAt_iff {l : List (ByteArray × Nat)} (h : (l.map (·.1)).Nodup) {c : ByteArray} {n : Nat} : ofAt l c = some n ↔ (c, n) ∈ l := by
  refine ⟨ofAt_mem, fun hm => ?_⟩
  induction l with
  | nil => simp at hm
  | cons q l ih =>
    rw [List.map_cons, List.nodup_cons] at h
    unfold ofAt
    rcases List.mem_cons.1 hm with rfl | hm
    · rw [if_pos rfl]
    · have hne : ¬ q.1 = c := fun e => h.1 (by rw [e]; exact List.mem_map.2 ⟨_, hm, rfl⟩)
      rw [if_neg hne]; exact ih h.2 hm

theorem mem_chansL {r : RS} {c : ByteArray} : c ∈ chansL r ↔ c ∈ r.of.map (·.1) := by
  unfold chansL chansB
  rw [List.mem_map]
  constructor
  · rintro ⟨x, hx, rfl⟩
    have hx2 := (List.mergeSort_perm _ Go.leB).mem_iff.1 hx
    obtain ⟨q, hq, rfl⟩ := List.mem_map.1 hx2
    rw [mkB_data]; exact List.mem_map.2 ⟨q, hq, rfl⟩
  · intro h
    obtain ⟨q, hq, rfl⟩ := List.mem_map.1 h
    exact ⟨q.1.data.toList, (List.mergeSort_perm _ Go.leB).mem_iff.2 (List.mem_map.2 ⟨q, hq, rfl⟩), mkB_data _⟩

theorem chansL_perm (r : RS) : (chansL r).Perm (r.of.map (·.1)) := by
  unfold chansL chansB
  have h := (List.mergeSort_perm (r.of.map (·.1.data.toList)) Go.leB).map mkB
  refine h.trans ?_
  rw [List.map_map]
  refine List.Perm.of_eq (List.map_congr_left fun q _ => ?_)
  exact mkB_data _

theorem levelN_of {r : RS} {c : ByteArray} (hc : c ∈ chansL r) : ofAt r.of c = some (levelN r c) := by
  have h := ofAt_isSome.2 (mem_chansL.1 hc)
  unfold levelN
  cases e : ofAt r.of c with
  | none => rw [e] at h; cases h
  | some n => rfl

theorem levelN_lt {r : RS} (hG : r.Good) {c : ByteArray} (hc : c ∈ chansL r) : levelN r c < r.names.length ∧ identOk c.data.toList = true := by
  have := hG.chans _ (ofAt_mem (levelN_of hc))
  exact ⟨this.2, this.1⟩

theorem ident_len {l : List UInt8} (h : identOk l = true) : l.length ≤ 20 := by
  unfold identOk at h
  simp only [Bool.and_eq_true, decide_eq_true_eq] at h
  exact h.2.1

/-- Two cells of a row of pairs. -/
theorem Rd.pair {w : World} {A : Option Addr} {l : List (Nat × Nat)} (h : Rd w A (pairsV l)) {k : Nat} (hk : k < l.length) :
    ∃ g o, A = some ⟨g, o, none⟩ ∧ w.cell? ⟨g, o + k * 2, none⟩ = some (.int .i64 (l[k].1 : Int)) ∧ w.cell? ⟨g, o + k * 2 + 1, none⟩ = some (.int .i64 (l[k].2 : Int)) := by
  obtain ⟨a1, a2⟩ := pairsV_at l hk
  obtain ⟨g, o, rfl, cp1⟩ := h.at a1
  obtain ⟨g', o', e1, cp2⟩ := h.at a2
  obtain ⟨rfl, rfl⟩ : g' = g ∧ o' = o := by simpa using e1.symm
  rw [← Nat.add_assoc] at cp2
  exact ⟨g', o', rfl, cp1, cp2⟩

/-- The builder in block w.heap.size, and nothing older has turned. -/
structure PrSt (w : World) (bs : List UInt8) (wr : World) : Prop where
  isB : IsB w.heap.size w.heap.size (Lib.byteCells bs) wr
  bel : Below w.heap.size w wr

theorem PrSt.below {w wr w' : World} {bs : List UInt8} (h : PrSt w bs wr) (hb : Below wr.heap.size wr w') : PrSt w bs w' :=
  ⟨IsB.below h.isB hb, h.bel.trans (hb.mono h.bel.size)⟩

/-- Rows that are none of bytes stand. -/
def RowsKept (w w' : World) : Prop := ∀ (base e size n : Nat) (v : Value) (xs : List Value), e ≠ 5 → e ≠ 76 → w.ownsRow base e size v n xs → w'.ownsRow base e size v n xs

theorem RowsKept.below {w w' : World} (hb : Below w.heap.size w w') : RowsKept w w' := fun _ _ _ _ _ _ _ _ h => owns_below h hb

/-- A line is written. -/
theorem pst_line {w wr : World} {bs : List UInt8} (h : PrSt w bs wr) (ws : List ByteArray) (n : Nat) (hn : ws.length = n) (hn2 : n ≤ 1000) (hlen : bs.length + (lineP ws).length ≤ 140737488355328) (cs : Array Value) (hcs : cs = (ws.map Value.string).toArray) :
    Calls Tryd.prog 27 #[.slice (some ⟨wr.heap.size, 0, none⟩) n n, .pointer (some ⟨w.heap.size, 0, none⟩)] (wr.alloc (.cells cs 9)) fun e w' => e = .returned (.tuple #[]) ∧ Hid (PrSt w (bs ++ lineP ws) w') ∧ Hid (RowsKept wr w') ∧ Hid (wr.heap.size ≤ w'.heap.size) := by
  subst hcs
  have ha : Below wr.heap.size wr (wr.alloc (.cells (ws.map Value.string).toArray 9)) := (Below.refl _ _).alloc (Nat.le_refl _) _
  have hP := h.below ha
  refine (pline_any w.heap.size w.heap.size wr.heap.size n ws bs _ hP.isB hP.bel.size hn ?_ (by simp) hlen hn2).mono ?_
  · intro j x hj
    rw [Nat.zero_add]
    rw [Lib.cell_of_heap (heap_alloc_new wr (.cells (ws.map Value.string).toArray 9 (0, 0)))]
    simp [hj]
  · rintro e w' ⟨rfl, h1, h2, h3⟩
    refine ⟨rfl, ⟨h1, hP.bel.trans h2⟩, ?_, ?_⟩
    · intro base e size n v xs he1 he2 ho
      have ho2 := owns_below ho ha
      obtain ⟨cs, hb⟩ := IsB.block hP.isB
      exact owns_others ho2 h3 he1 (owns_ne ho2 hb (Ne.symm he2))
    · exact Nat.le_trans ha.size h2.size


set_option maxRecDepth 100000 in
set_option maxHeartbeats 4000000 in
theorem print_any (p : Nat) (r : RS) (w : World) (hP : Pol w p r) (hG : r.Good) (hsz : r.of.length ≤ 1000000) (hlen : (printB r).length ≤ 1000000) :
    Calls Tryd.prog 14 #[.pointer (some ⟨p, 0, none⟩)] w fun e w' => e = .returned (.string (mkB (printB r))) ∧ Below w.heap.size w w' := by
  have hnd := hG.each
  have HP := Lib.hid hP; have HG := Lib.hid hG; have HND := Lib.hid hnd; have HLEN := Lib.hid hlen
  obtain ⟨l, b, h1, h2, h3, h4⟩ := hP
  obtain ⟨W0, hW0⟩ : ∃ W0, W0 = w.alloc (.cells #[.pointer none, .slice none 0 0] 76) := ⟨_, rfl⟩
  have hb0 : Below w.heap.size w W0 := by rw [hW0]; exact (Below.refl _ w).alloc (Nat.le_refl _) _
  have c0 : W0.cell? ⟨p, 0, none⟩ = some (.pointer (some ⟨l, 0, none⟩)) := by rw [hb0.cell (lt_of_block h1)]; simp [World.cell?, h1]
  have HS0 : Hid (PrSt w [] W0) := ⟨by rw [hW0]; exact Lib.IsBuilderF.of (Lib.fresh_isBuilder _ _ w), hb0⟩
  have HNM : Hid (Calls Tryd.prog 13 #[.pointer (some ⟨l, 0, none⟩)] W0 fun e w' => ∃ v', e = .returned v' ∧ Hid (w'.ownsRow W0.heap.size 9 1 v' r.names.length (r.names.map Value.string)) ∧ Below W0.heap.size W0 w') := names_any l _ W0 (h2.below hb0)
  have HCM : Hid (∀ wr, Below w.heap.size w wr → Calls Tryd.prog 30 #[.pointer (some ⟨l, 0, none⟩)] wr fun e w' => ∃ v', e = .returned v' ∧ Hid (w'.ownsRow wr.heap.size 85 2 v' (covs r).length (pairsV (covs r))) ∧ Below wr.heap.size wr w') := fun wr hb => covers_any l _ wr (h2.below hb)
  have HX : Hid (∀ wr, Below w.heap.size w wr → Calls Tryd.prog 9 #[.pointer (some ⟨p, 0, none⟩)] wr fun e w' => ∃ v', e = .returned v' ∧ Hid (w'.ownsRow wr.heap.size 9 1 v' (chansL r).length ((chansL r).map Value.string)) ∧ Below wr.heap.size wr w') := fun wr hb => channels_any p r wr (HP.out.below hb) HND.out hsz
  have HC : Hid (∀ wr, Below w.heap.size w wr → wr.cell? ⟨p, 0, none⟩ = some (.pointer (some ⟨l, 0, none⟩)) ∧ wr.cell? ⟨p, 1, none⟩ = some (.map (some b))) := fun wr hb => by
    rw [hb.cell (lt_of_block h1), hb.cell (lt_of_block h1)]; simp [World.cell?, h1]
  have HOF : Hid (∀ wr, Below w.heap.size w wr → OfIs wr b r.of) := fun wr hb => h3.below hb
  have hnl : r.names.length ≤ 16 := by obtain ⟨vn, vu, vd, d, vj, vm, _, _, _, _, _, ok⟩ := h2; exact ok.le
  clear h1 h2 h3 h4 hnd hlen hb0 hG
  subst hW0
  go_enter Tryd.func14, Tryd.ntmps14
  go_wp2_with (go_at_call 13; refine HNM.out.mono ?_; rintro e w1 ⟨v1, rfl, HO, hb1⟩; have HS1 := Lib.hid (HS0.out.below hb1); have HO1 := Lib.hid (owns_base HO.out HS0.out.bel.size); clear hb1 HO; obtain ⟨an, cn, rfl, hn1, hn2, hn3⟩ := owns_form HO1.out; clear hn3)
  clear HNM HS0 c0
  go_loopw [20] (fun i wr => ∃ k : Nat, k ≤ r.names.length ∧ i = .int .i64 k ∧ Hid (PrSt w (printN r k) wr) ∧ Hid (wr.ownsRow w.heap.size 9 1 (.slice an r.names.length cn) r.names.length (r.names.map Value.string))) (fun i _ => r.names.length - (intOf i).toNat)
  case atStart => exact ⟨0, Nat.zero_le _, rfl, HS1, HO1⟩
  case round =>
    clear HS1 HO1
    obtain ⟨k, hk, rfl, HSk, HOk⟩ := hrel
    by_cases hlt : k < r.names.length
    · obtain ⟨g, o, rfl, hc⟩ := (Rd.of_owns HOk.out).at (j := k) (v := Value.string r.names[k]) (by simp [hlt])
      have hnx : printN r (k + 1) = printN r k ++ lineP [bLevel, r.names[k]] := flat_succ _ _ hlt
      have hll : (printN r k).length + (lineP [bLevel, r.names[k]]).length ≤ 140737488355328 := by
        rw [← List.length_append, ← hnx]
        have h1 := flat_le lineN r.names (k + 1)
        have h2 := HLEN.out
        unfold printB at h2
        rw [List.length_append] at h2
        unfold printN
        omega
      have HNX := Lib.hid hnx; have HLL := Lib.hid hll; clear hnx hll
      generalize r.names[k] = s at *
      go_wp2_with (go_at_call 27; refine (pst_line HSk.out [bLevel, s] 2 rfl (by omega) HLL.out _ rfl).mono ?_; rintro e w2 ⟨rfl, HS2, HK2, hz2⟩; clear hz2)
      go_roundw
      case rel => exact ⟨k + 1, by omega, by go_num, by rw [HNX.out]; exact HS2, HK2.out _ _ _ _ _ _ (by decide) (by decide) HOk.out⟩
      case measure => simp [intOf]; omega
    · obtain rfl : k = r.names.length := by omega
      obtain ⟨cc0, cc1⟩ := HC.out _ HSk.out.bel
      go_wp2_with (go_at_call 30; refine (HCM.out _ HSk.out.bel).mono ?_; rintro e w3 ⟨v3, rfl, HO, hb3⟩; have HS3 := Lib.hid (HSk.out.below hb3); have HO3 := Lib.hid (owns_below HOk.out hb3); have HC3 := Lib.hid (owns_base HO.out HSk.out.bel.size); clear hb3 HO; obtain ⟨ac, cc, rfl, hcc1, hcc2, hcc3⟩ := owns_form HC3.out; clear hcc3)
      clear cc0 cc1 HSk HOk HCM
      have hcn : (covs r).length ≤ 1000000 := by have := coverTo_len (newL r.names r.below) r.names.length; have h2 : r.names.length * (newL r.names r.below).names.length ≤ 16 * 16 := Nat.mul_le_mul hnl hnl; show (coverTo (newL r.names r.below) r.names.length).length ≤ _; omega
      obtain ⟨nC, hnC⟩ : ∃ n, (covs r).length = n := ⟨_, rfl⟩
      rw [hnC] at HC3 hcc1 hcn ⊢
      have HNC := Lib.hid hnC; clear hnC
      go_loopw [35] (fun i wr => ∃ k : Nat, k ≤ nC ∧ i = .int .i64 k ∧ Hid (PrSt w (printN r r.names.length ++ printC r k) wr) ∧ Hid (wr.ownsRow w.heap.size 9 1 (.slice an r.names.length cn) r.names.length (r.names.map Value.string)) ∧ Hid (wr.ownsRow w.heap.size 85 2 (.slice ac nC cc) nC (pairsV (covs r)))) (fun i _ => nC - (intOf i).toNat)
      case atStart => exact ⟨0, Nat.zero_le _, rfl, by simpa [printC] using HS3, HO3, HC3⟩
      case round =>
        clear HS3 HO3 HC3
        obtain ⟨k, hk, rfl, HSk, HOk, HCk⟩ := hrel
        by_cases hlt : k < nC
        · have hlt' : k < (covs r).length := by rw [HNC.out]; exact hlt
          obtain ⟨g, o, rfl, d1, d2⟩ := (Rd.of_owns HCk.out).pair hlt'
          obtain ⟨m1, m2, _⟩ := covers_mem (List.getElem_mem hlt')
          have hnx : printC r (k + 1) = printC r k ++ lineP [bBelow, nameAt r (covs r)[k].1, nameAt r (covs r)[k].2] := flat_succ _ _ hlt'
          have hll : (printN r r.names.length ++ printC r k).length + (lineP [bBelow, nameAt r (covs r)[k].1, nameAt r (covs r)[k].2]).length ≤ 140737488355328 := by
            rw [← List.length_append, List.append_assoc, ← hnx]
            have h1 := flat_le (lineC r) (covs r) (k + 1)
            have h2 := HLEN.out
            unfold printB at h2
            rw [List.length_append, List.length_append] at h2
            rw [List.length_append]
            unfold printN printC
            rw [List.take_length]
            omega
          have HNX := Lib.hid hnx; have HLL := Lib.hid hll; clear hnx hll
          have hm1 : (covs r)[k].1 < r.names.length := m1
          have hm2 : (covs r)[k].2 < r.names.length := m2
          clear m1 m2
          generalize (covs r)[k].1 = q1 at *
          generalize (covs r)[k].2 = q2 at *
          obtain ⟨ga, oa, rfl, n1⟩ := (Rd.of_owns HOk.out).at (j := q1) (v := .string (nameAt r q1)) (by rw [List.getElem?_map, List.getElem?_eq_getElem hm1]; unfold nameAt; rw [List.getD_eq_getElem?_getD, List.getElem?_eq_getElem hm1]; rfl)
          obtain ⟨ga', oa', e1, n2⟩ := (Rd.of_owns HOk.out).at (j := q2) (v := .string (nameAt r q2)) (by rw [List.getElem?_map, List.getElem?_eq_getElem hm2]; unfold nameAt; rw [List.getD_eq_getElem?_getD, List.getElem?_eq_getElem hm2]; rfl)
          obtain ⟨rfl, rfl⟩ : ga' = ga ∧ oa' = oa := by simpa using e1.symm
          generalize nameAt r q1 = t1 at *
          generalize nameAt r q2 = t2 at *
          clear e1
          go_upto_region 12 with fail
          have hba : Below wr.heap.size wr (wr.alloc (.cells #[.int .i64 (q1 : Int), .int .i64 (q2 : Int)] 85)) := (Below.refl _ _).alloc (Nat.le_refl _) _
          have e1 : (wr.alloc (.cells #[.int .i64 (q1 : Int), .int .i64 (q2 : Int)] 85)).cell? ⟨wr.heap.size, 0, none⟩ = some (.int .i64 (q1 : Int)) := by
            rw [Lib.cell_of_heap (heap_alloc_new wr (.cells #[.int .i64 (q1 : Int), .int .i64 (q2 : Int)] 85 (0, 0)))]; rfl
          have e2 : (wr.alloc (.cells #[.int .i64 (q1 : Int), .int .i64 (q2 : Int)] 85)).cell? ⟨wr.heap.size, 1, none⟩ = some (.int .i64 (q2 : Int)) := by
            rw [Lib.cell_of_heap (heap_alloc_new wr (.cells #[.int .i64 (q1 : Int), .int .i64 (q2 : Int)] 85 (0, 0)))]; rfl
          have n3 := (hba.cell (World.block_lt_of_cell? wr _ n1)).trans n1
          have n4 := (hba.cell (World.block_lt_of_cell? wr _ n2)).trans n2
          have HSa := Lib.hid (HSk.out.below hba); have HOa := Lib.hid (owns_below HOk.out hba); have HCa := Lib.hid (owns_below HCk.out hba)
          clear HSk HOk HCk hba n1 n2 d1 d2
          generalize wr.heap.size = bw at *
          generalize wr.alloc (.cells #[.int .i64 (q1 : Int), .int .i64 (q2 : Int)] 85) = wa at *
          have HSd : Hid (PrSt w (printN r r.names.length ++ printC r k) wa.drew) := HSa.out.below ((Below.refl _ _).drew)
          have HOd : Hid (wa.drew.ownsRow w.heap.size 9 1 (.slice (some ⟨ga', oa', none⟩) r.names.length cn) r.names.length (r.names.map Value.string)) := HOa
          have HCd : Hid (wa.drew.ownsRow w.heap.size 85 2 (.slice (some ⟨g, o, none⟩) nC cc) nC (pairsV (covs r))) := HCa
          clear HSa HOa HCa
          go_region_with (go_at_call 27; refine (pst_line HSd.out [bBelow, t1, t2] 3 rfl (by omega) HLL.out _ rfl).mono ?_; rintro e w2 ⟨rfl, HS2, HK2, hz2⟩; clear hz2)
          all_goals
            have HO2 : Hid (w2.ownsRow w.heap.size 9 1 (.slice (some ⟨ga', oa', none⟩) r.names.length cn) r.names.length (r.names.map Value.string)) := HK2.out _ _ _ _ _ _ (by decide) (by decide) HOd.out
            have HC2 : Hid (w2.ownsRow w.heap.size 85 2 (.slice (some ⟨g, o, none⟩) nC cc) nC (pairsV (covs r))) := HK2.out _ _ _ _ _ _ (by decide) (by decide) HCd.out
            clear HOd HCd HSd HK2
            go_wp2
            go_roundw
            case rel => exact ⟨k + 1, by omega, by go_num, by rw [HNX.out, ← List.append_assoc]; exact HS2, HO2, HC2⟩
            case measure => simp [intOf]; omega
        · obtain rfl : k = nC := by omega
          obtain ⟨cc0, cc1⟩ := HC.out _ HSk.out.bel
          go_wp2_with (go_at_call 9; refine (HX.out _ HSk.out.bel).mono ?_; rintro e w4 ⟨v4, rfl, HO, hb4⟩; have HS4 := Lib.hid (HSk.out.below hb4); have HO4 := Lib.hid (owns_below HOk.out hb4); have HX4 := Lib.hid (owns_base HO.out HSk.out.bel.size); clear hb4 HO; obtain ⟨ax, cx, rfl, hcx1, hcx2, hcx3⟩ := owns_form HX4.out; clear hcx3)
          clear cc0 cc1 HSk HOk HCk HX hcc1 hcc2
          have hxn : (chansL r).length ≤ 1000000 := by rw [(chansL_perm r).length_eq, List.length_map]; exact hsz
          have hE : Hid (printN r r.names.length ++ printC r k = r.names.flatMap lineN ++ (covs r).flatMap (lineC r)) := by
            show _ = _
            unfold printN printC
            rw [← HNC.out, List.take_length, List.take_length]
          rw [hE.out] at HS4
          clear hE
          obtain ⟨nX, hnX⟩ : ∃ n, (chansL r).length = n := ⟨_, rfl⟩
          rw [hnX] at HX4 hcx1 hxn ⊢
          have HNX := Lib.hid hnX; clear hnX
          go_loopw [56] (fun i wr => ∃ k : Nat, k ≤ nX ∧ i = .int .i64 k ∧ Hid (PrSt w (r.names.flatMap lineN ++ (covs r).flatMap (lineC r) ++ printX r k) wr) ∧ Hid (wr.ownsRow w.heap.size 9 1 (.slice an r.names.length cn) r.names.length (r.names.map Value.string)) ∧ Hid (wr.ownsRow w.heap.size 9 1 (.slice ax nX cx) nX ((chansL r).map Value.string))) (fun i _ => nX - (intOf i).toNat)
          case atStart => exact ⟨0, Nat.zero_le _, rfl, by simpa [printX] using HS4, HO4, HX4⟩
          case round =>
            clear HS4 HO4 HX4
            obtain ⟨k5, hk5, rfl, HSk, HOk, HXk⟩ := hrel
            by_cases hlt : k5 < nX
            · have hlt' : k5 < (chansL r).length := by rw [HNX.out]; exact hlt
              obtain ⟨g, o, rfl, d1⟩ := (Rd.of_owns HXk.out).at (j := k5) (v := Value.string (chansL r)[k5]) (by simp [hlt'])
              have hmem := List.getElem_mem hlt'
              have hnx : printX r (k5 + 1) = printX r k5 ++ lineP [bChannel, (chansL r)[k5], nameAt r (levelN r (chansL r)[k5])] := flat_succ _ _ hlt'
              have hll : (r.names.flatMap lineN ++ (covs r).flatMap (lineC r) ++ printX r k5).length + (lineP [bChannel, (chansL r)[k5], nameAt r (levelN r (chansL r)[k5])]).length ≤ 140737488355328 := by
                rw [← List.length_append, List.append_assoc, ← hnx]
                have h1 := flat_le (lineX r) (chansL r) (k5 + 1)
                have h2 := HLEN.out
                unfold printB at h2
                rw [List.length_append, List.length_append] at h2
                rw [List.length_append, List.length_append]
                unfold printX
                omega
              have HNY := Lib.hid hnx; have HLL := Lib.hid hll; clear hnx hll
              obtain ⟨hlv, hid⟩ := levelN_lt HG.out hmem
              have hof := levelN_of hmem
              have hcs : (chansL r)[k5].size ≤ maxLen := by have := ident_len hid; have e : (chansL r)[k5].data.toList.length = (chansL r)[k5].size := by simp
                                                            unfold maxLen; omega
              obtain ⟨D, hD1, hD2⟩ := HOF.out _ HSk.out.bel
              have hD3 := (hD2 (chansL r)[k5]).2
              rw [hof] at hD3
              obtain ⟨cc0, cc1⟩ := HC.out _ HSk.out.bel
              have hkey := keyL_of hcs
              clear hD2 hid hmem hcs hof
              generalize (chansL r)[k5] = ch at *
              generalize levelN r ch = lv at *
              have HD := Lib.hid hD1; have HKEY := Lib.hid hkey
              have HV : Hid (∀ z : Int, D.atKey (keyL ch) (.lit (.int .i64 0)) = .lit (.int .i64 z) → z = (lv : Int)) := fun z hz => by
                rw [hD3] at hz
                injection hz with hz
                injection hz with _ hz
                exact hz.symm
              obtain ⟨ga, oa, rfl, n1⟩ := (Rd.of_owns HOk.out).at (j := lv) (v := .string (nameAt r lv)) (by rw [List.getElem?_map, List.getElem?_eq_getElem hlv]; unfold nameAt; rw [List.getD_eq_getElem?_getD, List.getElem?_eq_getElem hlv]; rfl)
              generalize nameAt r lv = t1 at *
              clear hD1 hD3 hkey
              go_wp2_with (first
                | (at_lookup; refine wpList_lookup_own_int _ rfl _ _ 40 rfl 9 3 .i64 klaw Tryd.underlying40 Tryd.underlying3 (zeroI _) b _ D rfl HD.out _ _ rfl HKEY.out ?_; intro z hat hwc; obtain rfl := HV.out z hat; clear hat hwc)
                | (go_at_call 27; refine (pst_line HSk.out [bChannel, ch, t1] 3 rfl (by omega) HLL.out _ rfl).mono ?_; rintro e w2 ⟨rfl, HS2, HK2, hz2⟩; clear hz2))
              go_roundw
              case rel => exact ⟨k5 + 1, by omega, by go_num, by rw [HNY.out, ← List.append_assoc]; exact HS2, HK2.out _ _ _ _ _ _ (by decide) (by decide) HOk.out, HK2.out _ _ _ _ _ _ (by decide) (by decide) HXk.out⟩
              case measure => simp [intOf]; omega
            · obtain rfl : k5 = nX := by omega
              have hfin : r.names.flatMap lineN ++ (covs r).flatMap (lineC r) ++ printX r k5 = printB r := by
                unfold printX printB
                rw [← HNX.out, List.take_length, List.append_assoc]
              rw [hfin] at HSk
              clear hfin
              go_wp2_with (go_at_call 31; refine (Tryd.Builder_String_any_k w.heap.size w.heap.size (printB r) _ HSk.out.isB HSk.out.bel.size).mono ?_; rintro e w6 ⟨rfl, _, hb6, _⟩; have HB6 := Lib.hid (HSk.out.bel.trans hb6); clear hb6)
              go_ret
              exact ⟨rfl, HB6.out⟩
end Go.Proofs.YtckpffkofeoinaaDoor
