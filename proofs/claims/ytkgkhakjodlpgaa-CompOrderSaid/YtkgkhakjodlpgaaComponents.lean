/- Functions of the program as plain Lean functions, and that each call comes to what they say; printed by a program. -/
import Derived.Test.YtkgkhakjodlpgaaCv0
namespace Go.Proofs.Ytkgkhakjodlpgaa.Cv
open Go.RowKit Go.Proofs.YtkgkhakjodlpgaaW.PrintWords Go.Proofs.YtkgkhakjodlpgaaW.PrintLast Go.Proofs.YtkgkhakjodlpgaaW.PrintMore Go.Proofs.Ytkgkhakjodlpgaa.Ext Go.Proofs.Ytkgkhakjodlpgaa.Ca
attribute [local go_sem] max2_int min2_int max_two min_two max_three min_three max_four min_four   -- for this text's walks alone
set_option linter.unusedVariables false
set_option linter.unusedSimpArgs false

/-! ### comp_ids: function 42 -/
mutual
def comp_ids.l0 : Nat → List (List Int) → List (List Int) → List Int → List Int → List (List Int) → List Int → Int → Int → Option (List Int)
 | 0, _, _, _, _, _, _, _, _ => none
 | k + 1, x0, x3, x4, x5, x6, x7, x32, x33 => if x33 < x32 then ((comp_leads.f k x0 x3 x4 x33).bind fun t110 => (if 0 ≤ x33 then (if x33 < (x5.length : Int) then (comp_ids.l1 k x0 x3 x4 (x5.set (x33 : Int).toNat (t110.length : Int)) x6 x7 x33 t110 x32 x33 t110 (t110.length : Int) 0) else (none)) else (none))) else (comp_ids.l2 k x3 x5 x6 x7 ([] : List Int))
def comp_ids.l1 : Nat → List (List Int) → List (List Int) → List Int → List Int → List (List Int) → List Int → Int → List Int → Int → Int → List Int → Int → Int → Option (List Int)
 | 0, _, _, _, _, _, _, _, _, _, _, _, _, _ => none
 | k + 1, x0, x3, x4, x5, x6, x7, x8, x9, x32, x33, x46, x47, x48 => if x48 < x47 then (if 0 ≤ x48 then (if x48 < (x46.length : Int) then (if 0 ≤ (rd x46 x48) then (if (rd x46 x48) < (x6.length : Int) then (if (rd_L1 x6 (rd x46 x48)).length < 17592186044416 then (comp_ids.l1 k x0 x3 x4 x5 (x6.set ((rd x46 x48) : Int).toNat ((rd_L1 x6 (rd x46 x48)) ++ [x8])) x7 x8 x9 x32 x33 x46 x47 (wrap64 (x48 + 1))) else (none)) else (none)) else (none)) else (none)) else (none)) else (if (x9.length : Int) = 0 then (if x7.length < 17592186044416 then (comp_ids.l0 k x0 x3 x4 x5 x6 (x7 ++ [x8]) x32 (wrap64 (x33 + 1))) else (none)) else (comp_ids.l0 k x0 x3 x4 x5 x6 x7 x32 (wrap64 (x33 + 1))))
def comp_ids.l2 : Nat → List (List Int) → List Int → List (List Int) → List Int → List Int → Option (List Int)
 | 0, _, _, _, _, _ => none
 | k + 1, x3, x5, x6, x7, x12 => if (x7.length : Int) > 0 then (comp_ids.l3 k x3 x5 x6 x7 x12 0 x7 (x7.length : Int) 0) else (some x12)
def comp_ids.l3 : Nat → List (List Int) → List Int → List (List Int) → List Int → List Int → Int → List Int → Int → Int → Option (List Int)
 | 0, _, _, _, _, _, _, _, _, _ => none
 | k + 1, x3, x5, x6, x7, x12, x13, x74, x75, x76 => if x76 < x75 then (if 0 ≤ x76 then (if x76 < (x74.length : Int) then (if 0 ≤ (rd x74 x76) then (if (rd x74 x76) < (x3.length : Int) then (if 0 < ((rd_L1 x3 (rd x74 x76)).length : Int) then (if 0 ≤ x13 then (if x13 < (x7.length : Int) then (if 0 ≤ (rd x7 x13) then (if (rd x7 x13) < (x3.length : Int) then (if 0 < ((rd_L1 x3 (rd x7 x13)).length : Int) then (if (rd (rd_L1 x3 (rd x74 x76)) 0) < (rd (rd_L1 x3 (rd x7 x13)) 0) then (comp_ids.l3 k x3 x5 x6 x7 x12 x76 x74 x75 (wrap64 (x76 + 1))) else (comp_ids.l3 k x3 x5 x6 x7 x12 x13 x74 x75 (wrap64 (x76 + 1)))) else (none)) else (none)) else (none)) else (none)) else (none)) else (none)) else (none)) else (none)) else (none)) else (none)) else (if 0 ≤ x13 then (if x13 < (x7.length : Int) then (if x13 ≤ (x7.length : Int) then (if 0 ≤ (wrap64 (x13 + 1)) then (if (wrap64 (x13 + 1)) ≤ (x7.length : Int) then (if 0 ≤ (rd x7 x13) then (if (rd x7 x13) < (x3.length : Int) then (if x12.length < 5864062014805 then (if (rd x7 x13) < (x6.length : Int) then (comp_ids.l4 k x3 x5 x6 (x7.eraseIdx (x13 : Int).toNat) (x12 ++ [rd x7 x13]) (rd_L1 x6 (rd x7 x13)) ((rd_L1 x6 (rd x7 x13)).length : Int) 0) else (none)) else (none)) else (none)) else (none)) else (none)) else (none)) else (none)) else (none)) else (none))
def comp_ids.l4 : Nat → List (List Int) → List Int → List (List Int) → List Int → List Int → List Int → Int → Int → Option (List Int)
 | 0, _, _, _, _, _, _, _, _ => none
 | k + 1, x3, x5, x6, x7, x12, x118, x119, x120 => if x120 < x119 then (if 0 ≤ x120 then (if x120 < (x118.length : Int) then (if 0 ≤ (rd x118 x120) then (if (rd x118 x120) < (x5.length : Int) then ((some (x5.set ((rd x118 x120) : Int).toNat (wrap64 ((rd x5 (rd x118 x120)) - 1)) : List Int)).bind fun y148 => (if (rd y148 (rd x118 x120)) = 0 then (if x7.length < 17592186044416 then (comp_ids.l4 k x3 y148 x6 (x7 ++ [rd x118 x120]) x12 x118 x119 (wrap64 (x120 + 1))) else (none)) else (comp_ids.l4 k x3 y148 x6 x7 x12 x118 x119 (wrap64 (x120 + 1))))) else (none)) else (none)) else (none)) else (none)) else (comp_ids.l2 k x3 x5 x6 x7 x12)
end
def comp_ids.f (k : Nat) (l0 : List (List Int)) (l1 : List (List Int)) : Option (List Int) := (comp_numbers.f k l1 (l0.length : Int)).bind fun t101 => (if 0 ≤ (l1.length : Int) then (if ((l1.length : Int) : Int).toNat ≤ 35184372088832 then (if ((l1.length : Int) : Int).toNat ≤ 11728124029610 then (comp_ids.l0 k l0 l1 t101 (List.replicate ((l1.length : Int) : Int).toNat 0) (List.replicate ((l1.length : Int) : Int).toNat []) ([] : List Int) (l1.length : Int) 0) else (none)) else (none)) else (none))
theorem comp_ids.mono_l : ∀ k, (∀ y0 y1 y2 y3 y4 y5 y6 y7, LeO (comp_ids.l0 k y0 y1 y2 y3 y4 y5 y6 y7) (comp_ids.l0 (k + 1) y0 y1 y2 y3 y4 y5 y6 y7)) ∧ (∀ y0 y1 y2 y3 y4 y5 y6 y7 y8 y9 y10 y11 y12, LeO (comp_ids.l1 k y0 y1 y2 y3 y4 y5 y6 y7 y8 y9 y10 y11 y12) (comp_ids.l1 (k + 1) y0 y1 y2 y3 y4 y5 y6 y7 y8 y9 y10 y11 y12)) ∧ (∀ y0 y1 y2 y3 y4, LeO (comp_ids.l2 k y0 y1 y2 y3 y4) (comp_ids.l2 (k + 1) y0 y1 y2 y3 y4)) ∧ (∀ y0 y1 y2 y3 y4 y5 y6 y7 y8, LeO (comp_ids.l3 k y0 y1 y2 y3 y4 y5 y6 y7 y8) (comp_ids.l3 (k + 1) y0 y1 y2 y3 y4 y5 y6 y7 y8)) ∧ (∀ y0 y1 y2 y3 y4 y5 y6 y7, LeO (comp_ids.l4 k y0 y1 y2 y3 y4 y5 y6 y7) (comp_ids.l4 (k + 1) y0 y1 y2 y3 y4 y5 y6 y7))
 | 0 => ⟨fun _ _ _ _ _ _ _ _ r h => by simp [comp_ids.l0] at h, fun _ _ _ _ _ _ _ _ _ _ _ _ _ r h => by simp [comp_ids.l1] at h, fun _ _ _ _ _ r h => by simp [comp_ids.l2] at h, fun _ _ _ _ _ _ _ _ _ r h => by simp [comp_ids.l3] at h, fun _ _ _ _ _ _ _ _ r h => by simp [comp_ids.l4] at h⟩
 | k + 1 => by
  obtain ⟨ih0, ih1, ih2, ih3, ih4⟩ := comp_ids.mono_l k
  refine ⟨?_, ?_, ?_, ?_, ?_⟩
  ·intro y0 y1 y2 y3 y4 y5 y6 y7
   unfold comp_ids.l0
   repeat' first
   | (with_reducible exact ih0 _ _ _ _ _ _ _ _)
   | (with_reducible exact ih1 _ _ _ _ _ _ _ _ _ _ _ _ _)
   | (with_reducible exact ih2 _ _ _ _ _)
   | (with_reducible exact ih3 _ _ _ _ _ _ _ _ _)
   | (with_reducible exact ih4 _ _ _ _ _ _ _ _)
   | (with_reducible exact comp_leads.mono _ _ _ _ _)
   | (with_reducible exact comp_numbers.mono _ _ _)
   | (with_reducible exact LeO.refl _)
   | (with_reducible exact LeO.none _)
   | (with_reducible refine LeO.ite ?_ ?_)
   | (with_reducible refine LeO.bind ?_ (fun _ => ?_))
   | exact ih0 _ _ _ _ _ _ _ _
   | exact ih1 _ _ _ _ _ _ _ _ _ _ _ _ _
   | exact ih2 _ _ _ _ _
   | exact ih3 _ _ _ _ _ _ _ _ _
   | exact ih4 _ _ _ _ _ _ _ _
   | exact comp_leads.mono _ _ _ _ _
   | exact comp_numbers.mono _ _ _
   | exact LeO.none _
   | refine LeO.ite ?_ ?_
   | refine LeO.bind ?_ (fun _ => ?_)
  ·intro y0 y1 y2 y3 y4 y5 y6 y7 y8 y9 y10 y11 y12
   unfold comp_ids.l1
   repeat' first
   | (with_reducible exact ih0 _ _ _ _ _ _ _ _)
   | (with_reducible exact ih1 _ _ _ _ _ _ _ _ _ _ _ _ _)
   | (with_reducible exact ih2 _ _ _ _ _)
   | (with_reducible exact ih3 _ _ _ _ _ _ _ _ _)
   | (with_reducible exact ih4 _ _ _ _ _ _ _ _)
   | (with_reducible exact comp_leads.mono _ _ _ _ _)
   | (with_reducible exact comp_numbers.mono _ _ _)
   | (with_reducible exact LeO.refl _)
   | (with_reducible exact LeO.none _)
   | (with_reducible refine LeO.ite ?_ ?_)
   | (with_reducible refine LeO.bind ?_ (fun _ => ?_))
   | exact ih0 _ _ _ _ _ _ _ _
   | exact ih1 _ _ _ _ _ _ _ _ _ _ _ _ _
   | exact ih2 _ _ _ _ _
   | exact ih3 _ _ _ _ _ _ _ _ _
   | exact ih4 _ _ _ _ _ _ _ _
   | exact comp_leads.mono _ _ _ _ _
   | exact comp_numbers.mono _ _ _
   | exact LeO.none _
   | refine LeO.ite ?_ ?_
   | refine LeO.bind ?_ (fun _ => ?_)
  ·intro y0 y1 y2 y3 y4
   unfold comp_ids.l2
   repeat' first
   | (with_reducible exact ih0 _ _ _ _ _ _ _ _)
   | (with_reducible exact ih1 _ _ _ _ _ _ _ _ _ _ _ _ _)
   | (with_reducible exact ih2 _ _ _ _ _)
   | (with_reducible exact ih3 _ _ _ _ _ _ _ _ _)
   | (with_reducible exact ih4 _ _ _ _ _ _ _ _)
   | (with_reducible exact comp_leads.mono _ _ _ _ _)
   | (with_reducible exact comp_numbers.mono _ _ _)
   | (with_reducible exact LeO.refl _)
   | (with_reducible exact LeO.none _)
   | (with_reducible refine LeO.ite ?_ ?_)
   | (with_reducible refine LeO.bind ?_ (fun _ => ?_))
   | exact ih0 _ _ _ _ _ _ _ _
   | exact ih1 _ _ _ _ _ _ _ _ _ _ _ _ _
   | exact ih2 _ _ _ _ _
   | exact ih3 _ _ _ _ _ _ _ _ _
   | exact ih4 _ _ _ _ _ _ _ _
   | exact comp_leads.mono _ _ _ _ _
   | exact comp_numbers.mono _ _ _
   | exact LeO.none _
   | refine LeO.ite ?_ ?_
   | refine LeO.bind ?_ (fun _ => ?_)
  ·intro y0 y1 y2 y3 y4 y5 y6 y7 y8
   unfold comp_ids.l3
   repeat' first
   | (with_reducible exact ih0 _ _ _ _ _ _ _ _)
   | (with_reducible exact ih1 _ _ _ _ _ _ _ _ _ _ _ _ _)
   | (with_reducible exact ih2 _ _ _ _ _)
   | (with_reducible exact ih3 _ _ _ _ _ _ _ _ _)
   | (with_reducible exact ih4 _ _ _ _ _ _ _ _)
   | (with_reducible exact comp_leads.mono _ _ _ _ _)
   | (with_reducible exact comp_numbers.mono _ _ _)
   | (with_reducible exact LeO.refl _)
   | (with_reducible exact LeO.none _)
   | (with_reducible refine LeO.ite ?_ ?_)
   | (with_reducible refine LeO.bind ?_ (fun _ => ?_))
   | exact ih0 _ _ _ _ _ _ _ _
   | exact ih1 _ _ _ _ _ _ _ _ _ _ _ _ _
   | exact ih2 _ _ _ _ _
   | exact ih3 _ _ _ _ _ _ _ _ _
   | exact ih4 _ _ _ _ _ _ _ _
   | exact comp_leads.mono _ _ _ _ _
   | exact comp_numbers.mono _ _ _
   | exact LeO.none _
   | refine LeO.ite ?_ ?_
   | refine LeO.bind ?_ (fun _ => ?_)
  ·intro y0 y1 y2 y3 y4 y5 y6 y7
   unfold comp_ids.l4
   repeat' first
   | (with_reducible exact ih0 _ _ _ _ _ _ _ _)
   | (with_reducible exact ih1 _ _ _ _ _ _ _ _ _ _ _ _ _)
   | (with_reducible exact ih2 _ _ _ _ _)
   | (with_reducible exact ih3 _ _ _ _ _ _ _ _ _)
   | (with_reducible exact ih4 _ _ _ _ _ _ _ _)
   | (with_reducible exact comp_leads.mono _ _ _ _ _)
   | (with_reducible exact comp_numbers.mono _ _ _)
   | (with_reducible exact LeO.refl _)
   | (with_reducible exact LeO.none _)
   | (with_reducible refine LeO.ite ?_ ?_)
   | (with_reducible refine LeO.bind ?_ (fun _ => ?_))
   | exact ih0 _ _ _ _ _ _ _ _
   | exact ih1 _ _ _ _ _ _ _ _ _ _ _ _ _
   | exact ih2 _ _ _ _ _
   | exact ih3 _ _ _ _ _ _ _ _ _
   | exact ih4 _ _ _ _ _ _ _ _
   | exact comp_leads.mono _ _ _ _ _
   | exact comp_numbers.mono _ _ _
   | exact LeO.none _
   | refine LeO.ite ?_ ?_
   | refine LeO.bind ?_ (fun _ => ?_)
theorem comp_ids.mono : ∀ a0 a1 k, LeO (comp_ids.f k a0 a1) (comp_ids.f (k + 1) a0 a1) := by
 intro a0 a1 k
 obtain ⟨ih0, ih1, ih2, ih3, ih4⟩ := comp_ids.mono_l k
 unfold comp_ids.f
 repeat' first
   | (with_reducible exact ih0 _ _ _ _ _ _ _ _)
   | (with_reducible exact ih1 _ _ _ _ _ _ _ _ _ _ _ _ _)
   | (with_reducible exact ih2 _ _ _ _ _)
   | (with_reducible exact ih3 _ _ _ _ _ _ _ _ _)
   | (with_reducible exact ih4 _ _ _ _ _ _ _ _)
   | (with_reducible exact comp_leads.mono _ _ _ _ _)
   | (with_reducible exact comp_numbers.mono _ _ _)
   | (with_reducible exact LeO.refl _)
   | (with_reducible exact LeO.none _)
   | (with_reducible refine LeO.ite ?_ ?_)
   | (with_reducible refine LeO.bind ?_ (fun _ => ?_))
   | exact ih0 _ _ _ _ _ _ _ _
   | exact ih1 _ _ _ _ _ _ _ _ _ _ _ _ _
   | exact ih2 _ _ _ _ _
   | exact ih3 _ _ _ _ _ _ _ _ _
   | exact ih4 _ _ _ _ _ _ _ _
   | exact comp_leads.mono _ _ _ _ _
   | exact comp_numbers.mono _ _ _
   | exact LeO.none _
   | refine LeO.ite ?_ ?_
   | refine LeO.bind ?_ (fun _ => ?_)
def comp_Components.f (k : Nat) (l0 : List (List Int)) : Option (List (List Int)) := (comp_found.f l0).bind fun l1 => (comp_ids.f k l0 l1).bind fun ids => if ids.Nodup ∧ ∀ i ∈ ids, 0 ≤ i ∧ i < (l1.length : Int) then some (ids.map (rd_L1 l1)) else none
theorem comp_Components.mono : ∀ a0 k, LeO (comp_Components.f k a0) (comp_Components.f (k + 1) a0) := by
 intro a0 k
 unfold comp_Components.f
 refine LeO.bind (LeO.refl _) (fun _ => LeO.bind (comp_ids.mono _ _ _) (fun _ => LeO.refl _))
set_option maxHeartbeats 8000000 in
set_option maxRecDepth 100000 in
theorem comp_Components.calls (k : Nat) (A0 : Option Addr) (c0 : Nat) (l0 : List (List Int)) (rr : List (List Int)) (W0 : World) (hr00 : Kd.C (Kd.slice 3 (Kd.int .i64)) W0 A0 l0.length l0) (hc0 : l0.length ≤ c0) (h00 : comp_Components.f k l0 = some rr) :
  Calls Try.prog 42 #[.slice A0 l0.length c0] W0 fun e w' => ∃ v0_ : Value, e = .returned (v0_) ∧ Kd.S (Kd.slice 3 (Kd.int .i64)) 53 w' W0.heap.size (fun _ => True) v0_ rr ∧ Below W0.heap.size W0 w' := by
 unfold comp_Components.f at h00
 obtain ⟨l1, hfo, h01⟩ := Option.bind_eq_some_iff.1 h00
 obtain ⟨r, h, h02⟩ := Option.bind_eq_some_iff.1 h01
 split at h02
 case isFalse => cases h02
 rename_i hnd
 injection h02 with h02
 have HND := Lib.hid hnd
 have HRR := Lib.hid h02
 have HH := Lib.hid h
 have HFO := Lib.hid hfo
 have HR00 := Lib.hid hr00
 clear h00 h01 h02 hnd hfo hr00 h
 go_enter Try.func42, Try.ntmps42
 go_upto_region 2 with (first | (go_at_call 71; refine (comp_found.calls A0 c0 l0 l1 _ HR00.out hc0 HFO.out).mono ?_; rintro e w ⟨v, rfl, hS, hBW⟩; obtain ⟨A1, c1, rfl⟩ := Kd.S_slice hS; have HSS := Lib.hid hS; have HBW := Lib.hid hBW; clear hS hBW))
 have hr0 := Kd.C_below HR00.out HBW.out
 have hr1 := (Kd.S_reads' HSS.out).2.2
 have hc1 := (Kd.S_reads' HSS.out).2.1
 have h := HH.out
 clear HH HFO HR00
 have HR0 := Aside0.mk hr0
 have HC0 := Aside0.mk hc0
 clear hr0 hc0
 have HR1 := Aside0.mk hr1
 have HC1 := Aside0.mk hc1
 clear hr1 hc1
 have HB := Aside0.mk (Below.refl w.heap.size w)
 have H : ((comp_numbers.f k l1 (l0.length : Int)).bind fun t101 => (if 0 ≤ (l1.length : Int) then (if ((l1.length : Int) : Int).toNat ≤ 35184372088832 then (if ((l1.length : Int) : Int).toNat ≤ 11728124029610 then (comp_ids.l0 k l0 l1 t101 (List.replicate ((l1.length : Int) : Int).toNat 0) (List.replicate ((l1.length : Int) : Int).toNat []) ([] : List Int) (l1.length : Int) 0) else (none)) else (none)) else (none))) = some r := h
 clear h
 replace H := Option.bind_eq_some_iff.mp H
 obtain ⟨t101, A30, H⟩ := H
 replace H : (if 0 ≤ (l1.length : Int) then (if ((l1.length : Int) : Int).toNat ≤ 35184372088832 then (if ((l1.length : Int) : Int).toNat ≤ 11728124029610 then (comp_ids.l0 k l0 l1 t101 (List.replicate ((l1.length : Int) : Int).toNat 0) (List.replicate ((l1.length : Int) : Int).toNat []) ([] : List Int) (l1.length : Int) 0) else (none)) else (none)) else (none)) = some r := H
 have A3 := Aside0.mk A30
 clear A30
 by_cases c4 : 0 ≤ (l1.length : Int)
 ·rw [if_pos c4] at H
  have c4b0 := eq_true c4
  have c4b1 : decide (0 ≤ (l1.length : Int)) = true := decide_eq_true c4
  clear c4
  by_cases c5 : ((l1.length : Int) : Int).toNat ≤ 35184372088832
  ·rw [if_pos c5] at H
   have c5b0 := eq_true c5
   have c5b1 : decide (((l1.length : Int) : Int).toNat ≤ 35184372088832) = true := decide_eq_true c5
   clear c5
   obtain ⟨y104, hy104⟩ : ∃ y_ : List Int, y_ = (List.replicate ((l1.length : Int) : Int).toNat 0) := ⟨_, rfl⟩
   replace H : (if ((l1.length : Int) : Int).toNat ≤ 11728124029610 then (comp_ids.l0 k l0 l1 t101 y104 (List.replicate ((l1.length : Int) : Int).toNat []) ([] : List Int) (l1.length : Int) 0) else (none)) = some r := by first | (rw [hy104]; with_reducible exact H) | (have H2_ := (Option.bind_some _ _).symm.trans H; rw [hy104]; with_reducible exact H2_) | (have H2_ := (Option.bind_some _ _).symm.trans H; with_reducible exact H2_) | with_reducible exact H | (rw [hy104]; exact H) | exact H
   have Ny104 := Aside0.mk hy104
   clear hy104
   by_cases c6 : ((l1.length : Int) : Int).toNat ≤ 11728124029610
   ·rw [if_pos c6] at H
    have c6b0 := eq_true c6
    have c6b1 : decide (((l1.length : Int) : Int).toNat ≤ 11728124029610) = true := decide_eq_true c6
    clear c6
    obtain ⟨y107, hy107⟩ : ∃ y_ : List (List Int), y_ = (List.replicate ((l1.length : Int) : Int).toNat []) := ⟨_, rfl⟩
    replace H : (comp_ids.l0 k l0 l1 t101 y104 y107 ([] : List Int) (l1.length : Int) 0) = some r := by first | (rw [hy107]; with_reducible exact H) | (have H2_ := (Option.bind_some _ _).symm.trans H; rw [hy107]; with_reducible exact H2_) | (have H2_ := (Option.bind_some _ _).symm.trans H; with_reducible exact H2_) | with_reducible exact H | (rw [hy107]; exact H) | exact H
    have Ny107 := Aside0.mk hy107
    clear hy107
    have H' := Aside0.mk H
    clear H
    go_wp2_with (first | (go_at_call 72; (with_reducible refine (comp_numbers.calls k _ _ l1 (l0.length : Int) t101 _ ?side1 ?side2 A3.out).mono ?_); (case side1 => repeat (first | exact HR1.out | (with_reducible refine Kd.C_alloc ?_ _) | (with_reducible refine Kd.C_drewN ?_ _) | (with_reducible refine Kd.C_drew ?_))); (case side2 => exact HC1.out); rintro e w7 ⟨v102, rfl, ho0, hb⟩; have n0_ := Aside0.mk (Kd.R_lower ho0 (below_size (by repeat (first | (with_reducible first | exact HB.out | apply below_alloc | apply pw_below_drewN | apply below_drew1) | exact HB.out)))); have n1_ := Aside0.mk (below_step (by repeat (first | (with_reducible first | exact HB.out | apply below_alloc | apply pw_below_drewN | apply below_drew1) | exact HB.out)) hb); clear HB; have HO103 := n0_; have HB := n1_; clear n0_ n1_; (try clear hb); (try clear hb2); (try clear hk); (try clear hi); (try clear ho0)) | ((with_reducible refine gate_dst (N := 27) rfl ?_); refine Kd.R_make (Kd.int .i64) _ 3 rfl (N := 27) rfl 53 _ _ rfl (l1.length : Int) rfl rfl Try.underlying53 (.int .i64 0) 8 info3 rfl (by decide) (by omega) 0 (ok := fun _ => True) (okp := fun _ => True) rfl (fun _ hk => hk) trivial (of_decide_eq_true (by first | (with_reducible assumption) | assumption)) (Nat.le_trans (Nat.mul_le_mul_right _ (of_decide_eq_true (by first | (with_reducible assumption) | assumption) : (l1.length : Int).toNat ≤ 35184372088832)) (by omega)) (Below.refl _ _) (Nat.le_refl _) ?_; intro v105 w8 ho9 hb hg_ hnew_; clear hg_ hnew_; (first | rw [← Ny104.out] at ho9 | (simp only [Int.reduceToNat] at ho9; rw [← Ny104.out] at ho9)); have n0_ := Aside0.mk (Kd.R_elder' (by (with_reducible repeat (first | apply Kd.R_alloc | apply Kd.R_drewN | apply Kd.R_drew)); exact HO103.out) (Kd.R_base ho9) hb); have n1_ := Aside0.mk (Kd.R_lower (Kd.R_new' ho9 (Kd.R_lt (by (with_reducible repeat (first | apply Kd.R_alloc | apply Kd.R_drewN | apply Kd.R_drew)); exact HO103.out))) (below_size (by repeat (first | (with_reducible first | exact HB.out | apply below_alloc | apply pw_below_drewN | apply below_drew1) | exact HB.out)))); have n2_ := Aside0.mk (below_step (by repeat (first | (with_reducible first | exact HB.out | apply below_alloc | apply pw_below_drewN | apply below_drew1) | exact HB.out)) hb); clear HO103; clear HB; have HO103 := n0_; have HO106 := n1_; have HB := n2_; clear n0_ n1_ n2_; clear hb ho9) | ((with_reducible refine gate_dst (N := 30) rfl ?_); refine Kd.S_make (Kd.slice 3 (Kd.int .i64)) _ 53 rfl (N := 30) rfl 48 _ _ rfl (l1.length : Int) rfl rfl Try.underlying48 (.slice none 0 0) 24 info53 rfl (by decide) (by omega) [] (ok := fun _ => True) (okp := fun _ => True) ⟨_, rfl, Kd.R_nil _ _ _ _ _⟩ (fun _ hk => hk) trivial (of_decide_eq_true (by first | (with_reducible assumption) | assumption)) (Nat.le_trans (Nat.mul_le_mul_right _ (of_decide_eq_true (by first | (with_reducible assumption) | assumption) : (l1.length : Int).toNat ≤ 11728124029610)) (by omega)) (Below.refl _ _) (Nat.le_refl _) ?_; intro v108 w10 ho11 hb hg_ hnew_; clear hg_ hnew_; (first | rw [← Ny107.out] at ho11 | (simp only [Int.reduceToNat] at ho11; rw [← Ny107.out] at ho11)); have n0_ := Aside0.mk (Kd.R_below (by (with_reducible repeat (first | apply Kd.R_alloc | apply Kd.R_drewN | apply Kd.R_drew)); exact HO103.out) hb); have n1_ := Aside0.mk (Kd.R_below (by (with_reducible repeat (first | apply Kd.R_alloc | apply Kd.R_drewN | apply Kd.R_drew)); exact HO106.out) hb); have n2_ := Aside0.mk (Kd.S_lower (Kd.S_new' (Kd.S_new' ho11 (Kd.R_lt (by (with_reducible repeat (first | apply Kd.R_alloc | apply Kd.R_drewN | apply Kd.R_drew)); exact HO103.out))) (Kd.R_lt (by (with_reducible repeat (first | apply Kd.R_alloc | apply Kd.R_drewN | apply Kd.R_drew)); exact HO106.out))) (below_size (by repeat (first | (with_reducible first | exact HB.out | apply below_alloc | apply pw_below_drewN | apply below_drew1) | exact HB.out)))); have n3_ := Aside0.mk (below_step (by repeat (first | (with_reducible first | exact HB.out | apply below_alloc | apply pw_below_drewN | apply below_drew1) | exact HB.out)) hb); clear HO103; clear HO106; clear HB; have HO103 := n0_; have HO106 := n1_; have HO109 := n2_; have HB := n3_; clear n0_ n1_ n2_ n3_; clear hb ho11))
    go_loopg [7, 33] k (fun kq v7 v33 w' => ∃ (x5_1 : List Int) (x6_1 : List (List Int)) (x7_1 : List Int) (x33_1 : Int), v33 = .int .i64 x33_1 ∧ Aside0 (comp_ids.l0 kq l0 l1 t101 x5_1 x6_1 x7_1 (l1.length : Int) x33_1 = some r) ∧ Aside0 (kq ≤ k) ∧ Aside0 (Kd.R (Kd.int .i64) 3 w' w.heap.size (fun k_ => some k_ ≠ (v105 : Value).ownBlock ∧ some k_ ≠ (v7 : Value).ownBlock) v102 t101) ∧ Aside0 (Kd.R (Kd.int .i64) 3 w' w.heap.size (fun k_ => some k_ ≠ (v102 : Value).ownBlock ∧ some k_ ≠ (v7 : Value).ownBlock) v105 x5_1) ∧ Aside0 (Kd.S (Kd.slice 3 (Kd.int .i64)) 53 w' w.heap.size (fun k_ => some k_ ≠ (v102 : Value).ownBlock ∧ some k_ ≠ (v105 : Value).ownBlock ∧ some k_ ≠ (v7 : Value).ownBlock) v108 x6_1) ∧ Aside0 (Kd.R (Kd.int .i64) 3 w' w.heap.size (fun k_ => some k_ ≠ (v102 : Value).ownBlock ∧ some k_ ≠ (v105 : Value).ownBlock) v7 x7_1) ∧ Aside0 (Below w.heap.size w w'))
    case atStart => exact ⟨(y104), (y107), (([] : List Int)), (0), (by first | rfl | (simp; done) | (simp [*]; done)), H', ⟨Nat.le_refl _⟩, ⟨by (with_reducible repeat (first | apply Kd.R_alloc | apply Kd.R_drewN | apply Kd.R_drew)); exact Kd.R_mono HO103.out (fun _ hk => ⟨hk.2, (by simp [Value.ownBlock])⟩)⟩, ⟨by (with_reducible repeat (first | apply Kd.R_alloc | apply Kd.R_drewN | apply Kd.R_drew)); exact Kd.R_mono HO106.out (fun _ hk => ⟨hk.2, (by simp [Value.ownBlock])⟩)⟩, ⟨by (with_reducible repeat (first | apply Kd.S_alloc | apply Kd.S_drewN | apply Kd.S_drew)); exact Kd.S_mono HO109.out (fun _ hk => ⟨hk.1.2, ⟨hk.2, (by simp [Value.ownBlock])⟩⟩)⟩, ⟨by first | exact Kd.R_nil _ _ _ _ _ | exact Kd.N_nil _ _ _ _ _ | exact Kd.V_nil _ _ _ _ _ | exact Kd.Q_nil _ _ _ _ _ | exact Kd.S_nil _ _ _ _ _⟩, ⟨by repeat (first | (with_reducible first | exact HB.out | apply below_alloc | apply pw_below_drewN | apply below_drew1) | exact HB.out)⟩⟩
    case round =>
     clear H'
     try clear c1
     try clear p2
     try clear c4
     try clear c4b0
     try clear c4b1
     try clear c5
     try clear c5b0
     try clear c5b1
     try clear c6
     try clear c6b0
     try clear c6b1
     obtain ⟨x5_1, x6_1, x7_1, x33_1, rfl, HA, HK1, HO_4, HO_5, HO_6, HO_7, HB⟩ := hrel
     cases gk with
     | zero => exact absurd HA.out (by simp [comp_ids.l0])
     | succ k1 =>
      have H := HA.out
      clear HA
      simp only [comp_ids.l0] at H
      by_cases c12 : x33_1 < (l1.length : Int)
      ·rw [if_pos c12] at H
       have c12b0 : decide (x33_1 < (l1.length : Int)) = true := decide_eq_true c12
       clear c12
       replace H := Option.bind_eq_some_iff.mp H
       obtain ⟨t110, A130, H⟩ := H
       replace H : (if 0 ≤ x33_1 then (if x33_1 < (x5_1.length : Int) then (comp_ids.l1 k1 l0 l1 t101 (x5_1.set (x33_1 : Int).toNat (t110.length : Int)) x6_1 x7_1 x33_1 t110 (l1.length : Int) x33_1 t110 (t110.length : Int) 0) else (none)) else (none)) = some r := H
       have A13 := Aside0.mk A130
       clear A130
       by_cases c14 : 0 ≤ x33_1
       ·rw [if_pos c14] at H
        have c14b0 : decide (0 ≤ x33_1) = true := decide_eq_true c14
        clear c14
        by_cases c15 : x33_1 < (x5_1.length : Int)
        ·rw [if_pos c15] at H
         have c15b0 : decide (x33_1 < (x5_1.length : Int)) = true := decide_eq_true c15
         clear c15
         obtain ⟨y113, hy113⟩ : ∃ y_ : List Int, y_ = (x5_1.set (x33_1 : Int).toNat (t110.length : Int)) := ⟨_, rfl⟩
         replace H : (comp_ids.l1 k1 l0 l1 t101 y113 x6_1 x7_1 x33_1 t110 (l1.length : Int) x33_1 t110 (t110.length : Int) 0) = some r := by first | (rw [hy113]; with_reducible exact H) | (have H2_ := (Option.bind_some _ _).symm.trans H; rw [hy113]; with_reducible exact H2_) | (have H2_ := (Option.bind_some _ _).symm.trans H; with_reducible exact H2_) | with_reducible exact H | (rw [hy113]; exact H) | exact H
         have Ny113 := Aside0.mk hy113
         clear hy113
         have H' := Aside0.mk H
         clear H
         obtain ⟨Ao17, co17, eo17⟩ := Kd.R_slice HO_4.out
         subst eo17
         go_wp2_with (first | (go_at_call 73; (with_reducible refine (comp_leads.calls k1 _ _ l0 _ _ l1 _ _ t101 x33_1 t110 _ ?side1 ?side2 ?side3 ?side4 ?side5 ?side6 A13.out).mono ?_); (case side1 => repeat (first | exact (Kd.C_below HR0.out HB.out) | (with_reducible refine Kd.C_alloc ?_ _) | (with_reducible refine Kd.C_drewN ?_ _) | (with_reducible refine Kd.C_drew ?_))); (case side2 => exact HC0.out); (case side3 => repeat (first | exact (Kd.C_below HR1.out HB.out) | (with_reducible refine Kd.C_alloc ?_ _) | (with_reducible refine Kd.C_drewN ?_ _) | (with_reducible refine Kd.C_drew ?_))); (case side4 => exact HC1.out); (case side5 => repeat (first | exact (Kd.R_reads' HO_4.out).2.2 | (with_reducible refine Kd.C_alloc ?_ _) | (with_reducible refine Kd.C_drewN ?_ _) | (with_reducible refine Kd.C_drew ?_))); (case side6 => exact (Kd.R_reads' HO_4.out).2.1); rintro e w18 ⟨v111, rfl, ho0, hb⟩; have n0_ := Aside0.mk (Kd.R_elder' (by (with_reducible repeat (first | apply Kd.R_alloc | apply Kd.R_drewN | apply Kd.R_drew)); exact HO_4.out) (Kd.R_base ho0) hb); have n1_ := Aside0.mk (Kd.R_elder' (by (with_reducible repeat (first | apply Kd.R_alloc | apply Kd.R_drewN | apply Kd.R_drew)); exact HO_5.out) (Kd.R_base ho0) hb); have n2_ := Aside0.mk (Kd.S_elder' (by (with_reducible repeat (first | apply Kd.S_alloc | apply Kd.S_drewN | apply Kd.S_drew)); exact HO_6.out) (Kd.R_base ho0) hb); have n3_ := Aside0.mk (Kd.R_elder' (by (with_reducible repeat (first | apply Kd.R_alloc | apply Kd.R_drewN | apply Kd.R_drew)); exact HO_7.out) (Kd.R_base ho0) hb); have n4_ := Aside0.mk (Kd.R_lower (Kd.R_new' (Kd.R_new' (Kd.R_new' ho0 (Kd.R_lt (by (with_reducible repeat (first | apply Kd.R_alloc | apply Kd.R_drewN | apply Kd.R_drew)); exact HO_4.out))) (Kd.R_lt (by (with_reducible repeat (first | apply Kd.R_alloc | apply Kd.R_drewN | apply Kd.R_drew)); exact HO_5.out))) (Kd.R_lt (by (with_reducible repeat (first | apply Kd.R_alloc | apply Kd.R_drewN | apply Kd.R_drew)); exact HO_7.out))) (below_size (by repeat (first | (with_reducible first | exact HB.out | apply below_alloc | apply pw_below_drewN | apply below_drew1) | exact HB.out)))); have n5_ := Aside0.mk (below_step (by repeat (first | (with_reducible first | exact HB.out | apply below_alloc | apply pw_below_drewN | apply below_drew1) | exact HB.out)) hb); clear HO_4; clear HO_5; clear HO_6; clear HO_7; clear HB; have HO_4 := n0_; have HO_5 := n1_; have HO_6 := n2_; have HO_7 := n3_; have HO112 := n4_; have HB := n5_; clear n0_ n1_ n2_ n3_ n4_ n5_; (try clear hb); (try clear hb2); (try clear hk); (try clear hi); (try clear ho0); obtain ⟨Ao19, co19, eo19⟩ := Kd.R_slice HO112.out; subst eo19; have p16 : 0 ≤ (x33_1 : Int) := of_decide_eq_true (by first | (with_reducible assumption) | assumption); have q16 : (x33_1 : Int) < ((x5_1.length : Int) : Int) := of_decide_eq_true (by first | (with_reducible assumption) | assumption); obtain ⟨go16, co16, eo16, gb16, gl16, cl16, HG16⟩ := Kd.R_form HO_5.out (by omega); (first | cases eo16 | (injection eo16 with ea_ en_ ec_; (first | subst ea_ | (injection ea_ with ea_; subst ea_)); subst ec_; clear en_)); have GB16 := Aside0.mk gb16; have GG16 := Aside0.mk HG16; clear gb16 gl16 HG16; obtain ⟨hx16_0, hf16_0⟩ := Kd.R_celln 0 HO_5.out (x33_1 : Int) p16 q16; replace p16 := eq_true p16; replace q16 := eq_true q16; have n_ := Aside0.mk (Kd.R_mono (ok' := (fun k_ => some k_ ≠ (.slice Ao17 t101.length co17 : Value).ownBlock ∧ some k_ ≠ (u7 : Value).ownBlock ∧ some k_ ≠ (.slice Ao19 t110.length co19 : Value).ownBlock)) HO_5.out (fun k_ hk => ⟨hk.1.1, ⟨hk.1.2, hk.2⟩⟩)); clear HO_5; have HO_5 := n_; clear n_; obtain ⟨hy20_, hz20_⟩ := Kd.R_celln 0 HO_5.out (x33_1 : Int) (of_decide_eq_true (by first | (with_reducible assumption) | assumption)) (of_decide_eq_true (by first | (with_reducible assumption) | assumption)); have HP20 := Kd.R_putg HO_5.out (x33_1 : Int) (t110.length : Int)) | ((with_reducible refine gate_store (t := 3) (p := 45) rfl ?_); (try (rw [drewN_self w18]; generalize hq_ : World.drewN w18 _ = w18; have n0_ := Aside0.mk (Kd.R_at hq_ HO_4.out); have n1_ := Aside0.mk (Kd.R_at hq_ HO_5.out); have n2_ := Aside0.mk (Kd.S_at hq_ HO_6.out); have n3_ := Aside0.mk (Kd.R_at hq_ HO_7.out); have n4_ := Aside0.mk (Kd.R_at hq_ HO112.out); have n5_ := Aside0.mk (below_at hq_ HB.out); clear hq_ HO_4 HO_5 HO_6 HO_7 HO112 HB; have HO_4 := n0_; have HO_5 := n1_; have HO_6 := n2_; have HO_7 := n3_; have HO112 := n4_; have HB := n5_; clear n0_ n1_ n2_ n3_ n4_ n5_; (try (have n_ := Aside0.mk (Kd.R_mono (ok' := (fun k_ => some k_ ≠ (.slice Ao17 t101.length co17 : Value).ownBlock ∧ some k_ ≠ (u7 : Value).ownBlock ∧ some k_ ≠ (.slice Ao19 t110.length co19 : Value).ownBlock)) HO_5.out (fun k_ hk => ⟨hk.1.1, ⟨hk.1.2, hk.2⟩⟩)); clear HO_5; have HO_5 := n_; clear n_)); (try (obtain ⟨hy20_, hz20_⟩ := Kd.R_celln 0 HO_5.out (x33_1 : Int) (of_decide_eq_true (by first | (with_reducible assumption) | assumption)) (of_decide_eq_true (by first | (with_reducible assumption) | assumption)))); (try (have HP20 := Kd.R_putg HO_5.out (x33_1 : Int) (t110.length : Int))))); refine store_event (t := 3) (p := 45) (v := ?vo_w21) (w1 := (w18.setCell ⟨go16, (x33_1 : Int).toNat, none⟩ (.int .i64 (t110.length : Int)))) ?hg ?ho ?hn ?hr ?_; (case ho => rfl); (case hg => rfl); (case hn => rfl); (case hr => first | (go_simp; done) | (go_simp; rfl)); intro w21 hw; have hg : w18.grownBy w21 (some go16) := (by rw [hw]; exact HP20.2); have hp_ : Kd.R (Kd.int .i64) 3 w21 w.heap.size (fun k_ => some k_ ≠ (.slice Ao17 t101.length co17 : Value).ownBlock ∧ some k_ ≠ (u7 : Value).ownBlock ∧ some k_ ≠ (.slice Ao19 t110.length co19 : Value).ownBlock) (.slice (some ⟨go16, 0, none⟩) x5_1.length co16) y113 := (by rw [hw, Ny113.out]; exact HP20.1); clear HP20; have n0_ := Aside0.mk (Kd.R_after (v := (.slice (some ⟨go16, 0, none⟩) x5_1.length co16)) (v1 := (.slice (some ⟨go16, 0, none⟩) x5_1.length co16)) (ok := (fun k_ => some k_ ≠ (u7 : Value).ownBlock ∧ some k_ ≠ (.slice Ao19 t110.length co19 : Value).ownBlock)) (by (with_reducible repeat (first | apply Kd.R_alloc | apply Kd.R_drewN | apply Kd.R_drew)); exact Kd.R_mono HO_4.out (fun _ hk => ⟨⟨hk.1.2, hk.2⟩, hk.1.1⟩)) hg (.inl rfl)); have n1_ := Aside0.mk (hp_); have n2_ := Aside0.mk (Kd.S_after (v := (.slice (some ⟨go16, 0, none⟩) x5_1.length co16)) (v1 := (.slice (some ⟨go16, 0, none⟩) x5_1.length co16)) (ok := (fun k_ => some k_ ≠ (.slice Ao17 t101.length co17 : Value).ownBlock ∧ some k_ ≠ (u7 : Value).ownBlock ∧ some k_ ≠ (.slice Ao19 t110.length co19 : Value).ownBlock)) (by (with_reducible repeat (first | apply Kd.S_alloc | apply Kd.S_drewN | apply Kd.S_drew)); exact Kd.S_mono HO_6.out (fun _ hk => ⟨⟨hk.1.1, ⟨hk.1.2.2, hk.2⟩⟩, hk.1.2.1⟩)) hg (.inl rfl)); have n3_ := Aside0.mk (Kd.R_after (v := (.slice (some ⟨go16, 0, none⟩) x5_1.length co16)) (v1 := (.slice (some ⟨go16, 0, none⟩) x5_1.length co16)) (ok := (fun k_ => some k_ ≠ (.slice Ao17 t101.length co17 : Value).ownBlock ∧ some k_ ≠ (.slice Ao19 t110.length co19 : Value).ownBlock)) (by (with_reducible repeat (first | apply Kd.R_alloc | apply Kd.R_drewN | apply Kd.R_drew)); exact Kd.R_mono HO_7.out (fun _ hk => ⟨⟨hk.1.1, hk.2⟩, hk.1.2⟩)) hg (.inl rfl)); have n4_ := Aside0.mk (Kd.R_after (v := (.slice (some ⟨go16, 0, none⟩) x5_1.length co16)) (v1 := (.slice (some ⟨go16, 0, none⟩) x5_1.length co16)) (ok := (fun k_ => some k_ ≠ (.slice Ao17 t101.length co17 : Value).ownBlock ∧ some k_ ≠ (u7 : Value).ownBlock)) (by (with_reducible repeat (first | apply Kd.R_alloc | apply Kd.R_drewN | apply Kd.R_drew)); exact Kd.R_mono HO112.out (fun _ hk => ⟨⟨hk.1.1.2, hk.2⟩, hk.1.2⟩)) hg (.inl rfl)); have n5_ := Aside0.mk ((by rw [hw]; exact below_set (HB.out) GB16.out : Below w.heap.size w w21)); clear HO_4; clear HO_5; clear HO_6; clear HO_7; clear HO112; clear HB; have HO_4 := n0_; have HO_5 := n1_; have HO_6 := n2_; have HO_7 := n3_; have HO112 := n4_; have HB := n5_; clear n0_ n1_ n2_ n3_ n4_ n5_; clear hg hw hp_))
         go_loopg [48] k1 (fun kq v48 w' => ∃ (x6_2 : List (List Int)) (x48_2 : Int), v48 = .int .i64 x48_2 ∧ Aside0 (comp_ids.l1 kq l0 l1 t101 y113 x6_2 x7_1 x33_1 t110 (l1.length : Int) x33_1 t110 (t110.length : Int) x48_2 = some r) ∧ Aside0 (kq ≤ k1) ∧ Aside0 (Kd.R (Kd.int .i64) 3 w' w.heap.size (fun k_ => some k_ ≠ ((.slice (some ⟨go16, 0, none⟩) x5_1.length co16) : Value).ownBlock ∧ some k_ ≠ (u7 : Value).ownBlock ∧ some k_ ≠ ((.slice Ao19 t110.length co19) : Value).ownBlock ∧ some k_ ≠ ((.slice Ao19 t110.length co19) : Value).ownBlock) (.slice Ao17 t101.length co17) t101) ∧ Aside0 (Kd.R (Kd.int .i64) 3 w' w.heap.size (fun k_ => some k_ ≠ ((.slice Ao17 t101.length co17) : Value).ownBlock ∧ some k_ ≠ (u7 : Value).ownBlock ∧ some k_ ≠ ((.slice Ao19 t110.length co19) : Value).ownBlock ∧ some k_ ≠ ((.slice Ao19 t110.length co19) : Value).ownBlock) (.slice (some ⟨go16, 0, none⟩) x5_1.length co16) y113) ∧ Aside0 (Kd.S (Kd.slice 3 (Kd.int .i64)) 53 w' w.heap.size (fun k_ => some k_ ≠ ((.slice Ao17 t101.length co17) : Value).ownBlock ∧ some k_ ≠ ((.slice (some ⟨go16, 0, none⟩) x5_1.length co16) : Value).ownBlock ∧ some k_ ≠ (u7 : Value).ownBlock ∧ some k_ ≠ ((.slice Ao19 t110.length co19) : Value).ownBlock ∧ some k_ ≠ ((.slice Ao19 t110.length co19) : Value).ownBlock) v108 x6_2) ∧ Aside0 (Kd.R (Kd.int .i64) 3 w' w.heap.size (fun k_ => some k_ ≠ ((.slice Ao17 t101.length co17) : Value).ownBlock ∧ some k_ ≠ ((.slice (some ⟨go16, 0, none⟩) x5_1.length co16) : Value).ownBlock ∧ some k_ ≠ ((.slice Ao19 t110.length co19) : Value).ownBlock ∧ some k_ ≠ ((.slice Ao19 t110.length co19) : Value).ownBlock) u7 x7_1) ∧ Aside0 (Kd.R (Kd.int .i64) 3 w' w.heap.size (fun k_ => some k_ ≠ ((.slice Ao17 t101.length co17) : Value).ownBlock ∧ some k_ ≠ ((.slice (some ⟨go16, 0, none⟩) x5_1.length co16) : Value).ownBlock ∧ some k_ ≠ (u7 : Value).ownBlock) (.slice Ao19 t110.length co19) t110) ∧ Aside0 (Kd.R (Kd.int .i64) 3 w' w.heap.size (fun k_ => some k_ ≠ ((.slice Ao17 t101.length co17) : Value).ownBlock ∧ some k_ ≠ ((.slice (some ⟨go16, 0, none⟩) x5_1.length co16) : Value).ownBlock ∧ some k_ ≠ (u7 : Value).ownBlock) (.slice Ao19 t110.length co19) t110) ∧ Aside0 (Below w.heap.size w w'))
         case atStart => exact ⟨(x6_1), (0), (by first | rfl | (simp; done) | (simp [*]; done)), H', ⟨Nat.le_refl _⟩, ⟨by (with_reducible repeat (first | apply Kd.R_alloc | apply Kd.R_drewN | apply Kd.R_drew)); exact Kd.R_mono HO_4.out (fun _ hk => ⟨hk.2, ⟨hk.1.1, ⟨hk.1.2, hk.1.2⟩⟩⟩)⟩, ⟨by (with_reducible repeat (first | apply Kd.R_alloc | apply Kd.R_drewN | apply Kd.R_drew)); exact Kd.R_mono HO_5.out (fun _ hk => ⟨hk.1, ⟨hk.2.1, ⟨hk.2.2, hk.2.2⟩⟩⟩)⟩, ⟨by (with_reducible repeat (first | apply Kd.S_alloc | apply Kd.S_drewN | apply Kd.S_drew)); exact Kd.S_mono HO_6.out (fun _ hk => ⟨hk.1.1, ⟨hk.2, ⟨hk.1.2.1, ⟨hk.1.2.2, hk.1.2.2⟩⟩⟩⟩)⟩, ⟨by (with_reducible repeat (first | apply Kd.R_alloc | apply Kd.R_drewN | apply Kd.R_drew)); exact Kd.R_mono HO_7.out (fun _ hk => ⟨hk.1.1, ⟨hk.2, ⟨hk.1.2, hk.1.2⟩⟩⟩)⟩, ⟨by (with_reducible repeat (first | apply Kd.R_alloc | apply Kd.R_drewN | apply Kd.R_drew)); exact Kd.R_mono HO112.out (fun _ hk => ⟨hk.1.1, ⟨hk.2, hk.1.2⟩⟩)⟩, ⟨by (with_reducible repeat (first | apply Kd.R_alloc | apply Kd.R_drewN | apply Kd.R_drew)); exact Kd.R_mono HO112.out (fun _ hk => ⟨hk.1.1, ⟨hk.2, hk.1.2⟩⟩)⟩, ⟨by repeat (first | (with_reducible first | exact HB.out | apply below_alloc | apply pw_below_drewN | apply below_drew1) | exact HB.out)⟩⟩
         case round =>
          clear H'
          try clear c1
          try clear p1
          try clear q1
          try clear hx1
          try clear p2
          try clear c4
          try clear c4b0
          try clear c4b1
          try clear c5
          try clear c5b0
          try clear c5b1
          try clear c6
          try clear c6b0
          try clear c6b1
          try clear c12
          try clear c12b0
          try clear c14
          try clear c14b0
          try clear c15
          try clear c15b0
          try clear p16
          try clear q16
          try clear hx16
          try clear hf16
          try clear hx16_0
          try clear p16
          try clear p2
          try clear q16
          obtain ⟨x6_2, x48_2, rfl, HA, HK2, HO_4, HO_5, HO_6, HO_7, HO_9, HO_46, HB⟩ := hrel
          have hl5_2 := (Kd.R_reads' HO_5.out).1
          rw [hl5_2] at HO_5
          (try simp only [hl5_2])
          (try simp only [hl5_2] at HO_4)
          (try simp only [hl5_2] at HO_6)
          (try simp only [hl5_2] at HO_7)
          (try simp only [hl5_2] at HO_9)
          (try simp only [hl5_2] at HO_46)
          cases gk with
          | zero => exact absurd HA.out (by simp [comp_ids.l1])
          | succ k2 =>
           have H := HA.out
           clear HA
           simp only [comp_ids.l1] at H
           by_cases c22 : x48_2 < (t110.length : Int)
           ·rw [if_pos c22] at H
            have c22b0 : decide (x48_2 < (t110.length : Int)) = true := decide_eq_true c22
            clear c22
            by_cases c23 : 0 ≤ x48_2
            ·rw [if_pos c23] at H
             have c23b0 : decide (0 ≤ x48_2) = true := decide_eq_true c23
             clear c23
             by_cases c24 : x48_2 < (t110.length : Int)
             ·rw [if_pos c24] at H
              have c24b0 : decide (x48_2 < (t110.length : Int)) = true := decide_eq_true c24
              clear c24
              by_cases c25 : 0 ≤ (rd t110 x48_2)
              ·rw [if_pos c25] at H
               have c25b0 : decide (0 ≤ (rd t110 x48_2)) = true := decide_eq_true c25
               clear c25
               by_cases c26 : (rd t110 x48_2) < (x6_2.length : Int)
               ·rw [if_pos c26] at H
                have c26b0 : decide ((rd t110 x48_2) < (x6_2.length : Int)) = true := decide_eq_true c26
                clear c26
                by_cases c27 : (rd_L1 x6_2 (rd t110 x48_2)).length < 17592186044416
                ·rw [if_pos c27] at H
                 have LMc27 := Aside0.mk c27
                 clear c27
                 obtain ⟨y116, hy116⟩ : ∃ y_ : List Int, y_ = ((rd_L1 x6_2 (rd t110 x48_2)) ++ [x33_1]) := ⟨_, rfl⟩
                 replace H : (comp_ids.l1 k2 l0 l1 t101 y113 (x6_2.set ((rd t110 x48_2) : Int).toNat y116) x7_1 x33_1 t110 (l1.length : Int) x33_1 t110 (t110.length : Int) (wrap64 (x48_2 + 1))) = some r := by first | (rw [hy116]; with_reducible exact H) | (have H2_ := (Option.bind_some _ _).symm.trans H; rw [hy116]; with_reducible exact H2_) | (have H2_ := (Option.bind_some _ _).symm.trans H; with_reducible exact H2_) | with_reducible exact H | (rw [hy116]; exact H) | exact H
                 have Ny116 := Aside0.mk hy116
                 clear hy116
                 obtain ⟨y119, hy119⟩ : ∃ y_ : List (List Int), y_ = (x6_2.set ((rd t110 x48_2) : Int).toNat y116) := ⟨_, rfl⟩
                 replace H : (comp_ids.l1 k2 l0 l1 t101 y113 y119 x7_1 x33_1 t110 (l1.length : Int) x33_1 t110 (t110.length : Int) (wrap64 (x48_2 + 1))) = some r := by first | (rw [hy119]; with_reducible exact H) | (have H2_ := (Option.bind_some _ _).symm.trans H; rw [hy119]; with_reducible exact H2_) | (have H2_ := (Option.bind_some _ _).symm.trans H; with_reducible exact H2_) | with_reducible exact H | (rw [hy119]; exact H) | exact H
                 have Ny119 := Aside0.mk hy119
                 clear hy119
                 have H' := Aside0.mk H
                 clear H
                 have p114 : 0 ≤ (x48_2 : Int) := of_decide_eq_true (by first | (with_reducible assumption) | assumption)
                 have q114 : x48_2 < (t110.length : Int) := of_decide_eq_true (by first | (with_reducible assumption) | assumption)
                 obtain ⟨ad114, e114, hx114_0⟩ := Kd.at_int (Kd.R_reads' HO_46.out).2.2 x48_2 p114 q114
                 cases e114
                 replace p114 := eq_true p114
                 replace q114 := eq_true q114
                 obtain ⟨Ao29, co29, eo29⟩ := Kd.S_slice HO_6.out
                 subst eo29
                 have p115 : 0 ≤ ((rd t110 x48_2) : Int) := of_decide_eq_true (by first | (with_reducible assumption) | assumption)
                 have q115 : (rd t110 x48_2) < (x6_2.length : Int) := of_decide_eq_true (by first | (with_reducible assumption) | assumption)
                 obtain ⟨ad115, A115_0, c115_0, e115, hx115_0, hl115_0, hi115_0⟩ := at_L1 (Kd.S_reads' HO_6.out).2.2 (rd t110 x48_2) p115 q115
                 cases e115
                 obtain ⟨ce115, hce115, hMe115, hcc115⟩ := Kd.S_get HO_6.out [] (rd t110 x48_2) p115 (by first | exact q115 | exact of_decide_eq_true (by first | (with_reducible assumption) | assumption) | (have e_ := (Kd.S_reads' HO_6.out).1; omega))
                 obtain ⟨ve115_0, rfl, ge115_0⟩ := hMe115
                 have hv115_0 := hcc115 0 _ rfl
                 rw [Nat.add_zero, show ((Kd.slice 3 (Kd.int .i64))).sz = 1 from rfl, Nat.mul_one] at hv115_0
                 replace hv115_0 := Option.some.inj (hv115_0.symm.trans hx115_0)
                 rw [hv115_0] at ge115_0
                 have HL115_0 := Aside0.mk (show Kd.R (Kd.int .i64) 3 _ _ _ _ (rd_L1 x6_2 (rd t110 x48_2)) from ge115_0)
                 clear hv115_0 ge115_0
                 have HX115_0 := Aside0.mk hx115_0
                 clear hcc115 hce115
                 have HR115_0 := Aside0.mk hi115_0
                 have HC115_0 := Aside0.mk hl115_0
                 clear hi115_0 hl115_0
                 replace p115 := eq_true p115
                 replace q115 := eq_true q115
                 obtain ⟨go30, co30, eo30, gb30, gl30, cl30, HG30⟩ := Kd.S_form HO_6.out (by have h_ : ((rd t110 x48_2) : Int) < ((x6_2.length : Int) : Int) := of_decide_eq_true (by first | (with_reducible assumption) | assumption); have h2_ : 0 ≤ ((rd t110 x48_2) : Int) := (of_decide_eq_true (by first | (with_reducible assumption) | assumption)); omega)
                 (first | cases eo30 | (injection eo30 with ea_ en_ ec_; (first | subst ea_ | (injection ea_ with ea_; subst ea_)); subst ec_; clear en_))
                 have GB30 := Aside0.mk gb30
                 have GG30 := Aside0.mk HG30
                 clear gb30 gl30 HG30
                 (first | simp only [add_plain] at hx115_0 | skip)
                 obtain ⟨oki30, ce30, hcl30, hM30, hcc30, _, _, hH30⟩ := Kd.S_elem HO_6.out [] ((rd t110 x48_2) : Int) (of_decide_eq_true (by first | (with_reducible assumption) | assumption)) (by have h_ : ((rd t110 x48_2) : Int) < ((x6_2.length : Int) : Int) := of_decide_eq_true (by first | (with_reducible assumption) | assumption); first | exact h_ | (have e_ := (Kd.S_reads' HO_6.out).1; omega) | simpa using h_)
                 obtain ⟨ve30_0, rfl, ge30_0⟩ := hM30
                 have hv30 := hcc30 0 _ rfl
                 have hX30 := HX115_0.out
                 (try simp only [add_plain] at hX30)
                 (try simp only [Nat.add_zero] at hv30)
                 (try rw [show ((Kd.slice 3 (Kd.int .i64))).sz = 1 from rfl, Nat.mul_one] at hv30)
                 replace hv30 := Option.some.inj (hv30.symm.trans hX30)
                 subst hv30
                 clear hX30 hcc30 hcl30
                 have UU30 := Aside0.mk (show Kd.R (Kd.int .i64) 3 _ w.heap.size oki30 (.slice A115_0 (rd_L1 x6_2 (rd t110 x48_2)).length c115_0) (rd_L1 x6_2 (rd t110 x48_2)) from ge30_0)
                 have HH30 := Aside0.mk hH30
                 have HN30 := Aside0.mk (Kd.S_reads' HO_6.out).1
                 clear hH30 ge30_0
                 go_wp2_with (first | ((with_reducible refine gate_builtin (b := .append) (xs := #[.tmp 57, .tmp 59]) rfl ?_); at_builtin; refine Kd.R_append (Kd.int .i64) (w0 := w) w.heap.size rfl (.tmp 57) (.tmp 59) 53 3 (.int .i64 0) 8 rfl Try.underlying53 info3 rfl (by decide) (by omega) (.slice A115_0 (rd_L1 x6_2 (rd t110 x48_2)).length c115_0) (rd_L1 x6_2 (rd t110 x48_2)) x33_1 [.int .i64 x33_1] (fun k_ => oki30 k_ ∨ ((fun k_ => some k_ ≠ (.slice Ao17 t101.length co17 : Value).ownBlock ∧ some k_ ≠ (.slice (some ⟨go16, 0, none⟩) y113.length co16 : Value).ownBlock ∧ some k_ ≠ (u7 : Value).ownBlock ∧ some k_ ≠ (.slice (some ad114) t110.length co19 : Value).ownBlock ∧ some k_ ≠ (.slice (some ad114) t110.length co19 : Value).ownBlock)) k_ ∧ wr.heap.size ≤ k_) (fun _ => False) rfl rfl ?aP (fun _ hk => hk.elim) ?aF ?aO ?aB ?aS ?aL ?_; (case aP => exact rfl); (case aB => exact (by repeat (first | (with_reducible first | exact HB.out | apply below_alloc | apply pw_below_drewN | apply below_drew1) | exact HB.out))); (case aF => exact (fun k_ hk => .inr ⟨⟨Kd.fresh' (Kd.R_lt (by (with_reducible repeat (first | apply Kd.R_alloc | apply Kd.R_drewN | apply Kd.R_drew)); exact HO_4.out)) k_ hk, Kd.fresh' (Kd.R_lt (by (with_reducible repeat (first | apply Kd.R_alloc | apply Kd.R_drewN | apply Kd.R_drew)); exact HO_5.out)) k_ hk, Kd.fresh' (Kd.R_lt (by (with_reducible repeat (first | apply Kd.R_alloc | apply Kd.R_drewN | apply Kd.R_drew)); exact HO_7.out)) k_ hk, Kd.fresh' (Kd.R_lt (by (with_reducible repeat (first | apply Kd.R_alloc | apply Kd.R_drewN | apply Kd.R_drew)); exact HO_9.out)) k_ hk, Kd.fresh' (Kd.R_lt (by (with_reducible repeat (first | apply Kd.R_alloc | apply Kd.R_drewN | apply Kd.R_drew)); exact HO_46.out)) k_ hk⟩, hk⟩)); (case aO => exact (by (with_reducible repeat (first | apply Kd.R_alloc | apply Kd.R_drewN | apply Kd.R_drew)); exact Kd.R_mono UU30.out (fun _ hk => .inl hk))); (case aS => exact (below_size (by repeat (first | (with_reducible first | exact HB.out | apply below_alloc | apply pw_below_drewN | apply below_drew1) | exact HB.out)))); (case aL => have := LMc27.out; omega); intro v117 w31 ho hb hg hat; rw [← Ny116.out] at ho; have n0_ := Aside0.mk (Kd.R_grown2 (by (with_reducible repeat (first | apply Kd.R_alloc | apply Kd.R_drewN | apply Kd.R_drew)); exact HO_4.out) rfl hg (fun k_ e_ => (HL115_0.out.1 k_ e_).1.1)); have n1_ := Aside0.mk (Kd.R_grown2 (by (with_reducible repeat (first | apply Kd.R_alloc | apply Kd.R_drewN | apply Kd.R_drew)); exact HO_5.out) rfl hg (fun k_ e_ => (HL115_0.out.1 k_ e_).1.2.1)); have n2_ := Aside0.mk (Kd.R_grown2 (by (with_reducible repeat (first | apply Kd.R_alloc | apply Kd.R_drewN | apply Kd.R_drew)); exact HO_7.out) rfl hg (fun k_ e_ => (HL115_0.out.1 k_ e_).1.2.2.1)); have n3_ := Aside0.mk (Kd.R_grown2 (by (with_reducible repeat (first | apply Kd.R_alloc | apply Kd.R_drewN | apply Kd.R_drew)); exact HO_9.out) rfl hg (fun k_ e_ => (HL115_0.out.1 k_ e_).1.2.2.2.1)); have n4_ := Aside0.mk (Kd.R_grown2 (by (with_reducible repeat (first | apply Kd.R_alloc | apply Kd.R_drewN | apply Kd.R_drew)); exact HO_46.out) rfl hg (fun k_ e_ => (HL115_0.out.1 k_ e_).1.2.2.2.2)); have n5_ := Aside0.mk (hb); have n6_ := Aside0.mk (Kd.H_grown (Kd.H_widen (by repeat (first | exact HH30.out | refine Kd.H_alloc ?_ _ | refine Kd.H_drewN ?_ _ | refine Kd.H_drew ?_))) hg (fun k_ e_ => .inl (UU30.out.1 k_ e_))); have n7_ := Aside0.mk (ho); clear HO_4; clear HO_5; clear HO_7; clear HO_9; clear HO_46; clear HB; clear HH30; clear HO_6; clear UU30; clear HL115_0; have HO_4 := n0_; have HO_5 := n1_; have HO_7 := n2_; have HO_9 := n3_; have HO_46 := n4_; have HB := n5_; have HH30 := n6_; have HO118 := n7_; clear n0_ n1_ n2_ n3_ n4_ n5_ n6_ n7_; clear ho hb hg hat; have p28 : 0 ≤ ((rd t110 x48_2) : Int) := of_decide_eq_true (by first | (with_reducible assumption) | assumption); have q28 : ((rd t110 x48_2) : Int) < ((x6_2.length : Int) : Int) := of_decide_eq_true (by first | (with_reducible assumption) | assumption); replace p28 := eq_true p28; replace q28 := eq_true q28; obtain ⟨Ao34, co34, eo34⟩ := Kd.R_slice HO118.out; subst eo34; obtain ⟨_, _, hraw32, _, _, hcc32, _⟩ := Kd.H_raw HH30.out (of_decide_eq_true (by first | (with_reducible assumption) | assumption)) (by have h_ : ((rd t110 x48_2) : Int) < ((x6_2.length : Int) : Int) := of_decide_eq_true (by first | (with_reducible assumption) | assumption); first | exact h_ | (have e_ := (HN30.out); omega) | simpa using h_); obtain ⟨_, hfr32⟩ := Kd.H_at HH30.out (of_decide_eq_true (by first | (with_reducible assumption) | assumption)) (by have h_ : ((rd t110 x48_2) : Int) < ((x6_2.length : Int) : Int) := of_decide_eq_true (by first | (with_reducible assumption) | assumption); first | exact h_ | (have e_ := (HN30.out); omega) | simpa using h_); have hx32_0 := hcc32 0 _ rfl; have hf32_0 := hfr32 0; (try simp only [Nat.add_zero] at hx32_0 hf32_0); (try rw [show ((Kd.slice 3 (Kd.int .i64))).sz = 1 from rfl, Nat.mul_one] at hx32_0); (try rw [show ((Kd.slice 3 (Kd.int .i64))).sz = 1 from rfl, Nat.mul_one] at hf32_0); have HP32 := Kd.S_seg0 HH30.out (of_decide_eq_true (by first | (with_reducible assumption) | assumption)) (by have h_ : ((rd t110 x48_2) : Int) < ((x6_2.length : Int) : Int) := of_decide_eq_true (by first | (with_reducible assumption) | assumption); first | exact h_ | (have e_ := (HN30.out); omega) | simpa using h_) (seg := [.slice Ao34 y116.length co34]) (j := 0) (show 1 ≤ 1 from by decide) (x' := y116) (Kd.M_row HO118.out) (fun _ hk => hk); (try simp only [show ((Kd.slice 3 (Kd.int .i64))).sz = 1 from rfl, Nat.mul_one, Nat.add_zero] at HP32); clear hcc32 hfr32) | ((with_reducible refine gate_store (t := 53) (p := 61) rfl ?_); (try (rw [drewN_self w31]; generalize hq_ : World.drewN w31 _ = w31; have n0_ := Aside0.mk (Kd.R_at hq_ HO_4.out); have n1_ := Aside0.mk (Kd.R_at hq_ HO_5.out); have n2_ := Aside0.mk (Kd.R_at hq_ HO_7.out); have n3_ := Aside0.mk (Kd.R_at hq_ HO_9.out); have n4_ := Aside0.mk (Kd.R_at hq_ HO_46.out); have n5_ := Aside0.mk (Kd.S_at hq_ HO_6.out); have n6_ := Aside0.mk (below_at hq_ HB.out); clear hq_ HO_4 HO_5 HO_7 HO_9 HO_46 HO_6 HB; have HO_4 := n0_; have HO_5 := n1_; have HO_7 := n2_; have HO_9 := n3_; have HO_46 := n4_; have HO_6 := n5_; have HB := n6_; clear n0_ n1_ n2_ n3_ n4_ n5_ n6_; (try (obtain ⟨Ao34, co34, eo34⟩ := Kd.R_slice HO118.out)); (try (subst eo34)); (try (obtain ⟨_, _, hraw32, _, _, hcc32, _⟩ := Kd.H_raw HH30.out (of_decide_eq_true (by first | (with_reducible assumption) | assumption)) (by have h_ : ((rd t110 x48_2) : Int) < ((x6_2.length : Int) : Int) := of_decide_eq_true (by first | (with_reducible assumption) | assumption); first | exact h_ | (have e_ := (HN30.out); omega) | simpa using h_))); (try (obtain ⟨_, hfr32⟩ := Kd.H_at HH30.out (of_decide_eq_true (by first | (with_reducible assumption) | assumption)) (by have h_ : ((rd t110 x48_2) : Int) < ((x6_2.length : Int) : Int) := of_decide_eq_true (by first | (with_reducible assumption) | assumption); first | exact h_ | (have e_ := (HN30.out); omega) | simpa using h_))); (try (have hx32_0 := hcc32 0 _ rfl)); (try (have hf32_0 := hfr32 0)); (try (try simp only [Nat.add_zero] at hx32_0 hf32_0)); (try (try rw [show ((Kd.slice 3 (Kd.int .i64))).sz = 1 from rfl, Nat.mul_one] at hx32_0)); (try (try rw [show ((Kd.slice 3 (Kd.int .i64))).sz = 1 from rfl, Nat.mul_one] at hf32_0)); (try (have HP32 := Kd.S_seg0 HH30.out (of_decide_eq_true (by first | (with_reducible assumption) | assumption)) (by have h_ : ((rd t110 x48_2) : Int) < ((x6_2.length : Int) : Int) := of_decide_eq_true (by first | (with_reducible assumption) | assumption); first | exact h_ | (have e_ := (HN30.out); omega) | simpa using h_) (seg := [.slice Ao34 y116.length co34]) (j := 0) (show 1 ≤ 1 from by decide) (x' := y116) (Kd.M_row HO118.out) (fun _ hk => hk))); (try (try simp only [show ((Kd.slice 3 (Kd.int .i64))).sz = 1 from rfl, Nat.mul_one, Nat.add_zero] at HP32)); (try (clear hcc32 hfr32)))); refine store_event (t := 53) (p := 61) (v := ?vo_w33) (w1 := (w31.setCell ⟨go30, ((rd t110 x48_2) : Int).toNat, none⟩ (.slice Ao34 y116.length co34))) ?hg ?ho ?hn ?hr ?_; (case ho => rfl); (case hg => rfl); (case hn => rfl); (case hr => first | (go_simp; done) | (go_simp; rfl)); intro w33 hw; have hg : w31.grownBy w33 (some go30) := (by rw [hw]; exact HP32.2); have hp_ : Kd.S (Kd.slice 3 (Kd.int .i64)) 53 w33 w.heap.size (fun k_ => some k_ ≠ (.slice Ao17 t101.length co17 : Value).ownBlock ∧ some k_ ≠ (.slice (some ⟨go16, 0, none⟩) y113.length co16 : Value).ownBlock ∧ some k_ ≠ (u7 : Value).ownBlock ∧ some k_ ≠ (.slice (some ad114) t110.length co19 : Value).ownBlock ∧ some k_ ≠ (.slice (some ad114) t110.length co19 : Value).ownBlock) (.slice (some ⟨go30, 0, none⟩) x6_2.length co29) y119 := (by rw [hw, Ny119.out]; exact HP32.1); clear HP32; have n0_ := Aside0.mk (Kd.R_over' (v := (.slice (some ⟨go30, 0, none⟩) x6_2.length co29)) (by (with_reducible repeat (first | apply Kd.R_alloc | apply Kd.R_drewN | apply Kd.R_drew)); exact HO_4.out) (Kd.R_typed hraw32) (by decide) hg); have n1_ := Aside0.mk (Kd.R_over' (v := (.slice (some ⟨go30, 0, none⟩) x6_2.length co29)) (by (with_reducible repeat (first | apply Kd.R_alloc | apply Kd.R_drewN | apply Kd.R_drew)); exact HO_5.out) (Kd.R_typed hraw32) (by decide) hg); have n2_ := Aside0.mk (Kd.R_over' (v := (.slice (some ⟨go30, 0, none⟩) x6_2.length co29)) (by (with_reducible repeat (first | apply Kd.R_alloc | apply Kd.R_drewN | apply Kd.R_drew)); exact HO_7.out) (Kd.R_typed hraw32) (by decide) hg); have n3_ := Aside0.mk (Kd.R_over' (v := (.slice (some ⟨go30, 0, none⟩) x6_2.length co29)) (by (with_reducible repeat (first | apply Kd.R_alloc | apply Kd.R_drewN | apply Kd.R_drew)); exact HO_9.out) (Kd.R_typed hraw32) (by decide) hg); have n4_ := Aside0.mk (Kd.R_over' (v := (.slice (some ⟨go30, 0, none⟩) x6_2.length co29)) (by (with_reducible repeat (first | apply Kd.R_alloc | apply Kd.R_drewN | apply Kd.R_drew)); exact HO_46.out) (Kd.R_typed hraw32) (by decide) hg); have n5_ := Aside0.mk ((by rw [hw]; exact below_set HB.out GB30.out : Below w.heap.size w w33)); have n6_ := Aside0.mk (hp_); clear HO_4; clear HO_5; clear HO_7; clear HO_9; clear HO_46; clear HB; clear HO118; clear HH30; have HO_4 := n0_; have HO_5 := n1_; have HO_7 := n2_; have HO_9 := n3_; have HO_46 := n4_; have HB := n5_; have HO_6 := n6_; clear n0_ n1_ n2_ n3_ n4_ n5_ n6_; clear hg hw hp_ hraw32))
                 (try simp only [← hl5_2])
                 go_roundg k2
                 case measure => have := HK1.out; have := HK2.out; omega
                 case rel => exact ⟨(y119), (wrap64 (x48_2 + 1)), (by first | rfl | (simp; done) | (simp [*]; done)), H', ⟨by have := HK1.out; have := HK2.out; omega⟩, ⟨by (try simp only [hl5_2]); (with_reducible repeat (first | apply Kd.R_alloc | apply Kd.R_drewN | apply Kd.R_drew)); exact HO_4.out⟩, ⟨by (try simp only [hl5_2]); (with_reducible repeat (first | apply Kd.R_alloc | apply Kd.R_drewN | apply Kd.R_drew)); exact HO_5.out⟩, ⟨by (try simp only [hl5_2]); (with_reducible repeat (first | apply Kd.S_alloc | apply Kd.S_drewN | apply Kd.S_drew)); exact HO_6.out⟩, ⟨by (try simp only [hl5_2]); (with_reducible repeat (first | apply Kd.R_alloc | apply Kd.R_drewN | apply Kd.R_drew)); exact HO_7.out⟩, ⟨by (try simp only [hl5_2]); (with_reducible repeat (first | apply Kd.R_alloc | apply Kd.R_drewN | apply Kd.R_drew)); exact HO_9.out⟩, ⟨by (try simp only [hl5_2]); (with_reducible repeat (first | apply Kd.R_alloc | apply Kd.R_drewN | apply Kd.R_drew)); exact HO_46.out⟩, ⟨by repeat (first | (with_reducible first | exact HB.out | apply below_alloc | apply pw_below_drewN | apply below_drew1) | exact HB.out)⟩⟩
                ·rw [if_neg c27] at H
                 exact absurd H (by simp)
               ·rw [if_neg c26] at H
                exact absurd H (by simp)
              ·rw [if_neg c25] at H
               exact absurd H (by simp)
             ·rw [if_neg c24] at H
              exact absurd H (by simp)
            ·rw [if_neg c23] at H
             exact absurd H (by simp)
           ·rw [if_neg c22] at H
            have c22b0 : decide (x48_2 < (t110.length : Int)) = false := decide_eq_false c22
            clear c22
            by_cases c35 : (t110.length : Int) = 0
            ·rw [if_pos c35] at H
             have c35b0 : ((t110.length : Int) == 0) = true := beq_iff_eq.mpr c35
             have c35b1 : ((t110.length : Int) != 0) = false := bne_eq_false_iff_eq.mpr c35
             clear c35
             by_cases c36 : x7_1.length < 17592186044416
             ·rw [if_pos c36] at H
              have LMc36 := Aside0.mk c36
              clear c36
              obtain ⟨y120, hy120⟩ : ∃ y_ : List Int, y_ = (x7_1 ++ [x33_1]) := ⟨_, rfl⟩
              replace H : (comp_ids.l0 k2 l0 l1 t101 y113 x6_2 y120 (l1.length : Int) (wrap64 (x33_1 + 1))) = some r := by first | (rw [hy120]; with_reducible exact H) | (have H2_ := (Option.bind_some _ _).symm.trans H; rw [hy120]; with_reducible exact H2_) | (have H2_ := (Option.bind_some _ _).symm.trans H; with_reducible exact H2_) | with_reducible exact H | (rw [hy120]; exact H) | exact H
              have Ny120 := Aside0.mk hy120
              clear hy120
              have H' := Aside0.mk H
              clear H
              go_wp2_with (first | ((with_reducible refine gate_builtin (b := .append) (xs := #[.tmp 66, .tmp 68]) rfl ?_); at_builtin; refine Kd.R_append (Kd.int .i64) (w0 := w) w.heap.size rfl (.tmp 66) (.tmp 68) 53 3 (.int .i64 0) 8 rfl Try.underlying53 info3 rfl (by decide) (by omega) u7 x7_1 x33_1 [.int .i64 x33_1] (fun k_ => some k_ ≠ (.slice Ao17 t101.length co17 : Value).ownBlock ∧ some k_ ≠ (.slice (some ⟨go16, 0, none⟩) y113.length co16 : Value).ownBlock ∧ some k_ ≠ (.slice Ao19 t110.length co19 : Value).ownBlock ∧ some k_ ≠ (.slice Ao19 t110.length co19 : Value).ownBlock) (fun _ => False) rfl rfl ?aP (fun _ hk => hk.elim) ?aF ?aO ?aB ?aS ?aL ?_; (case aP => exact rfl); (case aB => exact (by repeat (first | (with_reducible first | exact HB.out | apply below_alloc | apply pw_below_drewN | apply below_drew1) | exact HB.out))); (case aF => exact (fun k_ hk => ⟨Kd.fresh' (Kd.R_lt (by (with_reducible repeat (first | apply Kd.R_alloc | apply Kd.R_drewN | apply Kd.R_drew)); exact HO_4.out)) k_ hk, Kd.fresh' (Kd.R_lt (by (with_reducible repeat (first | apply Kd.R_alloc | apply Kd.R_drewN | apply Kd.R_drew)); exact HO_5.out)) k_ hk, Kd.fresh' (Kd.R_lt (by (with_reducible repeat (first | apply Kd.R_alloc | apply Kd.R_drewN | apply Kd.R_drew)); exact HO_9.out)) k_ hk, Kd.fresh' (Kd.R_lt (by (with_reducible repeat (first | apply Kd.R_alloc | apply Kd.R_drewN | apply Kd.R_drew)); exact HO_46.out)) k_ hk⟩)); (case aO => exact (by (with_reducible repeat (first | apply Kd.R_alloc | apply Kd.R_drewN | apply Kd.R_drew)); exact HO_7.out)); (case aS => exact (below_size (by repeat (first | (with_reducible first | exact HB.out | apply below_alloc | apply pw_below_drewN | apply below_drew1) | exact HB.out)))); (case aL => have := LMc36.out; omega); intro v121 w37 ho hb hg hat; rw [← Ny120.out] at ho; have n0_ := Aside0.mk (Kd.R_after (ok := (fun k_ => some k_ ≠ (.slice (some ⟨go16, 0, none⟩) y113.length co16 : Value).ownBlock ∧ some k_ ≠ (.slice Ao19 t110.length co19 : Value).ownBlock ∧ some k_ ≠ (.slice Ao19 t110.length co19 : Value).ownBlock)) (by (with_reducible repeat (first | apply Kd.R_alloc | apply Kd.R_drewN | apply Kd.R_drew)); exact Kd.R_mono HO_4.out (fun _ hk => ⟨⟨hk.1, ⟨hk.2.2.1, hk.2.2.2⟩⟩, hk.2.1⟩)) hg hat); have n1_ := Aside0.mk (Kd.R_after (ok := (fun k_ => some k_ ≠ (.slice Ao17 t101.length co17 : Value).ownBlock ∧ some k_ ≠ (.slice Ao19 t110.length co19 : Value).ownBlock ∧ some k_ ≠ (.slice Ao19 t110.length co19 : Value).ownBlock)) (by (with_reducible repeat (first | apply Kd.R_alloc | apply Kd.R_drewN | apply Kd.R_drew)); exact Kd.R_mono HO_5.out (fun _ hk => ⟨⟨hk.1, ⟨hk.2.2.1, hk.2.2.2⟩⟩, hk.2.1⟩)) hg hat); have n2_ := Aside0.mk (Kd.S_after (ok := (fun k_ => some k_ ≠ (.slice Ao17 t101.length co17 : Value).ownBlock ∧ some k_ ≠ (.slice (some ⟨go16, 0, none⟩) y113.length co16 : Value).ownBlock ∧ some k_ ≠ (.slice Ao19 t110.length co19 : Value).ownBlock ∧ some k_ ≠ (.slice Ao19 t110.length co19 : Value).ownBlock)) (by (with_reducible repeat (first | apply Kd.S_alloc | apply Kd.S_drewN | apply Kd.S_drew)); exact Kd.S_mono HO_6.out (fun _ hk => ⟨⟨hk.1, ⟨hk.2.1, ⟨hk.2.2.2.1, hk.2.2.2.2⟩⟩⟩, hk.2.2.1⟩)) hg hat); have n3_ := Aside0.mk (Kd.R_after (ok := (fun k_ => some k_ ≠ (.slice Ao17 t101.length co17 : Value).ownBlock ∧ some k_ ≠ (.slice (some ⟨go16, 0, none⟩) y113.length co16 : Value).ownBlock)) (by (with_reducible repeat (first | apply Kd.R_alloc | apply Kd.R_drewN | apply Kd.R_drew)); exact Kd.R_mono HO_9.out (fun _ hk => ⟨⟨hk.1, hk.2.1⟩, hk.2.2⟩)) hg hat); have n4_ := Aside0.mk (Kd.R_after (ok := (fun k_ => some k_ ≠ (.slice Ao17 t101.length co17 : Value).ownBlock ∧ some k_ ≠ (.slice (some ⟨go16, 0, none⟩) y113.length co16 : Value).ownBlock)) (by (with_reducible repeat (first | apply Kd.R_alloc | apply Kd.R_drewN | apply Kd.R_drew)); exact Kd.R_mono HO_46.out (fun _ hk => ⟨⟨hk.1, hk.2.1⟩, hk.2.2⟩)) hg hat); have n5_ := Aside0.mk (hb); have n6_ := Aside0.mk (ho); clear HO_4; clear HO_5; clear HO_6; clear HO_9; clear HO_46; clear HB; clear HO_7; have HO_4 := n0_; have HO_5 := n1_; have HO_6 := n2_; have HO_9 := n3_; have HO_46 := n4_; have HB := n5_; have HO122 := n6_; clear n0_ n1_ n2_ n3_ n4_ n5_ n6_; clear ho hb hg hat))
              (try simp only [← hl5_2])
              go_roundg k2
              case measure => have := HK1.out; have := HK2.out; omega
              case rel => exact ⟨(y113), (x6_2), (y120), (wrap64 (x33_1 + 1)), (by first | rfl | (simp; done) | (simp [*]; done)), H', ⟨by have := HK1.out; have := HK2.out; omega⟩, ⟨by (try simp only [hl5_2]); (with_reducible repeat (first | apply Kd.R_alloc | apply Kd.R_drewN | apply Kd.R_drew)); exact Kd.R_mono HO_4.out (fun _ hk => ⟨hk.1.1, hk.2⟩)⟩, ⟨by (try simp only [hl5_2]); (with_reducible repeat (first | apply Kd.R_alloc | apply Kd.R_drewN | apply Kd.R_drew)); exact Kd.R_mono HO_5.out (fun _ hk => ⟨hk.1.1, hk.2⟩)⟩, ⟨by (try simp only [hl5_2]); (with_reducible repeat (first | apply Kd.S_alloc | apply Kd.S_drewN | apply Kd.S_drew)); exact Kd.S_mono HO_6.out (fun _ hk => ⟨hk.1.1, ⟨hk.1.2.1, hk.2⟩⟩)⟩, ⟨by (try simp only [hl5_2]); (with_reducible repeat (first | apply Kd.R_alloc | apply Kd.R_drewN | apply Kd.R_drew)); exact Kd.R_mono HO122.out (fun _ hk => ⟨hk.1, hk.2.1⟩)⟩, ⟨by repeat (first | (with_reducible first | exact HB.out | apply below_alloc | apply pw_below_drewN | apply below_drew1) | exact HB.out)⟩⟩
             ·rw [if_neg c36] at H
              exact absurd H (by simp)
            ·rw [if_neg c35] at H
             have c35b0 : ((t110.length : Int) == 0) = false := beq_eq_false_iff_ne.mpr c35
             have c35b1 : ((t110.length : Int) != 0) = true := bne_iff_ne.mpr c35
             have c35b2 : ¬ (t110 = []) := fun h_ => c35 (by rw [h_]; rfl)
             have H' := Aside0.mk H
             clear H
             go_wp2
             repeat (go_quiet (fail); try go_wp2)
             (try simp only [← hl5_2])
             go_roundg k2
             case measure => have := HK1.out; have := HK2.out; omega
             case rel => exact ⟨(y113), (x6_2), (x7_1), (wrap64 (x33_1 + 1)), (by first | rfl | (simp; done) | (simp [*]; done)), H', ⟨by have := HK1.out; have := HK2.out; omega⟩, ⟨by (try simp only [hl5_2]); (with_reducible repeat (first | apply Kd.R_alloc | apply Kd.R_drewN | apply Kd.R_drew)); exact Kd.R_mono HO_4.out (fun _ hk => ⟨hk.1, hk.2.1⟩)⟩, ⟨by (try simp only [hl5_2]); (with_reducible repeat (first | apply Kd.R_alloc | apply Kd.R_drewN | apply Kd.R_drew)); exact Kd.R_mono HO_5.out (fun _ hk => ⟨hk.1, hk.2.1⟩)⟩, ⟨by (try simp only [hl5_2]); (with_reducible repeat (first | apply Kd.S_alloc | apply Kd.S_drewN | apply Kd.S_drew)); exact Kd.S_mono HO_6.out (fun _ hk => ⟨hk.1, ⟨hk.2.1, hk.2.2.1⟩⟩)⟩, ⟨by (try simp only [hl5_2]); (with_reducible repeat (first | apply Kd.R_alloc | apply Kd.R_drewN | apply Kd.R_drew)); exact Kd.R_mono HO_7.out (fun _ hk => ⟨hk.1, hk.2.1⟩)⟩, ⟨by repeat (first | (with_reducible first | exact HB.out | apply below_alloc | apply pw_below_drewN | apply below_drew1) | exact HB.out)⟩⟩
        ·rw [if_neg c15] at H
         exact absurd H (by simp)
       ·rw [if_neg c14] at H
        exact absurd H (by simp)
      ·rw [if_neg c12] at H
       have c12b0 : decide (x33_1 < (l1.length : Int)) = false := decide_eq_false c12
       clear c12
       have H' := Aside0.mk H
       clear H
       go_wp2
       repeat (go_quiet (fail); try go_wp2)
       go_loopg [7, 12] k1 (fun kq v7 v12 w' => ∃ (x5_2 : List Int) (x7_2 : List Int) (x12_2 : List Int), Aside0 (comp_ids.l2 kq l1 x5_2 x6_1 x7_2 x12_2 = some r) ∧ Aside0 (kq ≤ k1) ∧ Aside0 (Kd.R (Kd.int .i64) 3 w' w.heap.size (fun k_ => some k_ ≠ (v7 : Value).ownBlock ∧ some k_ ≠ (v12 : Value).ownBlock) v105 x5_2) ∧ Aside0 (Kd.S (Kd.slice 3 (Kd.int .i64)) 53 w' w.heap.size (fun k_ => some k_ ≠ (v105 : Value).ownBlock ∧ some k_ ≠ (v7 : Value).ownBlock ∧ some k_ ≠ (v12 : Value).ownBlock) v108 x6_1) ∧ Aside0 (Kd.R (Kd.int .i64) 3 w' w.heap.size (fun k_ => some k_ ≠ (v105 : Value).ownBlock ∧ some k_ ≠ (v12 : Value).ownBlock) v7 x7_2) ∧ Aside0 (Kd.R (kO w A1) 53 w' w.heap.size (fun k_ => some k_ ≠ (v105 : Value).ownBlock ∧ some k_ ≠ (v7 : Value).ownBlock) v12 x12_2) ∧ Aside0 (Below w.heap.size w w'))
       case atStart => exact ⟨(x5_1), (x7_1), (([] : List Int)), H', ⟨Nat.le_refl _⟩, ⟨by (with_reducible repeat (first | apply Kd.R_alloc | apply Kd.R_drewN | apply Kd.R_drew)); exact Kd.R_mono HO_5.out (fun _ hk => ⟨hk.2, (by simp [Value.ownBlock])⟩)⟩, ⟨by (with_reducible repeat (first | apply Kd.S_alloc | apply Kd.S_drewN | apply Kd.S_drew)); exact Kd.S_mono HO_6.out (fun _ hk => ⟨hk.2.1, ⟨hk.2.2, (by simp [Value.ownBlock])⟩⟩)⟩, ⟨by (with_reducible repeat (first | apply Kd.R_alloc | apply Kd.R_drewN | apply Kd.R_drew)); exact Kd.R_mono HO_7.out (fun _ hk => ⟨hk.2, (by simp [Value.ownBlock])⟩)⟩, ⟨by first | exact Kd.R_nil _ _ _ _ _ | exact Kd.N_nil _ _ _ _ _ | exact Kd.V_nil _ _ _ _ _ | exact Kd.Q_nil _ _ _ _ _ | exact Kd.S_nil _ _ _ _ _⟩, ⟨by repeat (first | (with_reducible first | exact HB.out | apply below_alloc | apply pw_below_drewN | apply below_drew1) | exact HB.out)⟩⟩
       case round =>
        clear H'
        try clear c1
        try clear p1
        try clear q1
        try clear hx1
        try clear c2
        try clear p2
        try clear q2
        try clear c3
        try clear hx3
        try clear hf3
        try clear c4
        try clear c4b0
        try clear c4b1
        try clear c5
        try clear c5b0
        try clear c5b1
        try clear c6
        try clear c6b0
        try clear c6b1
        try clear p6
        try clear c11
        try clear p11
        try clear q11
        try clear hx11
        try clear c12
        try clear c12b0
        try clear c14
        try clear c14b0
        try clear c15
        try clear c15b0
        try clear p16
        try clear q16
        try clear hx16
        try clear hf16
        try clear c22
        try clear c22b0
        try clear c23
        try clear c23b0
        try clear c24
        try clear c24b0
        try clear c25
        try clear c25b0
        try clear c26
        try clear c26b0
        try clear c27
        try clear p28
        try clear q28
        try clear c30
        try clear c32
        try clear hx32
        try clear hf32
        try clear c35
        try clear c35b0
        try clear c35b1
        try clear c35b2
        try clear c36
        try clear hx114_0
        try clear hx115_0
        try clear hx16_0
        try clear hx32_0
        try clear p1
        try clear p114
        try clear p115
        try clear p16
        try clear p2
        try clear p28
        try clear q1
        try clear q114
        try clear q115
        try clear q16
        try clear q28
        obtain ⟨x5_2, x7_2, x12_2, HA, HK2, HO_5, HO_6, HO_7, HO_12, HB⟩ := hrel
        cases gk with
        | zero => exact absurd HA.out (by simp [comp_ids.l2])
        | succ k2 =>
         have H := HA.out
         clear HA
         simp only [comp_ids.l2] at H
         by_cases c38 : (x7_2.length : Int) > 0
         ·rw [if_pos c38] at H
          have c38b0 : decide (0 < (x7_2.length : Int)) = true := decide_eq_true c38
          have c38b1 : decide (0 < x7_2.length) = true := decide_eq_true (by omega)
          clear c38
          have H' := Aside0.mk H
          clear H
          obtain ⟨Ao39, co39, eo39⟩ := Kd.R_slice HO_7.out
          subst eo39
          go_wp2
          repeat (go_quiet (fail); try go_wp2)
          go_loopg [13, 76] k2 (fun kq v13 v76 w' => ∃ (x13_3 : Int) (x76_3 : Int), v13 = .int .i64 x13_3 ∧ v76 = .int .i64 x76_3 ∧ Aside0 (comp_ids.l3 kq l1 x5_2 x6_1 x7_2 x12_2 x13_3 x7_2 (x7_2.length : Int) x76_3 = some r) ∧ Aside0 (kq ≤ k2) ∧ Aside0 (Kd.R (Kd.int .i64) 3 w' w.heap.size (fun k_ => some k_ ≠ ((.slice Ao39 x7_2.length co39) : Value).ownBlock ∧ some k_ ≠ (u12 : Value).ownBlock ∧ some k_ ≠ ((.slice Ao39 x7_2.length co39) : Value).ownBlock) v105 x5_2) ∧ Aside0 (Kd.S (Kd.slice 3 (Kd.int .i64)) 53 w' w.heap.size (fun k_ => some k_ ≠ (v105 : Value).ownBlock ∧ some k_ ≠ ((.slice Ao39 x7_2.length co39) : Value).ownBlock ∧ some k_ ≠ (u12 : Value).ownBlock ∧ some k_ ≠ ((.slice Ao39 x7_2.length co39) : Value).ownBlock) v108 x6_1) ∧ Aside0 (Kd.R (Kd.int .i64) 3 w' w.heap.size (fun k_ => some k_ ≠ (v105 : Value).ownBlock ∧ some k_ ≠ (u12 : Value).ownBlock) (.slice Ao39 x7_2.length co39) x7_2) ∧ Aside0 (Kd.R (kO w A1) 53 w' w.heap.size (fun k_ => some k_ ≠ (v105 : Value).ownBlock ∧ some k_ ≠ ((.slice Ao39 x7_2.length co39) : Value).ownBlock ∧ some k_ ≠ ((.slice Ao39 x7_2.length co39) : Value).ownBlock) u12 x12_2) ∧ Aside0 (Kd.R (Kd.int .i64) 3 w' w.heap.size (fun k_ => some k_ ≠ (v105 : Value).ownBlock ∧ some k_ ≠ (u12 : Value).ownBlock) (.slice Ao39 x7_2.length co39) x7_2) ∧ Aside0 (Below w.heap.size w w'))
          case atStart => exact ⟨(0), (0), (by first | rfl | (simp; done) | (simp [*]; done)), (by first | rfl | (simp; done) | (simp [*]; done)), H', ⟨Nat.le_refl _⟩, ⟨by (with_reducible repeat (first | apply Kd.R_alloc | apply Kd.R_drewN | apply Kd.R_drew)); exact Kd.R_mono HO_5.out (fun _ hk => ⟨hk.1, ⟨hk.2, hk.1⟩⟩)⟩, ⟨by (with_reducible repeat (first | apply Kd.S_alloc | apply Kd.S_drewN | apply Kd.S_drew)); exact Kd.S_mono HO_6.out (fun _ hk => ⟨hk.1, ⟨hk.2.1, ⟨hk.2.2, hk.2.1⟩⟩⟩)⟩, ⟨by (with_reducible repeat (first | apply Kd.R_alloc | apply Kd.R_drewN | apply Kd.R_drew)); exact HO_7.out⟩, ⟨by (with_reducible repeat (first | apply Kd.R_alloc | apply Kd.R_drewN | apply Kd.R_drew)); exact Kd.R_mono HO_12.out (fun _ hk => ⟨hk.1, ⟨hk.2, hk.2⟩⟩)⟩, ⟨by (with_reducible repeat (first | apply Kd.R_alloc | apply Kd.R_drewN | apply Kd.R_drew)); exact HO_7.out⟩, ⟨by repeat (first | (with_reducible first | exact HB.out | apply below_alloc | apply pw_below_drewN | apply below_drew1) | exact HB.out)⟩⟩
          case round =>
           clear H'
           try clear c1
           try clear p1
           try clear q1
           try clear hx1
           try clear c2
           try clear p2
           try clear q2
           try clear c3
           try clear hx3
           try clear hf3
           try clear c4
           try clear c4b0
           try clear c4b1
           try clear c5
           try clear c5b0
           try clear c5b1
           try clear c6
           try clear c6b0
           try clear c6b1
           try clear p6
           try clear c11
           try clear p11
           try clear q11
           try clear hx11
           try clear c12
           try clear c12b0
           try clear c14
           try clear c14b0
           try clear c15
           try clear c15b0
           try clear p16
           try clear q16
           try clear hx16
           try clear hf16
           try clear c22
           try clear c22b0
           try clear c23
           try clear c23b0
           try clear c24
           try clear c24b0
           try clear c25
           try clear c25b0
           try clear c26
           try clear c26b0
           try clear c27
           try clear p28
           try clear q28
           try clear c30
           try clear c32
           try clear hx32
           try clear hf32
           try clear c35
           try clear c35b0
           try clear c35b1
           try clear c35b2
           try clear c36
           try clear c38
           try clear c38b0
           try clear c38b1
           try clear hx114_0
           try clear hx115_0
           try clear hx16_0
           try clear hx32_0
           try clear p1
           try clear p11
           try clear p114
           try clear p115
           try clear p16
           try clear p2
           try clear p28
           try clear p6
           try clear q1
           try clear q11
           try clear q114
           try clear q115
           try clear q16
           try clear q2
           try clear q28
           obtain ⟨x13_3, x76_3, rfl, rfl, HA, HK3, HO_5, HO_6, HO_7, HO_12, HO_74, HB⟩ := hrel
           cases gk with
           | zero => exact absurd HA.out (by simp [comp_ids.l3])
           | succ k3 =>
            have H := HA.out
            clear HA
            simp only [comp_ids.l3] at H
            by_cases c40 : x76_3 < (x7_2.length : Int)
            ·rw [if_pos c40] at H
             have c40b0 : decide (x76_3 < (x7_2.length : Int)) = true := decide_eq_true c40
             clear c40
             by_cases c41 : 0 ≤ x76_3
             ·rw [if_pos c41] at H
              have c41b0 : decide (0 ≤ x76_3) = true := decide_eq_true c41
              clear c41
              by_cases c42 : x76_3 < (x7_2.length : Int)
              ·rw [if_pos c42] at H
               have c42b0 : decide (x76_3 < (x7_2.length : Int)) = true := decide_eq_true c42
               clear c42
               by_cases c43 : 0 ≤ (rd x7_2 x76_3)
               ·rw [if_pos c43] at H
                have c43b0 : decide (0 ≤ (rd x7_2 x76_3)) = true := decide_eq_true c43
                clear c43
                by_cases c44 : (rd x7_2 x76_3) < (l1.length : Int)
                ·rw [if_pos c44] at H
                 have c44b0 : decide ((rd x7_2 x76_3) < (l1.length : Int)) = true := decide_eq_true c44
                 clear c44
                 by_cases c45 : 0 < ((rd_L1 l1 (rd x7_2 x76_3)).length : Int)
                 ·rw [if_pos c45] at H
                  have c45b0 : decide (0 < ((rd_L1 l1 (rd x7_2 x76_3)).length : Int)) = true := decide_eq_true c45
                  have c45b1 : decide (0 < (rd_L1 l1 (rd x7_2 x76_3)).length) = true := decide_eq_true (by omega)
                  clear c45
                  by_cases c46 : 0 ≤ x13_3
                  ·rw [if_pos c46] at H
                   have c46b0 : decide (0 ≤ x13_3) = true := decide_eq_true c46
                   clear c46
                   by_cases c47 : x13_3 < (x7_2.length : Int)
                   ·rw [if_pos c47] at H
                    have c47b0 : decide (x13_3 < (x7_2.length : Int)) = true := decide_eq_true c47
                    clear c47
                    by_cases c48 : 0 ≤ (rd x7_2 x13_3)
                    ·rw [if_pos c48] at H
                     have c48b0 : decide (0 ≤ (rd x7_2 x13_3)) = true := decide_eq_true c48
                     clear c48
                     by_cases c49 : (rd x7_2 x13_3) < (l1.length : Int)
                     ·rw [if_pos c49] at H
                      have c49b0 : decide ((rd x7_2 x13_3) < (l1.length : Int)) = true := decide_eq_true c49
                      clear c49
                      by_cases c50 : 0 < ((rd_L1 l1 (rd x7_2 x13_3)).length : Int)
                      ·rw [if_pos c50] at H
                       have c50b0 : decide (0 < ((rd_L1 l1 (rd x7_2 x13_3)).length : Int)) = true := decide_eq_true c50
                       have c50b1 : decide (0 < (rd_L1 l1 (rd x7_2 x13_3)).length) = true := decide_eq_true (by omega)
                       clear c50
                       by_cases c51 : (rd (rd_L1 l1 (rd x7_2 x76_3)) 0) < (rd (rd_L1 l1 (rd x7_2 x13_3)) 0)
                       ·rw [if_pos c51] at H
                        have c51b0 : decide ((rd (rd_L1 l1 (rd x7_2 x76_3)) 0) < (rd (rd_L1 l1 (rd x7_2 x13_3)) 0)) = true := decide_eq_true c51
                        clear c51
                        have H' := Aside0.mk H
                        clear H
                        have p123 : 0 ≤ (x76_3 : Int) := of_decide_eq_true (by first | (with_reducible assumption) | assumption)
                        have q123 : x76_3 < (x7_2.length : Int) := of_decide_eq_true (by first | (with_reducible assumption) | assumption)
                        obtain ⟨ad123, e123, hx123_0⟩ := Kd.at_int (Kd.R_reads' HO_74.out).2.2 x76_3 p123 q123
                        cases e123
                        replace p123 := eq_true p123
                        replace q123 := eq_true q123
                        have p124 : 0 ≤ ((rd x7_2 x76_3) : Int) := of_decide_eq_true (by first | (with_reducible assumption) | assumption)
                        have q124 : (rd x7_2 x76_3) < (l1.length : Int) := of_decide_eq_true (by first | (with_reducible assumption) | assumption)
                        obtain ⟨ad124, A124_0, c124_0, e124, hx124_0, hl124_0, hi124_0⟩ := at_L1 HR1.out (rd x7_2 x76_3) p124 q124
                        cases e124
                        replace hx124_0 := (HB.out.cell (World.block_lt_of_cell? w _ hx124_0)).trans hx124_0
                        have HR124_0 := Aside0.mk hi124_0
                        have HC124_0 := Aside0.mk hl124_0
                        clear hi124_0 hl124_0
                        replace p124 := eq_true p124
                        replace q124 := eq_true q124
                        have p125 : 0 ≤ (0 : Int) := (by omega)
                        have q125 : 0 < ((rd_L1 l1 (rd x7_2 x76_3)).length : Int) := of_decide_eq_true (by first | (with_reducible assumption) | assumption)
                        obtain ⟨ad125, e125, hx125_0⟩ := Kd.at_int HR124_0.out 0 p125 q125
                        cases e125
                        have qi125 : (0 < (rd_L1 l1 (rd x7_2 x76_3)).length) = True := eq_true (by omega)
                        (try rw [show ((0 : Int)).toNat = 0 from rfl] at hx125_0)
                        (try rw [Addr.add_zero'] at hx125_0)
                        replace hx125_0 := (HB.out.cell (World.block_lt_of_cell? w _ hx125_0)).trans hx125_0
                        replace p125 := eq_true p125
                        replace q125 := eq_true q125
                        have p126 : 0 ≤ (x13_3 : Int) := of_decide_eq_true (by first | (with_reducible assumption) | assumption)
                        have q126 : x13_3 < (x7_2.length : Int) := of_decide_eq_true (by first | (with_reducible assumption) | assumption)
                        obtain ⟨ad126, e126, hx126_0⟩ := Kd.at_int (Kd.R_reads' HO_7.out).2.2 x13_3 p126 q126
                        obtain rfl : ad123 = ad126 := (by injection e126)
                        replace p126 := eq_true p126
                        replace q126 := eq_true q126
                        have p127 : 0 ≤ ((rd x7_2 x13_3) : Int) := of_decide_eq_true (by first | (with_reducible assumption) | assumption)
                        have q127 : (rd x7_2 x13_3) < (l1.length : Int) := of_decide_eq_true (by first | (with_reducible assumption) | assumption)
                        obtain ⟨ad127, A127_0, c127_0, e127, hx127_0, hl127_0, hi127_0⟩ := at_L1 HR1.out (rd x7_2 x13_3) p127 q127
                        obtain rfl : ad124 = ad127 := (by injection e127)
                        replace hx127_0 := (HB.out.cell (World.block_lt_of_cell? w _ hx127_0)).trans hx127_0
                        have HR127_0 := Aside0.mk hi127_0
                        have HC127_0 := Aside0.mk hl127_0
                        clear hi127_0 hl127_0
                        replace p127 := eq_true p127
                        replace q127 := eq_true q127
                        have p128 : 0 ≤ (0 : Int) := (by omega)
                        have q128 : 0 < ((rd_L1 l1 (rd x7_2 x13_3)).length : Int) := of_decide_eq_true (by first | (with_reducible assumption) | assumption)
                        obtain ⟨ad128, e128, hx128_0⟩ := Kd.at_int HR127_0.out 0 p128 q128
                        cases e128
                        have qi128 : (0 < (rd_L1 l1 (rd x7_2 x13_3)).length) = True := eq_true (by omega)
                        (try rw [show ((0 : Int)).toNat = 0 from rfl] at hx128_0)
                        (try rw [Addr.add_zero'] at hx128_0)
                        replace hx128_0 := (HB.out.cell (World.block_lt_of_cell? w _ hx128_0)).trans hx128_0
                        replace p128 := eq_true p128
                        replace q128 := eq_true q128
                        go_wp2
                        repeat (go_quiet (fail); try go_wp2)
                        go_roundg k3
                        case measure => have := HK1.out; have := HK2.out; have := HK3.out; omega
                        case rel => exact ⟨(x76_3), (wrap64 (x76_3 + 1)), (by first | rfl | (simp; done) | (simp [*]; done)), (by first | rfl | (simp; done) | (simp [*]; done)), H', ⟨by have := HK1.out; have := HK2.out; have := HK3.out; omega⟩, ⟨by (with_reducible repeat (first | apply Kd.R_alloc | apply Kd.R_drewN | apply Kd.R_drew)); exact HO_5.out⟩, ⟨by (with_reducible repeat (first | apply Kd.S_alloc | apply Kd.S_drewN | apply Kd.S_drew)); exact HO_6.out⟩, ⟨by (with_reducible repeat (first | apply Kd.R_alloc | apply Kd.R_drewN | apply Kd.R_drew)); exact HO_7.out⟩, ⟨by (with_reducible repeat (first | apply Kd.R_alloc | apply Kd.R_drewN | apply Kd.R_drew)); exact HO_12.out⟩, ⟨by (with_reducible repeat (first | apply Kd.R_alloc | apply Kd.R_drewN | apply Kd.R_drew)); exact HO_74.out⟩, ⟨by repeat (first | (with_reducible first | exact HB.out | apply below_alloc | apply pw_below_drewN | apply below_drew1) | exact HB.out)⟩⟩
                       ·rw [if_neg c51] at H
                        have c51b0 : decide ((rd (rd_L1 l1 (rd x7_2 x76_3)) 0) < (rd (rd_L1 l1 (rd x7_2 x13_3)) 0)) = false := decide_eq_false c51
                        clear c51
                        have H' := Aside0.mk H
                        clear H
                        have p123 : 0 ≤ (x76_3 : Int) := of_decide_eq_true (by first | (with_reducible assumption) | assumption)
                        have q123 : x76_3 < (x7_2.length : Int) := of_decide_eq_true (by first | (with_reducible assumption) | assumption)
                        obtain ⟨ad123, e123, hx123_0⟩ := Kd.at_int (Kd.R_reads' HO_74.out).2.2 x76_3 p123 q123
                        cases e123
                        replace p123 := eq_true p123
                        replace q123 := eq_true q123
                        have p124 : 0 ≤ ((rd x7_2 x76_3) : Int) := of_decide_eq_true (by first | (with_reducible assumption) | assumption)
                        have q124 : (rd x7_2 x76_3) < (l1.length : Int) := of_decide_eq_true (by first | (with_reducible assumption) | assumption)
                        obtain ⟨ad124, A124_0, c124_0, e124, hx124_0, hl124_0, hi124_0⟩ := at_L1 HR1.out (rd x7_2 x76_3) p124 q124
                        cases e124
                        replace hx124_0 := (HB.out.cell (World.block_lt_of_cell? w _ hx124_0)).trans hx124_0
                        have HR124_0 := Aside0.mk hi124_0
                        have HC124_0 := Aside0.mk hl124_0
                        clear hi124_0 hl124_0
                        replace p124 := eq_true p124
                        replace q124 := eq_true q124
                        have p125 : 0 ≤ (0 : Int) := (by omega)
                        have q125 : 0 < ((rd_L1 l1 (rd x7_2 x76_3)).length : Int) := of_decide_eq_true (by first | (with_reducible assumption) | assumption)
                        obtain ⟨ad125, e125, hx125_0⟩ := Kd.at_int HR124_0.out 0 p125 q125
                        cases e125
                        have qi125 : (0 < (rd_L1 l1 (rd x7_2 x76_3)).length) = True := eq_true (by omega)
                        (try rw [show ((0 : Int)).toNat = 0 from rfl] at hx125_0)
                        (try rw [Addr.add_zero'] at hx125_0)
                        replace hx125_0 := (HB.out.cell (World.block_lt_of_cell? w _ hx125_0)).trans hx125_0
                        replace p125 := eq_true p125
                        replace q125 := eq_true q125
                        have p126 : 0 ≤ (x13_3 : Int) := of_decide_eq_true (by first | (with_reducible assumption) | assumption)
                        have q126 : x13_3 < (x7_2.length : Int) := of_decide_eq_true (by first | (with_reducible assumption) | assumption)
                        obtain ⟨ad126, e126, hx126_0⟩ := Kd.at_int (Kd.R_reads' HO_7.out).2.2 x13_3 p126 q126
                        obtain rfl : ad123 = ad126 := (by injection e126)
                        replace p126 := eq_true p126
                        replace q126 := eq_true q126
                        have p127 : 0 ≤ ((rd x7_2 x13_3) : Int) := of_decide_eq_true (by first | (with_reducible assumption) | assumption)
                        have q127 : (rd x7_2 x13_3) < (l1.length : Int) := of_decide_eq_true (by first | (with_reducible assumption) | assumption)
                        obtain ⟨ad127, A127_0, c127_0, e127, hx127_0, hl127_0, hi127_0⟩ := at_L1 HR1.out (rd x7_2 x13_3) p127 q127
                        obtain rfl : ad124 = ad127 := (by injection e127)
                        replace hx127_0 := (HB.out.cell (World.block_lt_of_cell? w _ hx127_0)).trans hx127_0
                        have HR127_0 := Aside0.mk hi127_0
                        have HC127_0 := Aside0.mk hl127_0
                        clear hi127_0 hl127_0
                        replace p127 := eq_true p127
                        replace q127 := eq_true q127
                        have p128 : 0 ≤ (0 : Int) := (by omega)
                        have q128 : 0 < ((rd_L1 l1 (rd x7_2 x13_3)).length : Int) := of_decide_eq_true (by first | (with_reducible assumption) | assumption)
                        obtain ⟨ad128, e128, hx128_0⟩ := Kd.at_int HR127_0.out 0 p128 q128
                        cases e128
                        have qi128 : (0 < (rd_L1 l1 (rd x7_2 x13_3)).length) = True := eq_true (by omega)
                        (try rw [show ((0 : Int)).toNat = 0 from rfl] at hx128_0)
                        (try rw [Addr.add_zero'] at hx128_0)
                        replace hx128_0 := (HB.out.cell (World.block_lt_of_cell? w _ hx128_0)).trans hx128_0
                        replace p128 := eq_true p128
                        replace q128 := eq_true q128
                        go_wp2
                        repeat (go_quiet (fail); try go_wp2)
                        go_roundg k3
                        case measure => have := HK1.out; have := HK2.out; have := HK3.out; omega
                        case rel => exact ⟨(x13_3), (wrap64 (x76_3 + 1)), (by first | rfl | (simp; done) | (simp [*]; done)), (by first | rfl | (simp; done) | (simp [*]; done)), H', ⟨by have := HK1.out; have := HK2.out; have := HK3.out; omega⟩, ⟨by (with_reducible repeat (first | apply Kd.R_alloc | apply Kd.R_drewN | apply Kd.R_drew)); exact HO_5.out⟩, ⟨by (with_reducible repeat (first | apply Kd.S_alloc | apply Kd.S_drewN | apply Kd.S_drew)); exact HO_6.out⟩, ⟨by (with_reducible repeat (first | apply Kd.R_alloc | apply Kd.R_drewN | apply Kd.R_drew)); exact HO_7.out⟩, ⟨by (with_reducible repeat (first | apply Kd.R_alloc | apply Kd.R_drewN | apply Kd.R_drew)); exact HO_12.out⟩, ⟨by (with_reducible repeat (first | apply Kd.R_alloc | apply Kd.R_drewN | apply Kd.R_drew)); exact HO_74.out⟩, ⟨by repeat (first | (with_reducible first | exact HB.out | apply below_alloc | apply pw_below_drewN | apply below_drew1) | exact HB.out)⟩⟩
                      ·rw [if_neg c50] at H
                       exact absurd H (by simp)
                     ·rw [if_neg c49] at H
                      exact absurd H (by simp)
                    ·rw [if_neg c48] at H
                     exact absurd H (by simp)
                   ·rw [if_neg c47] at H
                    exact absurd H (by simp)
                  ·rw [if_neg c46] at H
                   exact absurd H (by simp)
                 ·rw [if_neg c45] at H
                  exact absurd H (by simp)
                ·rw [if_neg c44] at H
                 exact absurd H (by simp)
               ·rw [if_neg c43] at H
                exact absurd H (by simp)
              ·rw [if_neg c42] at H
               exact absurd H (by simp)
             ·rw [if_neg c41] at H
              exact absurd H (by simp)
            ·rw [if_neg c40] at H
             have c40b0 : decide (x76_3 < (x7_2.length : Int)) = false := decide_eq_false c40
             clear c40
             by_cases c52 : 0 ≤ x13_3
             ·rw [if_pos c52] at H
              have c52b0 : decide (0 ≤ x13_3) = true := decide_eq_true c52
              clear c52
              by_cases c53 : x13_3 < (x7_2.length : Int)
              ·rw [if_pos c53] at H
               have c53b0 : decide (x13_3 < (x7_2.length : Int)) = true := decide_eq_true c53
               clear c53
               have c54b0 := eq_true (of_decide_eq_true (by first | (with_reducible assumption) | assumption) : 0 ≤ x13_3)
               by_cases c55 : x13_3 ≤ (x7_2.length : Int)
               ·rw [if_pos c55] at H
                have c55b0 := eq_true c55
                have c55b1 : decide (x13_3 ≤ (x7_2.length : Int)) = true := decide_eq_true c55
                clear c55
                obtain ⟨y130, hy130⟩ : ∃ y_ : List Int, y_ = (x7_2.take (x13_3 : Int).toNat) := ⟨_, rfl⟩
                replace H : (if 0 ≤ (wrap64 (x13_3 + 1)) then (if (wrap64 (x13_3 + 1)) ≤ (x7_2.length : Int) then (if 0 ≤ (rd x7_2 x13_3) then (if (rd x7_2 x13_3) < (l1.length : Int) then (if x12_2.length < 5864062014805 then (if (rd x7_2 x13_3) < (x6_1.length : Int) then (comp_ids.l4 k3 l1 x5_2 x6_1 (x7_2.eraseIdx (x13_3 : Int).toNat) (x12_2 ++ [rd x7_2 x13_3]) (rd_L1 x6_1 (rd x7_2 x13_3)) ((rd_L1 x6_1 (rd x7_2 x13_3)).length : Int) 0) else (none)) else (none)) else (none)) else (none)) else (none)) else (none)) = some r := by first | (rw [hy130]; with_reducible exact H) | (have H2_ := (Option.bind_some _ _).symm.trans H; rw [hy130]; with_reducible exact H2_) | (have H2_ := (Option.bind_some _ _).symm.trans H; with_reducible exact H2_) | with_reducible exact H | (rw [hy130]; exact H) | exact H
                have Ny130 := Aside0.mk hy130
                clear hy130
                obtain ⟨ji56, hji56⟩ : ∃ j_ : Int, (wrap64 (x13_3 + 1)) = j_ := ⟨_, rfl⟩
                replace H : (if 0 ≤ (ji56) then (if (ji56) ≤ (x7_2.length : Int) then (if 0 ≤ (rd x7_2 x13_3) then (if (rd x7_2 x13_3) < (l1.length : Int) then (if x12_2.length < 5864062014805 then (if (rd x7_2 x13_3) < (x6_1.length : Int) then (comp_ids.l4 k3 l1 x5_2 x6_1 (x7_2.eraseIdx (x13_3 : Int).toNat) (x12_2 ++ [rd x7_2 x13_3]) (rd_L1 x6_1 (rd x7_2 x13_3)) ((rd_L1 x6_1 (rd x7_2 x13_3)).length : Int) 0) else (none)) else (none)) else (none)) else (none)) else (none)) else (none)) = some r := by first | (rw [hji56] at H; exact H) | (simp only [hji56] at H ⊢; exact H)
                have hji56w : (IntKind.i64.wrap (x13_3 + 1)) = ji56 := (i64_w _).trans hji56
                by_cases c57 : 0 ≤ (ji56)
                ·rw [if_pos c57] at H
                 have c57b0 := eq_true c57
                 have c57b1 : decide (0 ≤ (ji56)) = true := decide_eq_true c57
                 clear c57
                 by_cases c58 : (ji56) ≤ (x7_2.length : Int)
                 ·rw [if_pos c58] at H
                  have c58b0 := eq_true c58
                  have c58b1 : decide ((ji56) ≤ (x7_2.length : Int)) = true := decide_eq_true c58
                  clear c58
                  obtain ⟨y134, hy134⟩ : ∃ y_ : List Int, y_ = (x7_2.drop ((ji56) : Int).toNat) := ⟨_, rfl⟩
                  replace H : (if 0 ≤ (rd x7_2 x13_3) then (if (rd x7_2 x13_3) < (l1.length : Int) then (if x12_2.length < 5864062014805 then (if (rd x7_2 x13_3) < (x6_1.length : Int) then (comp_ids.l4 k3 l1 x5_2 x6_1 (x7_2.eraseIdx (x13_3 : Int).toNat) (x12_2 ++ [rd x7_2 x13_3]) (rd_L1 x6_1 (rd x7_2 x13_3)) ((rd_L1 x6_1 (rd x7_2 x13_3)).length : Int) 0) else (none)) else (none)) else (none)) else (none)) = some r := by first | (rw [hy134]; with_reducible exact H) | (have H2_ := (Option.bind_some _ _).symm.trans H; rw [hy134]; with_reducible exact H2_) | (have H2_ := (Option.bind_some _ _).symm.trans H; with_reducible exact H2_) | with_reducible exact H | (rw [hy134]; exact H) | exact H
                  have Ny134 := Aside0.mk hy134
                  clear hy134
                  obtain ⟨y138, hy138⟩ : ∃ y_ : List Int, y_ = (x7_2.eraseIdx (x13_3 : Int).toNat) := ⟨_, rfl⟩
                  replace H : (if 0 ≤ (rd x7_2 x13_3) then (if (rd x7_2 x13_3) < (l1.length : Int) then (if x12_2.length < 5864062014805 then (if (rd x7_2 x13_3) < (x6_1.length : Int) then (comp_ids.l4 k3 l1 x5_2 x6_1 y138 (x12_2 ++ [rd x7_2 x13_3]) (rd_L1 x6_1 (rd x7_2 x13_3)) ((rd_L1 x6_1 (rd x7_2 x13_3)).length : Int) 0) else (none)) else (none)) else (none)) else (none)) = some r := by first | (rw [hy138]; with_reducible exact H) | (have H2_ := (Option.bind_some _ _).symm.trans H; rw [hy138]; with_reducible exact H2_) | (have H2_ := (Option.bind_some _ _).symm.trans H; with_reducible exact H2_) | with_reducible exact H | (rw [hy138]; exact H) | exact H
                  have Ny138 := Aside0.mk hy138
                  clear hy138
                  by_cases c59 : 0 ≤ (rd x7_2 x13_3)
                  ·rw [if_pos c59] at H
                   have c59b0 : decide (0 ≤ (rd x7_2 x13_3)) = true := decide_eq_true c59
                   clear c59
                   by_cases c60 : (rd x7_2 x13_3) < (l1.length : Int)
                   ·rw [if_pos c60] at H
                    have c60b0 : decide ((rd x7_2 x13_3) < (l1.length : Int)) = true := decide_eq_true c60
                    clear c60
                    by_cases c61 : x12_2.length < 5864062014805
                    ·rw [if_pos c61] at H
                     have LMc61 := Aside0.mk c61
                     clear c61
                     obtain ⟨y142, hy142⟩ : ∃ y_ : List Int, y_ = (x12_2 ++ [rd x7_2 x13_3]) := ⟨_, rfl⟩
                     replace H : (if (rd x7_2 x13_3) < (x6_1.length : Int) then (comp_ids.l4 k3 l1 x5_2 x6_1 y138 y142 (rd_L1 x6_1 (rd x7_2 x13_3)) ((rd_L1 x6_1 (rd x7_2 x13_3)).length : Int) 0) else (none)) = some r := by first | (rw [hy142]; with_reducible exact H) | (have H2_ := (Option.bind_some _ _).symm.trans H; rw [hy142]; with_reducible exact H2_) | (have H2_ := (Option.bind_some _ _).symm.trans H; with_reducible exact H2_) | with_reducible exact H | (rw [hy142]; exact H) | exact H
                     have Ny142 := Aside0.mk hy142
                     clear hy142
                     by_cases c62 : (rd x7_2 x13_3) < (x6_1.length : Int)
                     ·rw [if_pos c62] at H
                      have c62b0 : decide ((rd x7_2 x13_3) < (x6_1.length : Int)) = true := decide_eq_true c62
                      clear c62
                      have H' := Aside0.mk H
                      clear H
                      have p129 : 0 ≤ (x13_3 : Int) := of_decide_eq_true (by first | (with_reducible assumption) | assumption)
                      have q129 : x13_3 < (x7_2.length : Int) := of_decide_eq_true (by first | (with_reducible assumption) | assumption)
                      obtain ⟨ad129, e129, hx129_0⟩ := Kd.at_int (Kd.R_reads' HO_7.out).2.2 x13_3 p129 q129
                      cases e129
                      replace p129 := eq_true p129
                      replace q129 := eq_true q129
                      have q63 : (x13_3 : Int) ≤ ((x7_2.length : Int) : Int) := of_decide_eq_true (by first | (with_reducible assumption) | assumption)
                      obtain ⟨i063, hi063, _, hsz63, _⟩ := info_parts info3
                      have hroom63 : x7_2.length ≤ co39 := (Kd.R_reads' HO_7.out).2.1
                      have hC63 : Kd.C (Kd.int .i64) _ (some ad129) x7_2.length x7_2 := (Kd.R_reads' HO_7.out).2.2
                      have hcut63 := cut_to (P := Try.prog) 53 3 .i64 Try.underlying53 hi063 (some ad129) x7_2.length co39 x13_3 (of_decide_eq_true (by first | (with_reducible assumption) | assumption)) q63 hroom63
                      have hr63 := Kd.C_take (m := (x13_3 : Int).toNat) hC63 (by omega)
                      have hy63 : y130.length = (x13_3 : Int).toNat := (by rw [Ny130.out, List.length_take]; omega)
                      rw [← Ny130.out] at hr63
                      rw [← hy63] at hcut63
                      have HR133 := Aside0.mk hr63
                      have HC133 := Aside0.mk (show y130.length ≤ co39 from by omega)
                      clear hr63 hC63 hroom63 hi063 hsz63
                      have KY63 := Aside0.mk hy63
                      clear hy63
                      have KL63 := Aside0.mk (show (x13_3 : Int).toNat ≤ x7_2.length from by omega)
                      replace q63 := eq_true q63
                      have q64 : ((ji56) : Int) ≤ ((x7_2.length : Int) : Int) := of_decide_eq_true (by first | (with_reducible assumption) | assumption)
                      obtain ⟨i064, hi064, _, hsz64, _⟩ := info_parts info3
                      have hroom64 : x7_2.length ≤ co39 := (Kd.R_reads' HO_7.out).2.1
                      have hC64 : Kd.C (Kd.int .i64) _ (some ad129) x7_2.length x7_2 := (Kd.R_reads' HO_7.out).2.2
                      have q064 : (0 : Int) ≤ ((ji56) : Int) := of_decide_eq_true (by first | (with_reducible assumption) | assumption)
                      have hcut64 := cut_from (P := Try.prog) 53 3 .i64 Try.underlying53 hi064 1 hsz64 (some ad129) x7_2.length co39 (ji56) q064 q64
                      have hr64 := Kd.C_drop (m := ((ji56) : Int).toNat) (c := co39) hC64 (by omega) hroom64
                      obtain ⟨A64, hA64⟩ : ∃ A1, A1 = (if co39 = ((ji56) : Int).toNat then (some ad129) else ((some ad129) : Option Addr).map (·.add (((ji56) : Int).toNat * 1))) := ⟨_, rfl⟩
                      obtain ⟨c64, hc64⟩ : ∃ c1, c1 = co39 - ((ji56) : Int).toNat := ⟨_, rfl⟩
                      have hy64 : y134.length = x7_2.length - ((ji56) : Int).toNat := (by rw [Ny134.out, List.length_drop] <;> omega)
                      rw [show (x7_2).drop ((ji56) : Int).toNat = y134 from Ny134.out.symm] at hr64
                      replace hr64 : Kd.C (Kd.int .i64) _ A64 y134.length y134 := (by rw [hA64]; exact hr64)
                      rw [← hy64, ← hA64, ← hc64] at hcut64
                      have HR137 := Aside0.mk hr64
                      have HC137 := Aside0.mk (show y134.length ≤ c64 from by rw [hy64, hc64]; exact Nat.sub_le_sub_right hroom64 _)
                      clear hr64 hC64 hroom64 hi064 hsz64 hc64
                      have KY64 := Aside0.mk hy64
                      have KA64 := Aside0.mk hA64
                      clear hy64 hA64
                      have KL64 := Aside0.mk (show ((ji56) : Int).toNat ≤ x7_2.length from by omega)
                      replace q64 := eq_true q64
                      go_wp2_with (first | (go_at_call 74; have hj_ : 0 ≤ (x13_3 : Int) := of_decide_eq_true (by first | (with_reducible assumption) | assumption); have hl_ : (ji56 : Int) ≤ (x7_2.length : Int) := of_decide_eq_true (by first | (with_reducible assumption) | assumption); have hh_ : (x13_3 : Int) ≤ (x7_2.length : Int) := of_decide_eq_true (by first | (with_reducible assumption) | assumption); have hb_ := (Kd.R_reads' HO_7.out).2.2.2.1; have h0_ : (0 : Int) ≤ (ji56 : Int) := of_decide_eq_true (by first | (with_reducible assumption) | assumption); have hy1_ := KY63.out; have hk_ : (ji56 : Int) = x13_3 + 1 := (by have h00_ := h0_; rw [← hji56] at h00_ ⊢; unfold wrap64 at h00_ ⊢; omega); obtain ⟨gd66, cap_, ev_, _⟩ := Kd.R_form HO_7.out (by omega); have ea2_ : _ = (⟨gd66, 0, none⟩ : Addr) := (by injection ev_ with ea_ _ _; injection ea_); clear ev_; subst ea2_; refine (delete_row (w0 := w) (base := w.heap.size) (by (with_reducible repeat (first | apply Kd.R_alloc | apply Kd.R_drewN | apply Kd.R_drew)); exact HO_7.out) (by repeat (first | (with_reducible first | exact HB.out | apply below_alloc | apply pw_below_drewN | apply below_drew1) | exact HB.out)) hj_ ?hd1 hk_).mono ?_; (case hd1 => omega); rintro e w65 ⟨rfl, ho, hb, hg⟩; clear hj_ hl_ hh_ hb_ hk_ h0_; rw [← Ny138.out] at ho; clear hy1_; have hn_ : x7_2.length - 1 = y138.length := (by have := (Kd.R_reads' ho).1; omega); rw [hn_] at ho ⊢; clear hn_; have n0_ := Aside0.mk (Kd.R_after (v := (.slice (some ⟨gd66, 0, none⟩) x7_2.length co39)) (v1 := .slice (some ⟨gd66, 0, none⟩) y138.length co39) (ok := (fun k_ => some k_ ≠ (u12 : Value).ownBlock ∧ some k_ ≠ (.slice (some ⟨gd66, 0, none⟩) x7_2.length co39 : Value).ownBlock)) (by (with_reducible repeat (first | apply Kd.R_alloc | apply Kd.R_drewN | apply Kd.R_drew)); exact Kd.R_mono HO_5.out (fun _ hk => ⟨⟨hk.2.1, hk.2.2⟩, hk.1⟩)) hg (.inl rfl)); have n1_ := Aside0.mk (Kd.S_after (v := (.slice (some ⟨gd66, 0, none⟩) x7_2.length co39)) (v1 := .slice (some ⟨gd66, 0, none⟩) y138.length co39) (ok := (fun k_ => some k_ ≠ (v105 : Value).ownBlock ∧ some k_ ≠ (u12 : Value).ownBlock ∧ some k_ ≠ (.slice (some ⟨gd66, 0, none⟩) x7_2.length co39 : Value).ownBlock)) (by (with_reducible repeat (first | apply Kd.S_alloc | apply Kd.S_drewN | apply Kd.S_drew)); exact Kd.S_mono HO_6.out (fun _ hk => ⟨⟨hk.1, ⟨hk.2.2.1, hk.2.2.2⟩⟩, hk.2.1⟩)) hg (.inl rfl)); have n2_ := Aside0.mk (ho); have n3_ := Aside0.mk (Kd.R_after (v := (.slice (some ⟨gd66, 0, none⟩) x7_2.length co39)) (v1 := .slice (some ⟨gd66, 0, none⟩) y138.length co39) (ok := (fun k_ => some k_ ≠ (v105 : Value).ownBlock ∧ some k_ ≠ (.slice (some ⟨gd66, 0, none⟩) x7_2.length co39 : Value).ownBlock)) (by (with_reducible repeat (first | apply Kd.R_alloc | apply Kd.R_drewN | apply Kd.R_drew)); exact Kd.R_mono HO_12.out (fun _ hk => ⟨⟨hk.1, hk.2.2⟩, hk.2.1⟩)) hg (.inl rfl)); have n5_ := Aside0.mk (hb); clear HO_5; clear HO_6; clear HO_7; clear HO_12; clear HO_74; clear HB; have HO_5 := n0_; have HO_6 := n1_; have HO_7 := n2_; have HO_12 := n3_; have HB := n5_; clear n0_ n1_ n2_ n3_ n5_; clear ho hb hg; have p141 : 0 ≤ ((rd x7_2 x13_3) : Int) := of_decide_eq_true (by first | (with_reducible assumption) | assumption); have q141 : (rd x7_2 x13_3) < (l1.length : Int) := of_decide_eq_true (by first | (with_reducible assumption) | assumption); obtain ⟨ad141, A141_0, c141_0, e141, hx141_0, hl141_0, hi141_0⟩ := at_L1 HR1.out (rd x7_2 x13_3) p141 q141; cases e141; have HXO := Aside0.mk hx141_0; replace hx141_0 := (HB.out.cell (World.block_lt_of_cell? w _ hx141_0)).trans hx141_0; have HR141_0 := Aside0.mk hi141_0; have HC141_0 := Aside0.mk hl141_0; clear hi141_0 hl141_0; replace p141 := eq_true p141; replace q141 := eq_true q141) | ((with_reducible refine gate_builtin (b := .append) (xs := #[.tmp 108, .tmp 113]) rfl ?_); at_builtin; refine Kd.R_append (kO w (some ad141)) (w0 := w) w.heap.size rfl (.tmp 108) (.tmp 113) 48 53 (.slice none 0 0) 24 rfl Try.underlying48 info_rows rfl Nat.zero_lt_one (by omega) u12 x12_2 (rd x7_2 x13_3) [.slice A141_0 (rd_L1 l1 (rd x7_2 x13_3)).length c141_0] (fun k_ => some k_ ≠ (v105 : Value).ownBlock ∧ some k_ ≠ (.slice (some ⟨gd66, 0, none⟩) y138.length co39 : Value).ownBlock ∧ some k_ ≠ (.slice (some ⟨gd66, 0, none⟩) x7_2.length co39 : Value).ownBlock) (fun _ => False) rfl rfl ?aP (fun _ hk => hk.elim) ?aF ?aO ?aB ?aS ?aL ?_; (case aP => exact (by show _ = [_]; rw [encC_at HXO.out])); (case aB => exact (by repeat (first | (with_reducible first | exact HB.out | apply below_alloc | apply pw_below_drewN | apply below_drew1) | exact HB.out))); (case aF => exact (fun k_ hk => ⟨Kd.fresh' (Kd.R_lt (by (with_reducible repeat (first | apply Kd.R_alloc | apply Kd.R_drewN | apply Kd.R_drew)); exact HO_5.out)) k_ hk, Kd.fresh' (Kd.R_lt (by (with_reducible repeat (first | apply Kd.R_alloc | apply Kd.R_drewN | apply Kd.R_drew)); exact HO_7.out)) k_ hk, (show some k_ ≠ (Value.slice (some ⟨gd66, 0, none⟩) y138.length co39).ownBlock from Kd.fresh' (Kd.R_lt (by (with_reducible repeat (first | apply Kd.R_alloc | apply Kd.R_drewN | apply Kd.R_drew)); exact HO_7.out)) k_ hk)⟩)); (case aO => exact (by (with_reducible repeat (first | apply Kd.R_alloc | apply Kd.R_drewN | apply Kd.R_drew)); exact Kd.R_mono HO_12.out (fun _ hk => ⟨hk.1.1, ⟨hk.2, hk.1.2⟩⟩))); (case aS => exact (below_size (by repeat (first | (with_reducible first | exact HB.out | apply below_alloc | apply pw_below_drewN | apply below_drew1) | exact HB.out)))); (case aL => have := LMc61.out; omega); intro v143 w67 ho hb hg hat; rw [← Ny142.out] at ho; have n0_ := Aside0.mk (Kd.R_after (ok := (fun k_ => some k_ ≠ (.slice (some ⟨gd66, 0, none⟩) y138.length co39 : Value).ownBlock ∧ some k_ ≠ (.slice (some ⟨gd66, 0, none⟩) x7_2.length co39 : Value).ownBlock)) (by (with_reducible repeat (first | apply Kd.R_alloc | apply Kd.R_drewN | apply Kd.R_drew)); exact Kd.R_mono HO_5.out (fun _ hk => ⟨⟨hk.2, hk.1.2⟩, hk.1.1⟩)) hg hat); have n1_ := Aside0.mk (Kd.S_after (ok := (fun k_ => some k_ ≠ (v105 : Value).ownBlock ∧ some k_ ≠ (.slice (some ⟨gd66, 0, none⟩) y138.length co39 : Value).ownBlock ∧ some k_ ≠ (.slice (some ⟨gd66, 0, none⟩) x7_2.length co39 : Value).ownBlock)) (by (with_reducible repeat (first | apply Kd.S_alloc | apply Kd.S_drewN | apply Kd.S_drew)); exact Kd.S_mono HO_6.out (fun _ hk => ⟨⟨hk.1.1, ⟨hk.2, hk.1.2.2⟩⟩, hk.1.2.1⟩)) hg hat); have n2_ := Aside0.mk (Kd.R_after (ok := (fun k_ => some k_ ≠ (v105 : Value).ownBlock)) (by (with_reducible repeat (first | apply Kd.R_alloc | apply Kd.R_drewN | apply Kd.R_drew)); exact HO_7.out) hg hat); have n4_ := Aside0.mk (hb); have n5_ := Aside0.mk (ho); clear HO_5; clear HO_6; clear HO_7; clear HB; clear HO_12; have HO_5 := n0_; have HO_6 := n1_; have HO_7 := n2_; have HB := n4_; have HO144 := n5_; clear n0_ n1_ n2_ n4_ n5_; clear ho hb hg hat; obtain ⟨Ao68, co68, eo68⟩ := Kd.S_slice HO_6.out; subst eo68; have p145 : 0 ≤ ((rd x7_2 x13_3) : Int) := of_decide_eq_true (by first | (with_reducible assumption) | assumption); have q145 : (rd x7_2 x13_3) < (x6_1.length : Int) := of_decide_eq_true (by first | (with_reducible assumption) | assumption); obtain ⟨ad145, A145_0, c145_0, e145, hx145_0, hl145_0, hi145_0⟩ := at_L1 (Kd.S_reads' HO_6.out).2.2 (rd x7_2 x13_3) p145 q145; cases e145; obtain ⟨ce145, hce145, hMe145, hcc145⟩ := Kd.S_get HO_6.out [] (rd x7_2 x13_3) p145 (by first | exact q145 | exact of_decide_eq_true (by first | (with_reducible assumption) | assumption) | (have e_ := (Kd.S_reads' HO_6.out).1; omega)); obtain ⟨ve145_0, rfl, ge145_0⟩ := hMe145; have hv145_0 := hcc145 0 _ rfl; rw [Nat.add_zero, show ((Kd.slice 3 (Kd.int .i64))).sz = 1 from rfl, Nat.mul_one] at hv145_0; replace hv145_0 := Option.some.inj (hv145_0.symm.trans hx145_0); rw [hv145_0] at ge145_0; have HL145_0 := Aside0.mk (show Kd.R (Kd.int .i64) 3 _ _ _ _ (rd_L1 x6_1 (rd x7_2 x13_3)) from ge145_0); clear hv145_0 ge145_0; have HX145_0 := Aside0.mk hx145_0; clear hcc145 hce145; have HR145_0 := Aside0.mk hi145_0; have HC145_0 := Aside0.mk hl145_0; clear hi145_0 hl145_0; replace p145 := eq_true p145; replace q145 := eq_true q145))
                      go_loopg [7, 120] k3 (fun kq v7 v120 w' => ∃ (x5_4 : List Int) (x7_4 : List Int) (x120_4 : Int), v120 = .int .i64 x120_4 ∧ Aside0 (comp_ids.l4 kq l1 x5_4 x6_1 x7_4 y142 (rd_L1 x6_1 (rd x7_2 x13_3)) ((rd_L1 x6_1 (rd x7_2 x13_3)).length : Int) x120_4 = some r) ∧ Aside0 (kq ≤ k3) ∧ Aside0 (Kd.R (Kd.int .i64) 3 w' w.heap.size (fun k_ => some k_ ≠ (v7 : Value).ownBlock ∧ some k_ ≠ (v143 : Value).ownBlock) v105 x5_4) ∧ Aside0 (Kd.S (Kd.slice 3 (Kd.int .i64)) 53 w' w.heap.size (fun k_ => some k_ ≠ (v105 : Value).ownBlock ∧ some k_ ≠ (v7 : Value).ownBlock ∧ some k_ ≠ (v143 : Value).ownBlock) (.slice (some ad145) x6_1.length co68) x6_1) ∧ Aside0 (Kd.R (Kd.int .i64) 3 w' w.heap.size (fun k_ => some k_ ≠ (v105 : Value).ownBlock ∧ some k_ ≠ (v7 : Value).ownBlock ∧ some k_ ≠ (v143 : Value).ownBlock) (.slice A145_0 (rd_L1 x6_1 (rd x7_2 x13_3)).length c145_0) (rd_L1 x6_1 (rd x7_2 x13_3))) ∧ Aside0 (Kd.R (Kd.int .i64) 3 w' w.heap.size (fun k_ => some k_ ≠ (v105 : Value).ownBlock ∧ some k_ ≠ (v143 : Value).ownBlock) v7 x7_4) ∧ Aside0 (Kd.R (kO w (some ad141)) 53 w' w.heap.size (fun k_ => some k_ ≠ (v105 : Value).ownBlock ∧ some k_ ≠ (v7 : Value).ownBlock) v143 y142) ∧ Aside0 (Below w.heap.size w w'))
                      case atStart => exact ⟨(x5_2), (y138), (0), (by first | rfl | (simp; done) | (simp [*]; done)), H', ⟨Nat.le_refl _⟩, ⟨by (with_reducible repeat (first | apply Kd.R_alloc | apply Kd.R_drewN | apply Kd.R_drew)); exact Kd.R_mono HO_5.out (fun _ hk => ⟨hk.1.1, hk.2⟩)⟩, ⟨by (with_reducible repeat (first | apply Kd.S_alloc | apply Kd.S_drewN | apply Kd.S_drew)); exact Kd.S_mono HO_6.out (fun _ hk => ⟨hk.1.1, ⟨hk.1.2.1, hk.2⟩⟩)⟩, ⟨by (with_reducible repeat (first | apply Kd.R_alloc | apply Kd.R_drewN | apply Kd.R_drew)); exact Kd.R_mono HL145_0.out (fun _ hk => ⟨hk.1.1.1, ⟨hk.1.1.2.1, hk.1.2⟩⟩)⟩, ⟨by (with_reducible repeat (first | apply Kd.R_alloc | apply Kd.R_drewN | apply Kd.R_drew)); exact HO_7.out⟩, ⟨by (with_reducible repeat (first | apply Kd.R_alloc | apply Kd.R_drewN | apply Kd.R_drew)); exact Kd.R_mono HO144.out (fun _ hk => ⟨hk.1, hk.2.1⟩)⟩, ⟨by repeat (first | (with_reducible first | exact HB.out | apply below_alloc | apply pw_below_drewN | apply below_drew1) | exact HB.out)⟩⟩
                      case round =>
                       clear H'
                       try clear c1
                       try clear p1
                       try clear q1
                       try clear hx1
                       try clear qi1
                       try clear c2
                       try clear p2
                       try clear q2
                       try clear c3
                       try clear hx3
                       try clear hf3
                       try clear c4
                       try clear c4b0
                       try clear c4b1
                       try clear c5
                       try clear c5b0
                       try clear c5b1
                       try clear c6
                       try clear c6b0
                       try clear c6b1
                       try clear p6
                       try clear q6
                       try clear c11
                       try clear p11
                       try clear q11
                       try clear hx11
                       try clear c12
                       try clear c12b0
                       try clear p12
                       try clear q12
                       try clear hx12
                       try clear qi12
                       try clear c14
                       try clear c14b0
                       try clear p14
                       try clear q14
                       try clear hx14
                       try clear c15
                       try clear c15b0
                       try clear p16
                       try clear q16
                       try clear hx16
                       try clear hf16
                       try clear c22
                       try clear c22b0
                       try clear c23
                       try clear c23b0
                       try clear c24
                       try clear c24b0
                       try clear c25
                       try clear c25b0
                       try clear c26
                       try clear c26b0
                       try clear c27
                       try clear p28
                       try clear q28
                       try clear c30
                       try clear c32
                       try clear hx32
                       try clear hf32
                       try clear c35
                       try clear c35b0
                       try clear c35b1
                       try clear c35b2
                       try clear c36
                       try clear c38
                       try clear c38b0
                       try clear c38b1
                       try clear c40
                       try clear c40b0
                       try clear c41
                       try clear c41b0
                       try clear c42
                       try clear c42b0
                       try clear c43
                       try clear c43b0
                       try clear c44
                       try clear c44b0
                       try clear c45
                       try clear c45b0
                       try clear c45b1
                       try clear c46
                       try clear c46b0
                       try clear c47
                       try clear c47b0
                       try clear c48
                       try clear c48b0
                       try clear c49
                       try clear c49b0
                       try clear c50
                       try clear c50b0
                       try clear c50b1
                       try clear c51
                       try clear c51b0
                       try clear c52
                       try clear c52b0
                       try clear c53
                       try clear c53b0
                       try clear c54
                       try clear c54b0
                       try clear c55
                       try clear c55b0
                       try clear c55b1
                       try clear c57
                       try clear c57b0
                       try clear c57b1
                       try clear c58
                       try clear c58b0
                       try clear c58b1
                       try clear c59
                       try clear c59b0
                       try clear c60
                       try clear c60b0
                       try clear c61
                       try clear c62
                       try clear c62b0
                       try clear q63
                       try clear c64
                       try clear p64
                       try clear q64
                       try clear hx114_0
                       try clear hx115_0
                       try clear hx123_0
                       try clear hx124_0
                       try clear hx125_0
                       try clear hx126_0
                       try clear hx127_0
                       try clear hx128_0
                       try clear hx129_0
                       try clear hx141_0
                       try clear hx145_0
                       try clear hx16_0
                       try clear hx32_0
                       try clear p1
                       try clear p11
                       try clear p114
                       try clear p115
                       try clear p123
                       try clear p124
                       try clear p125
                       try clear p126
                       try clear p127
                       try clear p128
                       try clear p129
                       try clear p141
                       try clear p145
                       try clear p16
                       try clear p2
                       try clear p28
                       try clear p6
                       try clear q064
                       try clear q1
                       try clear q11
                       try clear q114
                       try clear q115
                       try clear q123
                       try clear q124
                       try clear q125
                       try clear q126
                       try clear q127
                       try clear q128
                       try clear q129
                       try clear q141
                       try clear q145
                       try clear q16
                       try clear q2
                       try clear q28
                       try clear q63
                       try clear q64
                       obtain ⟨x5_4, x7_4, x120_4, rfl, HA, HK4, HO_5, HO_6, HO_118, HO_7, HO_12, HB⟩ := hrel
                       cases gk with
                       | zero => exact absurd HA.out (by simp [comp_ids.l4])
                       | succ k4 =>
                        have H := HA.out
                        clear HA
                        simp only [comp_ids.l4] at H
                        by_cases c69 : x120_4 < ((rd_L1 x6_1 (rd x7_2 x13_3)).length : Int)
                        ·rw [if_pos c69] at H
                         have c69b0 : decide (x120_4 < ((rd_L1 x6_1 (rd x7_2 x13_3)).length : Int)) = true := decide_eq_true c69
                         clear c69
                         by_cases c70 : 0 ≤ x120_4
                         ·rw [if_pos c70] at H
                          have c70b0 : decide (0 ≤ x120_4) = true := decide_eq_true c70
                          clear c70
                          by_cases c71 : x120_4 < ((rd_L1 x6_1 (rd x7_2 x13_3)).length : Int)
                          ·rw [if_pos c71] at H
                           have c71b0 : decide (x120_4 < ((rd_L1 x6_1 (rd x7_2 x13_3)).length : Int)) = true := decide_eq_true c71
                           clear c71
                           by_cases c72 : 0 ≤ (rd (rd_L1 x6_1 (rd x7_2 x13_3)) x120_4)
                           ·rw [if_pos c72] at H
                            have c72b0 : decide (0 ≤ (rd (rd_L1 x6_1 (rd x7_2 x13_3)) x120_4)) = true := decide_eq_true c72
                            clear c72
                            by_cases c73 : (rd (rd_L1 x6_1 (rd x7_2 x13_3)) x120_4) < (x5_4.length : Int)
                            ·rw [if_pos c73] at H
                             have c73b0 : decide ((rd (rd_L1 x6_1 (rd x7_2 x13_3)) x120_4) < (x5_4.length : Int)) = true := decide_eq_true c73
                             clear c73
                             obtain ⟨y148, hy148⟩ : ∃ y_ : List Int, y_ = (x5_4.set ((rd (rd_L1 x6_1 (rd x7_2 x13_3)) x120_4) : Int).toNat (wrap64 ((rd x5_4 (rd (rd_L1 x6_1 (rd x7_2 x13_3)) x120_4)) - 1))) := ⟨_, rfl⟩
                             replace H : (if (rd y148 (rd (rd_L1 x6_1 (rd x7_2 x13_3)) x120_4)) = 0 then (if x7_4.length < 17592186044416 then (comp_ids.l4 k4 l1 y148 x6_1 (x7_4 ++ [rd (rd_L1 x6_1 (rd x7_2 x13_3)) x120_4]) y142 (rd_L1 x6_1 (rd x7_2 x13_3)) ((rd_L1 x6_1 (rd x7_2 x13_3)).length : Int) (wrap64 (x120_4 + 1))) else (none)) else (comp_ids.l4 k4 l1 y148 x6_1 x7_4 y142 (rd_L1 x6_1 (rd x7_2 x13_3)) ((rd_L1 x6_1 (rd x7_2 x13_3)).length : Int) (wrap64 (x120_4 + 1)))) = some r := by first | (rw [hy148]; with_reducible exact H) | (have H2_ := (Option.bind_some _ _).symm.trans H; rw [hy148]; with_reducible exact H2_) | (have H2_ := (Option.bind_some _ _).symm.trans H; with_reducible exact H2_) | with_reducible exact H | (rw [hy148]; exact H) | exact H
                             have Ny148 := Aside0.mk hy148
                             clear hy148
                             by_cases c75 : (rd y148 (rd (rd_L1 x6_1 (rd x7_2 x13_3)) x120_4)) = 0
                             ·rw [if_pos c75] at H
                              have c75b0 : ((rd y148 (rd (rd_L1 x6_1 (rd x7_2 x13_3)) x120_4)) == 0) = true := beq_iff_eq.mpr c75
                              have c75b1 : ((rd y148 (rd (rd_L1 x6_1 (rd x7_2 x13_3)) x120_4)) != 0) = false := bne_eq_false_iff_eq.mpr c75
                              clear c75
                              by_cases c76 : x7_4.length < 17592186044416
                              ·rw [if_pos c76] at H
                               have LMc76 := Aside0.mk c76
                               clear c76
                               obtain ⟨y150, hy150⟩ : ∃ y_ : List Int, y_ = (x7_4 ++ [rd (rd_L1 x6_1 (rd x7_2 x13_3)) x120_4]) := ⟨_, rfl⟩
                               replace H : (comp_ids.l4 k4 l1 y148 x6_1 y150 y142 (rd_L1 x6_1 (rd x7_2 x13_3)) ((rd_L1 x6_1 (rd x7_2 x13_3)).length : Int) (wrap64 (x120_4 + 1))) = some r := by first | (rw [hy150]; with_reducible exact H) | (have H2_ := (Option.bind_some _ _).symm.trans H; rw [hy150]; with_reducible exact H2_) | (have H2_ := (Option.bind_some _ _).symm.trans H; with_reducible exact H2_) | with_reducible exact H | (rw [hy150]; exact H) | exact H
                               have Ny150 := Aside0.mk hy150
                               clear hy150
                               have H' := Aside0.mk H
                               clear H
                               have p146 : 0 ≤ (x120_4 : Int) := of_decide_eq_true (by first | (with_reducible assumption) | assumption)
                               have q146 : x120_4 < ((rd_L1 x6_1 (rd x7_2 x13_3)).length : Int) := of_decide_eq_true (by first | (with_reducible assumption) | assumption)
                               obtain ⟨ad146, e146, hx146_0⟩ := Kd.at_int (Kd.R_reads' HO_118.out).2.2 x120_4 p146 q146
                               cases e146
                               skip
                               replace p146 := eq_true p146
                               replace q146 := eq_true q146
                               obtain ⟨Ao77, co77, eo77⟩ := Kd.R_slice HO_5.out
                               subst eo77
                               have p147 : 0 ≤ ((rd (rd_L1 x6_1 (rd x7_2 x13_3)) x120_4) : Int) := of_decide_eq_true (by first | (with_reducible assumption) | assumption)
                               have q147 : (rd (rd_L1 x6_1 (rd x7_2 x13_3)) x120_4) < (x5_4.length : Int) := of_decide_eq_true (by first | (with_reducible assumption) | assumption)
                               obtain ⟨ad147, e147, hx147_0⟩ := Kd.at_int (Kd.R_reads' HO_5.out).2.2 (rd (rd_L1 x6_1 (rd x7_2 x13_3)) x120_4) p147 q147
                               cases e147
                               replace p147 := eq_true p147
                               replace q147 := eq_true q147
                               have p74 : 0 ≤ ((rd (rd_L1 x6_1 (rd x7_2 x13_3)) x120_4) : Int) := of_decide_eq_true (by first | (with_reducible assumption) | assumption)
                               have q74 : ((rd (rd_L1 x6_1 (rd x7_2 x13_3)) x120_4) : Int) < ((x5_4.length : Int) : Int) := of_decide_eq_true (by first | (with_reducible assumption) | assumption)
                               obtain ⟨go74, co74, eo74, gb74, gl74, cl74, HG74⟩ := Kd.R_form HO_5.out (by omega)
                               (first | cases eo74 | (injection eo74 with ea_ en_ ec_; (first | subst ea_ | (injection ea_ with ea_; subst ea_)); subst ec_; clear en_))
                               have GB74 := Aside0.mk gb74
                               have GG74 := Aside0.mk HG74
                               clear gb74 gl74 HG74
                               (first | simp only [add_plain] at hx147_0 | skip)
                               obtain ⟨hx74_0, hf74_0⟩ := Kd.R_celln 0 HO_5.out ((rd (rd_L1 x6_1 (rd x7_2 x13_3)) x120_4) : Int) p74 q74
                               replace p74 := eq_true p74
                               replace q74 := eq_true q74
                               have HP78 := Kd.R_putg HO_5.out ((rd (rd_L1 x6_1 (rd x7_2 x13_3)) x120_4) : Int) (wrap64 ((rd x5_4 (rd (rd_L1 x6_1 (rd x7_2 x13_3)) x120_4)) - 1))
                               go_wp2_with (first | ((with_reducible refine gate_store (t := 3) (p := 129) rfl ?_); (try (rw [drewN_self wr]; generalize hq_ : World.drewN wr _ = wr; have n0_ := Aside0.mk (Kd.R_at hq_ HO_5.out); have n1_ := Aside0.mk (Kd.S_at hq_ HO_6.out); have m1_ := Aside0.mk (Kd.R_at hq_ HO_118.out); have n2_ := Aside0.mk (Kd.R_at hq_ HO_7.out); have n3_ := Aside0.mk (Kd.R_at hq_ HO_12.out); have n4_ := Aside0.mk (below_at hq_ HB.out); clear hq_ HO_5 HO_6 HO_118 HO_7 HO_12 HB; have HO_5 := n0_; have HO_6 := n1_; have HO_118 := m1_; clear m1_; have HO_7 := n2_; have HO_12 := n3_; have HB := n4_; clear n0_ n1_ n2_ n3_ n4_; (try (have HP78 := Kd.R_putg HO_5.out ((rd (rd_L1 x6_1 (rd x7_2 x13_3)) x120_4) : Int) (wrap64 ((rd x5_4 (rd (rd_L1 x6_1 (rd x7_2 x13_3)) x120_4)) - 1)))))); refine store_event (t := 3) (p := 129) (v := ?vo_w79) (w1 := (wr.setCell ⟨go74, ((rd (rd_L1 x6_1 (rd x7_2 x13_3)) x120_4) : Int).toNat, none⟩ (.int .i64 (wrap64 ((rd x5_4 (rd (rd_L1 x6_1 (rd x7_2 x13_3)) x120_4)) - 1))))) ?hg ?ho ?hn ?hr ?_; (case ho => rfl); (case hg => rfl); (case hn => rfl); (case hr => first | (go_simp; done) | (go_simp; rfl)); intro w79 hw; have hg : wr.grownBy w79 (some go74) := (by rw [hw]; exact HP78.2); have hp_ : Kd.R (Kd.int .i64) 3 w79 w.heap.size (fun k_ => some k_ ≠ (u7 : Value).ownBlock ∧ some k_ ≠ (v143 : Value).ownBlock) (.slice (some ⟨go74, 0, none⟩) x5_4.length co77) y148 := (by rw [hw, Ny148.out]; exact HP78.1); clear HP78; have n0_ := Aside0.mk (hp_); have n1_ := Aside0.mk (Kd.S_after (v := (.slice (some ⟨go74, 0, none⟩) x5_4.length co77)) (v1 := (.slice (some ⟨go74, 0, none⟩) x5_4.length co77)) (ok := (fun k_ => some k_ ≠ (u7 : Value).ownBlock ∧ some k_ ≠ (v143 : Value).ownBlock)) (by (with_reducible repeat (first | apply Kd.S_alloc | apply Kd.S_drewN | apply Kd.S_drew)); exact Kd.S_mono HO_6.out (fun _ hk => ⟨⟨hk.2.1, hk.2.2⟩, hk.1⟩)) hg (.inl rfl)); have m1_ := Aside0.mk (Kd.R_after (v := (.slice (some ⟨go74, 0, none⟩) x5_4.length co77)) (v1 := (.slice (some ⟨go74, 0, none⟩) x5_4.length co77)) (ok := (fun k_ => some k_ ≠ (u7 : Value).ownBlock ∧ some k_ ≠ (v143 : Value).ownBlock)) (by (with_reducible repeat (first | apply Kd.R_alloc | apply Kd.R_drewN | apply Kd.R_drew)); exact Kd.R_mono HO_118.out (fun _ hk => ⟨⟨hk.2.1, hk.2.2⟩, hk.1⟩)) hg (.inl rfl)); have n2_ := Aside0.mk (Kd.R_after (v := (.slice (some ⟨go74, 0, none⟩) x5_4.length co77)) (v1 := (.slice (some ⟨go74, 0, none⟩) x5_4.length co77)) (ok := (fun k_ => some k_ ≠ (v143 : Value).ownBlock)) (by (with_reducible repeat (first | apply Kd.R_alloc | apply Kd.R_drewN | apply Kd.R_drew)); exact Kd.R_mono HO_7.out (fun _ hk => ⟨hk.2, hk.1⟩)) hg (.inl rfl)); have n3_ := Aside0.mk (Kd.R_after (v := (.slice (some ⟨go74, 0, none⟩) x5_4.length co77)) (v1 := (.slice (some ⟨go74, 0, none⟩) x5_4.length co77)) (ok := (fun k_ => some k_ ≠ (u7 : Value).ownBlock)) (by (with_reducible repeat (first | apply Kd.R_alloc | apply Kd.R_drewN | apply Kd.R_drew)); exact Kd.R_mono HO_12.out (fun _ hk => ⟨hk.2, hk.1⟩)) hg (.inl rfl)); have n4_ := Aside0.mk ((by rw [hw]; exact below_set (HB.out) GB74.out : Below w.heap.size w w79)); clear HO_5; clear HO_6; clear HO_118; clear HO_7; clear HO_12; clear HB; have HO_5 := n0_; have HO_6 := n1_; have HO_118 := m1_; clear m1_; have HO_7 := n2_; have HO_12 := n3_; have HB := n4_; clear n0_ n1_ n2_ n3_ n4_; clear hg hw hp_; have p149 : 0 ≤ ((rd (rd_L1 x6_1 (rd x7_2 x13_3)) x120_4) : Int) := of_decide_eq_true (by first | (with_reducible assumption) | assumption); have q149 : (rd (rd_L1 x6_1 (rd x7_2 x13_3)) x120_4) < (y148.length : Int) := (by have h_ : ((rd (rd_L1 x6_1 (rd x7_2 x13_3)) x120_4) : Int) < ((x5_4.length : Int) : Int) := of_decide_eq_true (by first | (with_reducible assumption) | assumption); first | (have e_ := (Kd.R_reads' HO_5.out).1; omega) | simpa only [Ny148.out, List.length_set] using h_); have ql149 : (((rd (rd_L1 x6_1 (rd x7_2 x13_3)) x120_4) : Int) < ((x5_4.length : Int) : Int)) = True := eq_true (of_decide_eq_true (by first | (with_reducible assumption) | assumption)); obtain ⟨ad149, e149, hx149_0⟩ := Kd.at_int (Kd.R_reads' HO_5.out).2.2 (rd (rd_L1 x6_1 (rd x7_2 x13_3)) x120_4) p149 q149; obtain rfl : (⟨go74, 0, none⟩ : Addr) = ad149 := (by injection e149); (first | simp only [add_plain] at hx149_0 | simp only [add_at] at hx149_0 | simp only [Addr.add, Nat.zero_add] at hx149_0 | skip); replace p149 := eq_true p149; replace q149 := eq_true q149) | ((with_reducible refine gate_builtin (b := .append) (xs := #[.tmp 135, .tmp 137]) rfl ?_); at_builtin; refine Kd.R_append (Kd.int .i64) (w0 := w) w.heap.size rfl (.tmp 135) (.tmp 137) 53 3 (.int .i64 0) 8 rfl Try.underlying53 info3 rfl (by decide) (by omega) u7 x7_4 (rd (rd_L1 x6_1 (rd x7_2 x13_3)) x120_4) [.int .i64 (rd (rd_L1 x6_1 (rd x7_2 x13_3)) x120_4)] (fun k_ => some k_ ≠ (.slice (some ⟨go74, 0, none⟩) x5_4.length co77 : Value).ownBlock ∧ some k_ ≠ (v143 : Value).ownBlock) (fun _ => False) rfl rfl ?aP (fun _ hk => hk.elim) ?aF ?aO ?aB ?aS ?aL ?_; (case aP => exact rfl); (case aB => exact (by repeat (first | (with_reducible first | exact HB.out | apply below_alloc | apply pw_below_drewN | apply below_drew1) | exact HB.out))); (case aF => exact (fun k_ hk => ⟨Kd.fresh' (Kd.R_lt (by (with_reducible repeat (first | apply Kd.R_alloc | apply Kd.R_drewN | apply Kd.R_drew)); exact HO_5.out)) k_ hk, Kd.fresh' (Kd.R_lt (by (with_reducible repeat (first | apply Kd.R_alloc | apply Kd.R_drewN | apply Kd.R_drew)); exact HO_12.out)) k_ hk⟩)); (case aO => exact (by (with_reducible repeat (first | apply Kd.R_alloc | apply Kd.R_drewN | apply Kd.R_drew)); exact Kd.R_mono HO_7.out (fun _ hk => ⟨hk.2, hk.1⟩))); (case aS => exact (below_size (by repeat (first | (with_reducible first | exact HB.out | apply below_alloc | apply pw_below_drewN | apply below_drew1) | exact HB.out)))); (case aL => have := LMc76.out; omega); intro v151 w80 ho hb hg hat; rw [← Ny150.out] at ho; have n0_ := Aside0.mk (Kd.R_after (ok := (fun k_ => some k_ ≠ (v143 : Value).ownBlock)) (by (with_reducible repeat (first | apply Kd.R_alloc | apply Kd.R_drewN | apply Kd.R_drew)); exact Kd.R_mono HO_5.out (fun _ hk => ⟨hk.2, hk.1⟩)) hg hat); have n1_ := Aside0.mk (Kd.S_after (ok := (fun k_ => some k_ ≠ (.slice (some ⟨go74, 0, none⟩) x5_4.length co77 : Value).ownBlock ∧ some k_ ≠ (v143 : Value).ownBlock)) (by (with_reducible repeat (first | apply Kd.S_alloc | apply Kd.S_drewN | apply Kd.S_drew)); exact Kd.S_mono HO_6.out (fun _ hk => ⟨⟨hk.2, hk.1.2⟩, hk.1.1⟩)) hg hat); have m1_ := Aside0.mk (Kd.R_after (ok := (fun k_ => some k_ ≠ (.slice (some ⟨go74, 0, none⟩) x5_4.length co77 : Value).ownBlock ∧ some k_ ≠ (v143 : Value).ownBlock)) (by (with_reducible repeat (first | apply Kd.R_alloc | apply Kd.R_drewN | apply Kd.R_drew)); exact Kd.R_mono HO_118.out (fun _ hk => ⟨⟨hk.2, hk.1.2⟩, hk.1.1⟩)) hg hat); have n2_ := Aside0.mk (Kd.R_after (ok := (fun k_ => some k_ ≠ (.slice (some ⟨go74, 0, none⟩) x5_4.length co77 : Value).ownBlock)) (by (with_reducible repeat (first | apply Kd.R_alloc | apply Kd.R_drewN | apply Kd.R_drew)); exact Kd.R_mono HO_12.out (fun _ hk => ⟨hk.2, hk.1⟩)) hg hat); have n3_ := Aside0.mk (hb); have n4_ := Aside0.mk (ho); clear HO_5; clear HO_6; clear HO_118; clear HO_12; clear HB; clear HO_7; have HO_5 := n0_; have HO_6 := n1_; have HO_118 := m1_; clear m1_; have HO_12 := n2_; have HB := n3_; have HO152 := n4_; clear n0_ n1_ n2_ n3_ n4_; clear ho hb hg hat))
                               go_roundg k4
                               case measure => have := HK1.out; have := HK2.out; have := HK3.out; have := HK4.out; omega
                               case rel => exact ⟨(y148), (y150), (wrap64 (x120_4 + 1)), (by first | rfl | (simp; done) | (simp [*]; done)), H', ⟨by have := HK1.out; have := HK2.out; have := HK3.out; have := HK4.out; omega⟩, ⟨by (with_reducible repeat (first | apply Kd.R_alloc | apply Kd.R_drewN | apply Kd.R_drew)); exact Kd.R_mono HO_5.out (fun _ hk => ⟨hk.2, hk.1⟩)⟩, ⟨by (with_reducible repeat (first | apply Kd.S_alloc | apply Kd.S_drewN | apply Kd.S_drew)); exact Kd.S_mono HO_6.out (fun _ hk => ⟨hk.1.1, ⟨hk.2, hk.1.2⟩⟩)⟩, ⟨by (with_reducible repeat (first | apply Kd.R_alloc | apply Kd.R_drewN | apply Kd.R_drew)); exact Kd.R_mono HO_118.out (fun _ hk => ⟨hk.1.1, ⟨hk.2, hk.1.2⟩⟩)⟩, ⟨by (with_reducible repeat (first | apply Kd.R_alloc | apply Kd.R_drewN | apply Kd.R_drew)); exact HO152.out⟩, ⟨by (with_reducible repeat (first | apply Kd.R_alloc | apply Kd.R_drewN | apply Kd.R_drew)); exact HO_12.out⟩, ⟨by repeat (first | (with_reducible first | exact HB.out | apply below_alloc | apply pw_below_drewN | apply below_drew1) | exact HB.out)⟩⟩
                              ·rw [if_neg c76] at H
                               exact absurd H (by simp)
                             ·rw [if_neg c75] at H
                              have c75b0 : ((rd y148 (rd (rd_L1 x6_1 (rd x7_2 x13_3)) x120_4)) == 0) = false := beq_eq_false_iff_ne.mpr c75
                              have c75b1 : ((rd y148 (rd (rd_L1 x6_1 (rd x7_2 x13_3)) x120_4)) != 0) = true := bne_iff_ne.mpr c75
                              have H' := Aside0.mk H
                              clear H
                              have p146 : 0 ≤ (x120_4 : Int) := of_decide_eq_true (by first | (with_reducible assumption) | assumption)
                              have q146 : x120_4 < ((rd_L1 x6_1 (rd x7_2 x13_3)).length : Int) := of_decide_eq_true (by first | (with_reducible assumption) | assumption)
                              obtain ⟨ad146, e146, hx146_0⟩ := Kd.at_int (Kd.R_reads' HO_118.out).2.2 x120_4 p146 q146
                              cases e146
                              skip
                              replace p146 := eq_true p146
                              replace q146 := eq_true q146
                              obtain ⟨Ao81, co81, eo81⟩ := Kd.R_slice HO_5.out
                              subst eo81
                              have p147 : 0 ≤ ((rd (rd_L1 x6_1 (rd x7_2 x13_3)) x120_4) : Int) := of_decide_eq_true (by first | (with_reducible assumption) | assumption)
                              have q147 : (rd (rd_L1 x6_1 (rd x7_2 x13_3)) x120_4) < (x5_4.length : Int) := of_decide_eq_true (by first | (with_reducible assumption) | assumption)
                              obtain ⟨ad147, e147, hx147_0⟩ := Kd.at_int (Kd.R_reads' HO_5.out).2.2 (rd (rd_L1 x6_1 (rd x7_2 x13_3)) x120_4) p147 q147
                              cases e147
                              replace p147 := eq_true p147
                              replace q147 := eq_true q147
                              have p74 : 0 ≤ ((rd (rd_L1 x6_1 (rd x7_2 x13_3)) x120_4) : Int) := of_decide_eq_true (by first | (with_reducible assumption) | assumption)
                              have q74 : ((rd (rd_L1 x6_1 (rd x7_2 x13_3)) x120_4) : Int) < ((x5_4.length : Int) : Int) := of_decide_eq_true (by first | (with_reducible assumption) | assumption)
                              obtain ⟨go74, co74, eo74, gb74, gl74, cl74, HG74⟩ := Kd.R_form HO_5.out (by omega)
                              (first | cases eo74 | (injection eo74 with ea_ en_ ec_; (first | subst ea_ | (injection ea_ with ea_; subst ea_)); subst ec_; clear en_))
                              have GB74 := Aside0.mk gb74
                              have GG74 := Aside0.mk HG74
                              clear gb74 gl74 HG74
                              (first | simp only [add_plain] at hx147_0 | skip)
                              obtain ⟨hx74_0, hf74_0⟩ := Kd.R_celln 0 HO_5.out ((rd (rd_L1 x6_1 (rd x7_2 x13_3)) x120_4) : Int) p74 q74
                              replace p74 := eq_true p74
                              replace q74 := eq_true q74
                              have HP82 := Kd.R_putg HO_5.out ((rd (rd_L1 x6_1 (rd x7_2 x13_3)) x120_4) : Int) (wrap64 ((rd x5_4 (rd (rd_L1 x6_1 (rd x7_2 x13_3)) x120_4)) - 1))
                              go_wp2_with (first | ((with_reducible refine gate_store (t := 3) (p := 129) rfl ?_); (try (rw [drewN_self wr]; generalize hq_ : World.drewN wr _ = wr; have n0_ := Aside0.mk (Kd.R_at hq_ HO_5.out); have n1_ := Aside0.mk (Kd.S_at hq_ HO_6.out); have m1_ := Aside0.mk (Kd.R_at hq_ HO_118.out); have n2_ := Aside0.mk (Kd.R_at hq_ HO_7.out); have n3_ := Aside0.mk (Kd.R_at hq_ HO_12.out); have n4_ := Aside0.mk (below_at hq_ HB.out); clear hq_ HO_5 HO_6 HO_118 HO_7 HO_12 HB; have HO_5 := n0_; have HO_6 := n1_; have HO_118 := m1_; clear m1_; have HO_7 := n2_; have HO_12 := n3_; have HB := n4_; clear n0_ n1_ n2_ n3_ n4_; (try (have HP82 := Kd.R_putg HO_5.out ((rd (rd_L1 x6_1 (rd x7_2 x13_3)) x120_4) : Int) (wrap64 ((rd x5_4 (rd (rd_L1 x6_1 (rd x7_2 x13_3)) x120_4)) - 1)))))); refine store_event (t := 3) (p := 129) (v := ?vo_w83) (w1 := (wr.setCell ⟨go74, ((rd (rd_L1 x6_1 (rd x7_2 x13_3)) x120_4) : Int).toNat, none⟩ (.int .i64 (wrap64 ((rd x5_4 (rd (rd_L1 x6_1 (rd x7_2 x13_3)) x120_4)) - 1))))) ?hg ?ho ?hn ?hr ?_; (case ho => rfl); (case hg => rfl); (case hn => rfl); (case hr => first | (go_simp; done) | (go_simp; rfl)); intro w83 hw; have hg : wr.grownBy w83 (some go74) := (by rw [hw]; exact HP82.2); have hp_ : Kd.R (Kd.int .i64) 3 w83 w.heap.size (fun k_ => some k_ ≠ (u7 : Value).ownBlock ∧ some k_ ≠ (v143 : Value).ownBlock) (.slice (some ⟨go74, 0, none⟩) x5_4.length co81) y148 := (by rw [hw, Ny148.out]; exact HP82.1); clear HP82; have n0_ := Aside0.mk (hp_); have n1_ := Aside0.mk (Kd.S_after (v := (.slice (some ⟨go74, 0, none⟩) x5_4.length co81)) (v1 := (.slice (some ⟨go74, 0, none⟩) x5_4.length co81)) (ok := (fun k_ => some k_ ≠ (u7 : Value).ownBlock ∧ some k_ ≠ (v143 : Value).ownBlock)) (by (with_reducible repeat (first | apply Kd.S_alloc | apply Kd.S_drewN | apply Kd.S_drew)); exact Kd.S_mono HO_6.out (fun _ hk => ⟨⟨hk.2.1, hk.2.2⟩, hk.1⟩)) hg (.inl rfl)); have m1_ := Aside0.mk (Kd.R_after (v := (.slice (some ⟨go74, 0, none⟩) x5_4.length co81)) (v1 := (.slice (some ⟨go74, 0, none⟩) x5_4.length co81)) (ok := (fun k_ => some k_ ≠ (u7 : Value).ownBlock ∧ some k_ ≠ (v143 : Value).ownBlock)) (by (with_reducible repeat (first | apply Kd.R_alloc | apply Kd.R_drewN | apply Kd.R_drew)); exact Kd.R_mono HO_118.out (fun _ hk => ⟨⟨hk.2.1, hk.2.2⟩, hk.1⟩)) hg (.inl rfl)); have n2_ := Aside0.mk (Kd.R_after (v := (.slice (some ⟨go74, 0, none⟩) x5_4.length co81)) (v1 := (.slice (some ⟨go74, 0, none⟩) x5_4.length co81)) (ok := (fun k_ => some k_ ≠ (v143 : Value).ownBlock)) (by (with_reducible repeat (first | apply Kd.R_alloc | apply Kd.R_drewN | apply Kd.R_drew)); exact Kd.R_mono HO_7.out (fun _ hk => ⟨hk.2, hk.1⟩)) hg (.inl rfl)); have n3_ := Aside0.mk (Kd.R_after (v := (.slice (some ⟨go74, 0, none⟩) x5_4.length co81)) (v1 := (.slice (some ⟨go74, 0, none⟩) x5_4.length co81)) (ok := (fun k_ => some k_ ≠ (u7 : Value).ownBlock)) (by (with_reducible repeat (first | apply Kd.R_alloc | apply Kd.R_drewN | apply Kd.R_drew)); exact Kd.R_mono HO_12.out (fun _ hk => ⟨hk.2, hk.1⟩)) hg (.inl rfl)); have n4_ := Aside0.mk ((by rw [hw]; exact below_set (HB.out) GB74.out : Below w.heap.size w w83)); clear HO_5; clear HO_6; clear HO_118; clear HO_7; clear HO_12; clear HB; have HO_5 := n0_; have HO_6 := n1_; have HO_118 := m1_; clear m1_; have HO_7 := n2_; have HO_12 := n3_; have HB := n4_; clear n0_ n1_ n2_ n3_ n4_; clear hg hw hp_; have p149 : 0 ≤ ((rd (rd_L1 x6_1 (rd x7_2 x13_3)) x120_4) : Int) := of_decide_eq_true (by first | (with_reducible assumption) | assumption); have q149 : (rd (rd_L1 x6_1 (rd x7_2 x13_3)) x120_4) < (y148.length : Int) := (by have h_ : ((rd (rd_L1 x6_1 (rd x7_2 x13_3)) x120_4) : Int) < ((x5_4.length : Int) : Int) := of_decide_eq_true (by first | (with_reducible assumption) | assumption); first | (have e_ := (Kd.R_reads' HO_5.out).1; omega) | simpa only [Ny148.out, List.length_set] using h_); have ql149 : (((rd (rd_L1 x6_1 (rd x7_2 x13_3)) x120_4) : Int) < ((x5_4.length : Int) : Int)) = True := eq_true (of_decide_eq_true (by first | (with_reducible assumption) | assumption)); obtain ⟨ad149, e149, hx149_0⟩ := Kd.at_int (Kd.R_reads' HO_5.out).2.2 (rd (rd_L1 x6_1 (rd x7_2 x13_3)) x120_4) p149 q149; obtain rfl : (⟨go74, 0, none⟩ : Addr) = ad149 := (by injection e149); (first | simp only [add_plain] at hx149_0 | simp only [add_at] at hx149_0 | simp only [Addr.add, Nat.zero_add] at hx149_0 | skip); replace p149 := eq_true p149; replace q149 := eq_true q149))
                              go_roundg k4
                              case measure => have := HK1.out; have := HK2.out; have := HK3.out; have := HK4.out; omega
                              case rel => exact ⟨(y148), (x7_4), (wrap64 (x120_4 + 1)), (by first | rfl | (simp; done) | (simp [*]; done)), H', ⟨by have := HK1.out; have := HK2.out; have := HK3.out; have := HK4.out; omega⟩, ⟨by (with_reducible repeat (first | apply Kd.R_alloc | apply Kd.R_drewN | apply Kd.R_drew)); exact HO_5.out⟩, ⟨by (with_reducible repeat (first | apply Kd.S_alloc | apply Kd.S_drewN | apply Kd.S_drew)); exact Kd.S_mono HO_6.out (fun _ hk => ⟨hk.2, ⟨hk.1.1, hk.1.2⟩⟩)⟩, ⟨by (with_reducible repeat (first | apply Kd.R_alloc | apply Kd.R_drewN | apply Kd.R_drew)); exact Kd.R_mono HO_118.out (fun _ hk => ⟨hk.2, ⟨hk.1.1, hk.1.2⟩⟩)⟩, ⟨by (with_reducible repeat (first | apply Kd.R_alloc | apply Kd.R_drewN | apply Kd.R_drew)); exact Kd.R_mono HO_7.out (fun _ hk => ⟨hk.2, hk.1⟩)⟩, ⟨by (with_reducible repeat (first | apply Kd.R_alloc | apply Kd.R_drewN | apply Kd.R_drew)); exact Kd.R_mono HO_12.out (fun _ hk => ⟨hk.2, hk.1⟩)⟩, ⟨by repeat (first | (with_reducible first | exact HB.out | apply below_alloc | apply pw_below_drewN | apply below_drew1) | exact HB.out)⟩⟩
                            ·rw [if_neg c73] at H
                             exact absurd H (by simp)
                           ·rw [if_neg c72] at H
                            exact absurd H (by simp)
                          ·rw [if_neg c71] at H
                           exact absurd H (by simp)
                         ·rw [if_neg c70] at H
                          exact absurd H (by simp)
                        ·rw [if_neg c69] at H
                         have c69b0 : decide (x120_4 < ((rd_L1 x6_1 (rd x7_2 x13_3)).length : Int)) = false := decide_eq_false c69
                         clear c69
                         have H' := Aside0.mk H
                         clear H
                         go_wp2
                         repeat (go_quiet (fail); try go_wp2)
                         go_roundg k4
                         case measure => have := HK1.out; have := HK2.out; have := HK3.out; have := HK4.out; omega
                         case rel => exact ⟨(x5_4), (x7_4), (y142), H', ⟨by have := HK1.out; have := HK2.out; have := HK3.out; have := HK4.out; omega⟩, ⟨by (with_reducible repeat (first | apply Kd.R_alloc | apply Kd.R_drewN | apply Kd.R_drew)); exact HO_5.out⟩, ⟨by (with_reducible repeat (first | apply Kd.S_alloc | apply Kd.S_drewN | apply Kd.S_drew)); exact HO_6.out⟩, ⟨by (with_reducible repeat (first | apply Kd.R_alloc | apply Kd.R_drewN | apply Kd.R_drew)); exact HO_7.out⟩, ⟨by (with_reducible repeat (first | apply Kd.R_alloc | apply Kd.R_drewN | apply Kd.R_drew)); exact HO_12.out⟩, ⟨by repeat (first | (with_reducible first | exact HB.out | apply below_alloc | apply pw_below_drewN | apply below_drew1) | exact HB.out)⟩⟩
                     ·rw [if_neg c62] at H
                      exact absurd H (by simp)
                    ·rw [if_neg c61] at H
                     exact absurd H (by simp)
                   ·rw [if_neg c60] at H
                    exact absurd H (by simp)
                  ·rw [if_neg c59] at H
                   exact absurd H (by simp)
                 ·rw [if_neg c58] at H
                  exact absurd H (by simp)
                ·rw [if_neg c57] at H
                 exact absurd H (by simp)
               ·rw [if_neg c55] at H
                exact absurd H (by simp)
              ·rw [if_neg c53] at H
               exact absurd H (by simp)
             ·rw [if_neg c52] at H
              exact absurd H (by simp)
         ·rw [if_neg c38] at H
          have c38b0 : decide (0 < (x7_2.length : Int)) = false := decide_eq_false c38
          have c38b1 : decide (0 < x7_2.length) = false := decide_eq_false (by omega)
          clear c38
          obtain rfl := Option.some.inj H
          obtain ⟨Ao84, co84, eo84⟩ := Kd.R_slice HO_7.out
          subst eo84
          go_wp2
          repeat (go_quiet (fail); try go_wp2)
          go_ret
          exact ⟨_, rfl, by rw [← HRR.out]; exact out_rows HSS.out HBW.out.size HB.out HO_12.out HND.out.1 HND.out.2, HBW.out.trans (HB.out.mono HBW.out.size)⟩
   ·rw [if_neg c6] at H
    exact absurd H (by simp)
  ·rw [if_neg c5] at H
   exact absurd H (by simp)
 ·rw [if_neg c4] at H
  exact absurd H (by simp)

end Go.Proofs.Ytkgkhakjodlpgaa.Cv
