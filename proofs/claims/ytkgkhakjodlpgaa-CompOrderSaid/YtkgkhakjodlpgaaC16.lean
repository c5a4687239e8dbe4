/- Functions of the program as plain Lean functions, and that each call comes to what they say; printed by a program. -/
import Derived.Test.YtkgkhakjodlpgaaC0
import Derived.Test.YtkgkhakjodlpgaaC1
import Derived.Test.YtkgkhakjodlpgaaC3
import Derived.Test.YtkgkhakjodlpgaaC5
import Derived.Test.YtkgkhakjodlpgaaC13
import Derived.Test.YtkgkhakjodlpgaaWTab
namespace Go.Proofs.Ytkgkhakjodlpgaa.C
open Go.RowKit Go.Proofs.YtkgkhakjodlpgaaW.PrintWords Go.Proofs.YtkgkhakjodlpgaaW.PrintLast Go.Proofs.YtkgkhakjodlpgaaW.PrintMore Go.Proofs.Ytkgkhakjodlpgaa.Ext Go.Proofs.Ytkgkhakjodlpgaa.Ca Go.Proofs.Ytkgkhakjodlpgaa.Cv
attribute [local go_sem] max2_int min2_int max_two min_two max_three min_three max_four min_four   -- for this text's walks alone
set_option linter.unusedVariables false
set_option linter.unusedSimpArgs false

/-! ### runnellaw13_CompOrder: function 9 -/
mutual
def runnellaw13_CompOrder.j0 : Nat → List (List Int) → Bool → Bool → Option (Bool)
  | 0, _, _, _ => none
  | k + 1, x0, x3, x19 => if x19 = true then (some x3) else ((comp_Components.f k x0).bind fun t103 => ((comp_Above.f k x0).bind fun t106 => (if (t106.length : Int) = (t103.length : Int) then (runnellaw13_CompOrder.l0 k x0 t103 t106 0) else (some false))))
def runnellaw13_CompOrder.l0 : Nat → List (List Int) → List (List Int) → List (List Int) → Int → Option (Bool)
  | 0, _, _, _, _ => none
  | k + 1, x0, x5, x6, x7 => if x7 < (x6.length : Int) then (runnellaw13_CompOrder.l1 k x0 x5 x6 x7 0) else (some true)
def runnellaw13_CompOrder.l1 : Nat → List (List Int) → List (List Int) → List (List Int) → Int → Int → Option (Bool)
  | 0, _, _, _, _, _ => none
  | k + 1, x0, x5, x6, x7, x8 => if 0 ≤ x7 then (if x7 < (x6.length : Int) then (if x8 < ((rd_L1 x6 x7).length : Int) then (if 0 ≤ x8 then (if (rd (rd_L1 x6 x7) x8) < 0 then (runnellaw13_CompOrder.j3 k x0 x5 x6 x7 x8 true) else (if (rd (rd_L1 x6 x7) x8) ≥ x7 then (runnellaw13_CompOrder.j3 k x0 x5 x6 x7 x8 true) else (if x8 > 0 then (if 0 ≤ (wrap64 (x8 - 1)) then (if (wrap64 (x8 - 1)) < ((rd_L1 x6 x7).length : Int) then (runnellaw13_CompOrder.j3 k x0 x5 x6 x7 x8 (decide ((rd (rd_L1 x6 x7) x8) ≤ (rd (rd_L1 x6 x7) (wrap64 (x8 - 1)))))) else (none)) else (none)) else (runnellaw13_CompOrder.j3 k x0 x5 x6 x7 x8 false)))) else (none)) else (runnellaw13_CompOrder.l2 k x0 x5 x6 x7 0)) else (none)) else (none)
def runnellaw13_CompOrder.j3 : Nat → List (List Int) → List (List Int) → List (List Int) → Int → Int → Bool → Option (Bool)
  | 0, _, _, _, _, _, _ => none
  | k + 1, x0, x5, x6, x7, x8, x85 => if x85 = true then (some false) else (runnellaw13_CompOrder.l1 k x0 x5 x6 x7 (wrap64 (x8 + 1)))
def runnellaw13_CompOrder.l2 : Nat → List (List Int) → List (List Int) → List (List Int) → Int → Int → Option (Bool)
  | 0, _, _, _, _, _ => none
  | k + 1, x0, x5, x6, x7, x9 => if 0 ≤ x7 then (if x7 < (x5.length : Int) then (if x9 < ((rd_L1 x5 x7).length : Int) then (if 0 ≤ x9 then ((comp_Cyclic.f k x0 (rd (rd_L1 x5 x7) x9)).bind fun t121 => (if ((rd_L1 x5 x7).length : Int) > 1 then (runnellaw13_CompOrder.j5 k x0 x5 x6 x7 x9 (t121 != true)) else (if 0 ≤ (rd (rd_L1 x5 x7) x9) then (if (rd (rd_L1 x5 x7) x9) < (x0.length : Int) then ((runnellaw13_among.f k (rd_L1 x0 (rd (rd_L1 x5 x7) x9)) (rd (rd_L1 x5 x7) x9)).bind fun t124 => (runnellaw13_CompOrder.j5 k x0 x5 x6 x7 x9 (t121 != t124))) else (none)) else (none)))) else (none)) else (runnellaw13_CompOrder.l0 k x0 x5 x6 (wrap64 (x7 + 1)))) else (none)) else (none)
def runnellaw13_CompOrder.j5 : Nat → List (List Int) → List (List Int) → List (List Int) → Int → Int → Bool → Option (Bool)
  | 0, _, _, _, _, _, _ => none
  | k + 1, x0, x5, x6, x7, x9, x119 => if x119 = true then (some false) else (runnellaw13_CompOrder.l2 k x0 x5 x6 x7 (wrap64 (x9 + 1)))
end
def runnellaw13_CompOrder.f (k : Nat) (l0 : List (List Int)) : Option (Bool) := (runnellaw13_shown.f k).bind fun t101 => ((runnellaw13_small.f k l0).bind fun t102 => (if t101 = true then (runnellaw13_CompOrder.j0 k l0 t101 (!t102)) else (runnellaw13_CompOrder.j0 k l0 t101 true)))
theorem runnellaw13_CompOrder.mono_l : ∀ k, (∀ y0 y1 y2, LeO (runnellaw13_CompOrder.j0 k y0 y1 y2) (runnellaw13_CompOrder.j0 (k + 1) y0 y1 y2)) ∧ (∀ y0 y1 y2 y3, LeO (runnellaw13_CompOrder.l0 k y0 y1 y2 y3) (runnellaw13_CompOrder.l0 (k + 1) y0 y1 y2 y3)) ∧ (∀ y0 y1 y2 y3 y4, LeO (runnellaw13_CompOrder.l1 k y0 y1 y2 y3 y4) (runnellaw13_CompOrder.l1 (k + 1) y0 y1 y2 y3 y4)) ∧ (∀ y0 y1 y2 y3 y4 y5, LeO (runnellaw13_CompOrder.j3 k y0 y1 y2 y3 y4 y5) (runnellaw13_CompOrder.j3 (k + 1) y0 y1 y2 y3 y4 y5)) ∧ (∀ y0 y1 y2 y3 y4, LeO (runnellaw13_CompOrder.l2 k y0 y1 y2 y3 y4) (runnellaw13_CompOrder.l2 (k + 1) y0 y1 y2 y3 y4)) ∧ (∀ y0 y1 y2 y3 y4 y5, LeO (runnellaw13_CompOrder.j5 k y0 y1 y2 y3 y4 y5) (runnellaw13_CompOrder.j5 (k + 1) y0 y1 y2 y3 y4 y5))
  | 0 => ⟨fun _ _ _ r h => by simp [runnellaw13_CompOrder.j0] at h, fun _ _ _ _ r h => by simp [runnellaw13_CompOrder.l0] at h, fun _ _ _ _ _ r h => by simp [runnellaw13_CompOrder.l1] at h, fun _ _ _ _ _ _ r h => by simp [runnellaw13_CompOrder.j3] at h, fun _ _ _ _ _ r h => by simp [runnellaw13_CompOrder.l2] at h, fun _ _ _ _ _ _ r h => by simp [runnellaw13_CompOrder.j5] at h⟩
  | k + 1 => by
    obtain ⟨ih0, ih1, ih2, ih3, ih4, ih5⟩ := runnellaw13_CompOrder.mono_l k
    refine ⟨?_, ?_, ?_, ?_, ?_, ?_⟩
    · intro y0 y1 y2
      unfold runnellaw13_CompOrder.j0
      repeat' first
      | (with_reducible exact ih0 _ _ _)
      | (with_reducible exact ih1 _ _ _ _)
      | (with_reducible exact ih2 _ _ _ _ _)
      | (with_reducible exact ih3 _ _ _ _ _ _)
      | (with_reducible exact ih4 _ _ _ _ _)
      | (with_reducible exact ih5 _ _ _ _ _ _)
      | (with_reducible exact comp_Above.mono _ _)
      | (with_reducible exact comp_Components.mono _ _)
      | (with_reducible exact comp_Cyclic.mono _ _ _)
      | (with_reducible exact runnellaw13_among.mono _ _ _)
      | (with_reducible exact runnellaw13_shown.mono _)
      | (with_reducible exact runnellaw13_small.mono _ _)
      | (with_reducible exact LeO.refl _)
      | (with_reducible exact LeO.none _)
      | (with_reducible refine LeO.ite ?_ ?_)
      | (with_reducible refine LeO.bind ?_ (fun _ => ?_))
      | exact ih0 _ _ _
      | exact ih1 _ _ _ _
      | exact ih2 _ _ _ _ _
      | exact ih3 _ _ _ _ _ _
      | exact ih4 _ _ _ _ _
      | exact ih5 _ _ _ _ _ _
      | exact comp_Above.mono _ _
      | exact comp_Components.mono _ _
      | exact comp_Cyclic.mono _ _ _
      | exact runnellaw13_among.mono _ _ _
      | exact runnellaw13_shown.mono _
      | exact runnellaw13_small.mono _ _
      | exact LeO.none _
      | refine LeO.ite ?_ ?_
      | refine LeO.bind ?_ (fun _ => ?_)
    · intro y0 y1 y2 y3
      unfold runnellaw13_CompOrder.l0
      repeat' first
      | (with_reducible exact ih0 _ _ _)
      | (with_reducible exact ih1 _ _ _ _)
      | (with_reducible exact ih2 _ _ _ _ _)
      | (with_reducible exact ih3 _ _ _ _ _ _)
      | (with_reducible exact ih4 _ _ _ _ _)
      | (with_reducible exact ih5 _ _ _ _ _ _)
      | (with_reducible exact comp_Above.mono _ _)
      | (with_reducible exact comp_Components.mono _ _)
      | (with_reducible exact comp_Cyclic.mono _ _ _)
      | (with_reducible exact runnellaw13_among.mono _ _ _)
      | (with_reducible exact runnellaw13_shown.mono _)
      | (with_reducible exact runnellaw13_small.mono _ _)
      | (with_reducible exact LeO.refl _)
      | (with_reducible exact LeO.none _)
      | (with_reducible refine LeO.ite ?_ ?_)
      | (with_reducible refine LeO.bind ?_ (fun _ => ?_))
      | exact ih0 _ _ _
      | exact ih1 _ _ _ _
      | exact ih2 _ _ _ _ _
      | exact ih3 _ _ _ _ _ _
      | exact ih4 _ _ _ _ _
      | exact ih5 _ _ _ _ _ _
      | exact comp_Above.mono _ _
      | exact comp_Components.mono _ _
      | exact comp_Cyclic.mono _ _ _
      | exact runnellaw13_among.mono _ _ _
      | exact runnellaw13_shown.mono _
      | exact runnellaw13_small.mono _ _
      | exact LeO.none _
      | refine LeO.ite ?_ ?_
      | refine LeO.bind ?_ (fun _ => ?_)
    · intro y0 y1 y2 y3 y4
      unfold runnellaw13_CompOrder.l1
      repeat' first
      | (with_reducible exact ih0 _ _ _)
      | (with_reducible exact ih1 _ _ _ _)
      | (with_reducible exact ih2 _ _ _ _ _)
      | (with_reducible exact ih3 _ _ _ _ _ _)
      | (with_reducible exact ih4 _ _ _ _ _)
      | (with_reducible exact ih5 _ _ _ _ _ _)
      | (with_reducible exact comp_Above.mono _ _)
      | (with_reducible exact comp_Components.mono _ _)
      | (with_reducible exact comp_Cyclic.mono _ _ _)
      | (with_reducible exact runnellaw13_among.mono _ _ _)
      | (with_reducible exact runnellaw13_shown.mono _)
      | (with_reducible exact runnellaw13_small.mono _ _)
      | (with_reducible exact LeO.refl _)
      | (with_reducible exact LeO.none _)
      | (with_reducible refine LeO.ite ?_ ?_)
      | (with_reducible refine LeO.bind ?_ (fun _ => ?_))
      | exact ih0 _ _ _
      | exact ih1 _ _ _ _
      | exact ih2 _ _ _ _ _
      | exact ih3 _ _ _ _ _ _
      | exact ih4 _ _ _ _ _
      | exact ih5 _ _ _ _ _ _
      | exact comp_Above.mono _ _
      | exact comp_Components.mono _ _
      | exact comp_Cyclic.mono _ _ _
      | exact runnellaw13_among.mono _ _ _
      | exact runnellaw13_shown.mono _
      | exact runnellaw13_small.mono _ _
      | exact LeO.none _
      | refine LeO.ite ?_ ?_
      | refine LeO.bind ?_ (fun _ => ?_)
    · intro y0 y1 y2 y3 y4 y5
      unfold runnellaw13_CompOrder.j3
      repeat' first
      | (with_reducible exact ih0 _ _ _)
      | (with_reducible exact ih1 _ _ _ _)
      | (with_reducible exact ih2 _ _ _ _ _)
      | (with_reducible exact ih3 _ _ _ _ _ _)
      | (with_reducible exact ih4 _ _ _ _ _)
      | (with_reducible exact ih5 _ _ _ _ _ _)
      | (with_reducible exact comp_Above.mono _ _)
      | (with_reducible exact comp_Components.mono _ _)
      | (with_reducible exact comp_Cyclic.mono _ _ _)
      | (with_reducible exact runnellaw13_among.mono _ _ _)
      | (with_reducible exact runnellaw13_shown.mono _)
      | (with_reducible exact runnellaw13_small.mono _ _)
      | (with_reducible exact LeO.refl _)
      | (with_reducible exact LeO.none _)
      | (with_reducible refine LeO.ite ?_ ?_)
      | (with_reducible refine LeO.bind ?_ (fun _ => ?_))
      | exact ih0 _ _ _
      | exact ih1 _ _ _ _
      | exact ih2 _ _ _ _ _
      | exact ih3 _ _ _ _ _ _
      | exact ih4 _ _ _ _ _
      | exact ih5 _ _ _ _ _ _
      | exact comp_Above.mono _ _
      | exact comp_Components.mono _ _
      | exact comp_Cyclic.mono _ _ _
      | exact runnellaw13_among.mono _ _ _
      | exact runnellaw13_shown.mono _
      | exact runnellaw13_small.mono _ _
      | exact LeO.none _
      | refine LeO.ite ?_ ?_
      | refine LeO.bind ?_ (fun _ => ?_)
    · intro y0 y1 y2 y3 y4
      unfold runnellaw13_CompOrder.l2
      repeat' first
      | (with_reducible exact ih0 _ _ _)
      | (with_reducible exact ih1 _ _ _ _)
      | (with_reducible exact ih2 _ _ _ _ _)
      | (with_reducible exact ih3 _ _ _ _ _ _)
      | (with_reducible exact ih4 _ _ _ _ _)
      | (with_reducible exact ih5 _ _ _ _ _ _)
      | (with_reducible exact comp_Above.mono _ _)
      | (with_reducible exact comp_Components.mono _ _)
      | (with_reducible exact comp_Cyclic.mono _ _ _)
      | (with_reducible exact runnellaw13_among.mono _ _ _)
      | (with_reducible exact runnellaw13_shown.mono _)
      | (with_reducible exact runnellaw13_small.mono _ _)
      | (with_reducible exact LeO.refl _)
      | (with_reducible exact LeO.none _)
      | (with_reducible refine LeO.ite ?_ ?_)
      | (with_reducible refine LeO.bind ?_ (fun _ => ?_))
      | exact ih0 _ _ _
      | exact ih1 _ _ _ _
      | exact ih2 _ _ _ _ _
      | exact ih3 _ _ _ _ _ _
      | exact ih4 _ _ _ _ _
      | exact ih5 _ _ _ _ _ _
      | exact comp_Above.mono _ _
      | exact comp_Components.mono _ _
      | exact comp_Cyclic.mono _ _ _
      | exact runnellaw13_among.mono _ _ _
      | exact runnellaw13_shown.mono _
      | exact runnellaw13_small.mono _ _
      | exact LeO.none _
      | refine LeO.ite ?_ ?_
      | refine LeO.bind ?_ (fun _ => ?_)
    · intro y0 y1 y2 y3 y4 y5
      unfold runnellaw13_CompOrder.j5
      repeat' first
      | (with_reducible exact ih0 _ _ _)
      | (with_reducible exact ih1 _ _ _ _)
      | (with_reducible exact ih2 _ _ _ _ _)
      | (with_reducible exact ih3 _ _ _ _ _ _)
      | (with_reducible exact ih4 _ _ _ _ _)
      | (with_reducible exact ih5 _ _ _ _ _ _)
      | (with_reducible exact comp_Above.mono _ _)
      | (with_reducible exact comp_Components.mono _ _)
      | (with_reducible exact comp_Cyclic.mono _ _ _)
      | (with_reducible exact runnellaw13_among.mono _ _ _)
      | (with_reducible exact runnellaw13_shown.mono _)
      | (with_reducible exact runnellaw13_small.mono _ _)
      | (with_reducible exact LeO.refl _)
      | (with_reducible exact LeO.none _)
      | (with_reducible refine LeO.ite ?_ ?_)
      | (with_reducible refine LeO.bind ?_ (fun _ => ?_))
      | exact ih0 _ _ _
      | exact ih1 _ _ _ _
      | exact ih2 _ _ _ _ _
      | exact ih3 _ _ _ _ _ _
      | exact ih4 _ _ _ _ _
      | exact ih5 _ _ _ _ _ _
      | exact comp_Above.mono _ _
      | exact comp_Components.mono _ _
      | exact comp_Cyclic.mono _ _ _
      | exact runnellaw13_among.mono _ _ _
      | exact runnellaw13_shown.mono _
      | exact runnellaw13_small.mono _ _
      | exact LeO.none _
      | refine LeO.ite ?_ ?_
      | refine LeO.bind ?_ (fun _ => ?_)
theorem runnellaw13_CompOrder.mono : ∀ a0 k, LeO (runnellaw13_CompOrder.f k a0) (runnellaw13_CompOrder.f (k + 1) a0) := by
  intro a0 k
  obtain ⟨ih0, ih1, ih2, ih3, ih4, ih5⟩ := runnellaw13_CompOrder.mono_l k
  unfold runnellaw13_CompOrder.f
  repeat' first
      | (with_reducible exact ih0 _ _ _)
      | (with_reducible exact ih1 _ _ _ _)
      | (with_reducible exact ih2 _ _ _ _ _)
      | (with_reducible exact ih3 _ _ _ _ _ _)
      | (with_reducible exact ih4 _ _ _ _ _)
      | (with_reducible exact ih5 _ _ _ _ _ _)
      | (with_reducible exact comp_Above.mono _ _)
      | (with_reducible exact comp_Components.mono _ _)
      | (with_reducible exact comp_Cyclic.mono _ _ _)
      | (with_reducible exact runnellaw13_among.mono _ _ _)
      | (with_reducible exact runnellaw13_shown.mono _)
      | (with_reducible exact runnellaw13_small.mono _ _)
      | (with_reducible exact LeO.refl _)
      | (with_reducible exact LeO.none _)
      | (with_reducible refine LeO.ite ?_ ?_)
      | (with_reducible refine LeO.bind ?_ (fun _ => ?_))
      | exact ih0 _ _ _
      | exact ih1 _ _ _ _
      | exact ih2 _ _ _ _ _
      | exact ih3 _ _ _ _ _ _
      | exact ih4 _ _ _ _ _
      | exact ih5 _ _ _ _ _ _
      | exact comp_Above.mono _ _
      | exact comp_Components.mono _ _
      | exact comp_Cyclic.mono _ _ _
      | exact runnellaw13_among.mono _ _ _
      | exact runnellaw13_shown.mono _
      | exact runnellaw13_small.mono _ _
      | exact LeO.none _
      | refine LeO.ite ?_ ?_
      | refine LeO.bind ?_ (fun _ => ?_)
def runnellaw13_CompOrder.T21 : Bool × List (List Nat × List Nat) := (true, [([], []), ([], []), ([0, 1], [0, 1]), ([], []), ([], []), ([3, 4], [3, 4]), ([5], [5]), ([6], [6]), ([7], [7]), ([8, 2], [8]), ([9], [9]), ([9], [9]), ([10, 11, 9], [9, 10, 11]), ([12, 9], [9, 12]), ([9], [9]), ([13, 14, 9, 9], [9, 13, 14]), ([9, 15], [9, 15]), ([2, 16], [2, 16])])
def runnellaw13_CompOrder.B21 : List Nat := [0, 0, 3, 0, 0, 24, 56, 120, 248, 511, 1023, 1023, 4095, 8191, 1023, 32767, 65535, 131071]
theorem runnellaw13_CompOrder.tab21 : rtab .any (opsOf Try.f9 21) = runnellaw13_CompOrder.T21 := by kernel_rfl
theorem runnellaw13_CompOrder.bits21 : waitsOk runnellaw13_CompOrder.T21.2 runnellaw13_CompOrder.B21 = true := by kernel_rfl
set_option maxHeartbeats 8000000 in
set_option maxRecDepth 100000 in
theorem runnellaw13_CompOrder.calls (k : Nat) (A0 : Option Addr) (c0 : Nat) (l0 : List (List Int)) (r : Bool) (w : World) (hr0 : Kd.C (Kd.slice 3 (Kd.int .i64)) w A0 l0.length l0) (hc0 : l0.length ≤ c0) (h : runnellaw13_CompOrder.f k l0 = some r) :
    Calls Try.prog 9 #[.slice A0 l0.length c0] w fun e w' => e = .returned (.bool r) ∧ Below w.heap.size w w' := by
  have HR0 := Aside0.mk hr0
  have HC0 := Aside0.mk hc0
  clear hr0 hc0
  have HB := Aside0.mk (Below.refl w.heap.size w)
  have H : ((runnellaw13_shown.f k).bind fun t101 => ((runnellaw13_small.f k l0).bind fun t102 => (if t101 = true then (runnellaw13_CompOrder.j0 k l0 t101 (!t102)) else (runnellaw13_CompOrder.j0 k l0 t101 true)))) = some r := h
  clear h
  replace H := Option.bind_eq_some_iff.mp H
  obtain ⟨t101, A20, H⟩ := H
  replace H : ((runnellaw13_small.f k l0).bind fun t102 => (if t101 = true then (runnellaw13_CompOrder.j0 k l0 t101 (!t102)) else (runnellaw13_CompOrder.j0 k l0 t101 true))) = some r := H
  have A2 := Aside0.mk A20
  clear A20
  replace H := Option.bind_eq_some_iff.mp H
  obtain ⟨t102, A30, H⟩ := H
  replace H : (if t101 = true then (runnellaw13_CompOrder.j0 k l0 t101 (!t102)) else (runnellaw13_CompOrder.j0 k l0 t101 true)) = some r := H
  have A3 := Aside0.mk A30
  clear A30
  have HC4 := Aside0.mk H
  clear H
  go_enter Try.func9, Try.ntmps9
  go_upto_region 3 with (first | ((with_reducible refine gate_callee (f := 39) rfl ?_); refine goesL_ (some 11) rfl rfl Try.func39 (by kernel_rfl) rfl #[] rfl (by (try simp only [List.map_toArray, List.map_cons, List.map_nil]); first | done | rfl | (simp only [List.length_drop, List.length_take]; rfl)) ?_; (with_reducible refine (runnellaw13_shown.calls k  t101 _ A2.out).mono ?_); rintro e w5 ⟨rfl, hb⟩; refine ⟨_, rfl, ?_⟩; have n0_ := Aside0.mk (below_step (by repeat (first | (with_reducible first | exact HB.out | apply below_alloc | apply pw_below_drewN | apply below_drew1) | exact HB.out)) hb); clear HB; have HB := n0_; clear n0_; (try clear hb); (try clear hb2); (try clear hk); (try clear hi)) | ((with_reducible refine gate_callee (f := 40) rfl ?_); refine goesL_ (some 13) rfl rfl Try.func40 (by kernel_rfl) rfl #[.slice A0 l0.length c0] rfl (by (try simp only [List.map_toArray, List.map_cons, List.map_nil]); first | done | rfl | (simp only [List.length_drop, List.length_take]; rfl)) ?_; (with_reducible refine (runnellaw13_small.calls k _ _ l0 t102 _ ?side1 ?side2 A3.out).mono ?_); (case side1 => repeat (first | exact (Kd.C_below HR0.out HB.out) | (with_reducible refine Kd.C_alloc ?_ _) | (with_reducible refine Kd.C_drewN ?_ _) | (with_reducible refine Kd.C_drew ?_))); (case side2 => exact HC0.out); rintro e w' ⟨rfl, ⟨nd, rfl⟩⟩; refine ⟨_, rfl, ?_⟩))
  (try simp only [Act.put, List.setIfInBounds_toArray, List.set_cons_zero, List.set_cons_succ])
  go_cut [19] (fun v19 wc => ∃ (kq : Nat) (x19_3 : Bool), v19 = .bool x19_3 ∧ Aside0 (runnellaw13_CompOrder.j0 kq l0 t101 x19_3 = some r) ∧ Aside0 (kq ≤ k) ∧ Aside0 (Below w.heap.size w wc))
  case first =>
    have H := HC4.out
    clear HC4
    by_cases c6 : t101 = true
    · subst c6
      have H1 : (runnellaw13_CompOrder.j0 k l0 true (!t102)) = some r := by rw [if_pos rfl] at H; exact H
      clear H
      have H := H1
      clear H1
      have H' := Aside0.mk H
      clear H
      go_wp2
      go_meet
      case rel => exact ⟨_, (!t102), (by first | rfl | (simp; done) | (simp [*]; done)), H', ⟨by first | omega | exact Nat.le_refl _⟩, ⟨by repeat (first | (with_reducible first | exact HB.out | apply below_alloc | apply pw_below_drewN | apply below_drew1) | exact HB.out)⟩⟩
    · replace c6 := Bool.eq_false_iff.mpr c6
      subst c6
      have H1 : (runnellaw13_CompOrder.j0 k l0 false true) = some r := by rw [if_neg (show ¬ (false = true) by decide)] at H; exact H
      clear H
      have H := H1
      clear H1
      have H' := Aside0.mk H
      clear H
      go_wp2
      go_meet
      case rel => exact ⟨_, (true), (by first | rfl | (simp; done) | (simp [*]; done)), H', ⟨by first | omega | exact Nat.le_refl _⟩, ⟨by repeat (first | (with_reducible first | exact HB.out | apply below_alloc | apply pw_below_drewN | apply below_drew1) | exact HB.out)⟩⟩
  case rest =>
    clear HC4
    try clear p2
    try clear c3
    try clear c4
    try clear c6
    obtain ⟨kq, x19_3, rfl, HA, HJ3, HB⟩ := hcut
    cases kq with
    | zero => exact absurd HA.out (by simp [runnellaw13_CompOrder.j0])
    | succ kj3 =>
      have H := HA.out
      clear HA
      simp only [runnellaw13_CompOrder.j0] at H
      by_cases c7 : x19_3 = true
      · subst c7
        have H1 : (some t101) = some r := by rw [if_pos rfl] at H; exact H
        clear H
        have H := H1
        clear H1
        obtain rfl := Option.some.inj H
        go_wp2
        go_ret
        exact ⟨by first | rfl | (simp [errW_none, errW_some] <;> rfl) | (simp [*, errW_none, errW_some] <;> rfl), by repeat (first | (with_reducible first | exact HB.out | apply below_alloc | apply pw_below_drewN | apply below_drew1) | exact HB.out)⟩
      · replace c7 := Bool.eq_false_iff.mpr c7
        subst c7
        have H1 : ((comp_Components.f kj3 l0).bind fun t103 => ((comp_Above.f kj3 l0).bind fun t106 => (if (t106.length : Int) = (t103.length : Int) then (runnellaw13_CompOrder.l0 kj3 l0 t103 t106 0) else (some false)))) = some r := by rw [if_neg (show ¬ (false = true) by decide)] at H; exact H
        clear H
        have H := H1
        clear H1
        replace H := Option.bind_eq_some_iff.mp H
        obtain ⟨t103, A80, H⟩ := H
        replace H : ((comp_Above.f kj3 l0).bind fun t106 => (if (t106.length : Int) = (t103.length : Int) then (runnellaw13_CompOrder.l0 kj3 l0 t103 t106 0) else (some false))) = some r := H
        have A8 := Aside0.mk A80
        clear A80
        replace H := Option.bind_eq_some_iff.mp H
        obtain ⟨t106, A90, H⟩ := H
        replace H : (if (t106.length : Int) = (t103.length : Int) then (runnellaw13_CompOrder.l0 kj3 l0 t103 t106 0) else (some false)) = some r := H
        have A9 := Aside0.mk A90
        clear A90
        by_cases c10 : (t106.length : Int) = (t103.length : Int)
        · rw [if_pos c10] at H
          have c10b0 : ((t106.length : Int) == (t103.length : Int)) = true := beq_iff_eq.mpr c10
          have c10b1 : ((t106.length : Int) != (t103.length : Int)) = false := bne_eq_false_iff_eq.mpr c10
          have c10b2 : (t106.length == t103.length) = true := by first | simpa using c10 | (simp at c10 ⊢; omega)
          clear c10
          have H' := Aside0.mk H
          clear H
          go_wp2_with (first | ((with_reducible refine gate_callee (f := 42) rfl ?_); refine goesL_ (some 22) rfl rfl Try.func42 (by kernel_rfl) rfl #[.slice A0 l0.length c0] rfl (by (try simp only [List.map_toArray, List.map_cons, List.map_nil]); first | done | rfl | (simp only [List.length_drop, List.length_take]; rfl)) ?_; (with_reducible refine (comp_Components.calls kj3 _ _ l0 t103 _ ?side1 ?side2 A8.out).mono ?_); (case side1 => repeat (first | exact (Kd.C_below HR0.out HB.out) | (with_reducible refine Kd.C_alloc ?_ _) | (with_reducible refine Kd.C_drewN ?_ _) | (with_reducible refine Kd.C_drew ?_))); (case side2 => exact HC0.out); rintro e w11 ⟨v104, rfl, ho0, hb⟩; refine ⟨_, rfl, ?_⟩; have n0_ := Aside0.mk (Kd.S_lower ho0 (below_size (by repeat (first | (with_reducible first | exact HB.out | apply below_alloc | apply pw_below_drewN | apply below_drew1) | exact HB.out)))); have n1_ := Aside0.mk (below_step (by repeat (first | (with_reducible first | exact HB.out | apply below_alloc | apply pw_below_drewN | apply below_drew1) | exact HB.out)) hb); clear HB; have HO105 := n0_; have HB := n1_; clear n0_ n1_; (try clear hb); (try clear hb2); (try clear hk); (try clear hi); (try clear ho0)) | ((with_reducible refine gate_callee (f := 47) rfl ?_); refine goesL_ (some 24) rfl rfl Try.func47 (by kernel_rfl) rfl #[.slice A0 l0.length c0] rfl (by (try simp only [List.map_toArray, List.map_cons, List.map_nil]); first | done | rfl | (simp only [List.length_drop, List.length_take]; rfl)) ?_; (with_reducible refine (comp_Above.calls kj3 _ _ l0 t106 _ ?side1 ?side2 A9.out).mono ?_); (case side1 => repeat (first | exact (Kd.C_below HR0.out HB.out) | (with_reducible refine Kd.C_alloc ?_ _) | (with_reducible refine Kd.C_drewN ?_ _) | (with_reducible refine Kd.C_drew ?_))); (case side2 => exact HC0.out); rintro e w12 ⟨v107, rfl, ho0, hb⟩; refine ⟨_, rfl, ?_⟩; have n0_ := Aside0.mk (Kd.S_elder' (by (with_reducible repeat (first | apply Kd.S_alloc | apply Kd.S_drewN | apply Kd.S_drew)); exact HO105.out) (Kd.S_base ho0) hb); have n1_ := Aside0.mk (Kd.S_lower (Kd.S_new' ho0 (Kd.S_lt (by (with_reducible repeat (first | apply Kd.S_alloc | apply Kd.S_drewN | apply Kd.S_drew)); exact HO105.out))) (below_size (by repeat (first | (with_reducible first | exact HB.out | apply below_alloc | apply pw_below_drewN | apply below_drew1) | exact HB.out)))); have n2_ := Aside0.mk (below_step (by repeat (first | (with_reducible first | exact HB.out | apply below_alloc | apply pw_below_drewN | apply below_drew1) | exact HB.out)) hb); clear HO105; clear HB; have HO105 := n0_; have HO108 := n1_; have HB := n2_; clear n0_ n1_ n2_; (try clear hb); (try clear hb2); (try clear hk); (try clear hi); (try clear ho0); obtain ⟨Ao13, co13, eo13⟩ := Kd.S_slice HO108.out; subst eo13; obtain ⟨Ao14, co14, eo14⟩ := Kd.S_slice HO105.out; subst eo14))
          go_loopg [7] kj3 (fun kq v7 w' => ∃ (x7_2 : Int), v7 = .int .i64 x7_2 ∧ Aside0 (runnellaw13_CompOrder.l0 kq l0 t103 t106 x7_2 = some r) ∧ Aside0 (kq ≤ kj3) ∧ Aside0 (Kd.S (Kd.slice 3 (Kd.int .i64)) 53 w' w.heap.size (fun k_ => some k_ ≠ ((.slice Ao13 t106.length co13) : Value).ownBlock) (.slice Ao14 t103.length co14) t103) ∧ Aside0 (Kd.S (Kd.slice 3 (Kd.int .i64)) 53 w' w.heap.size (fun k_ => some k_ ≠ ((.slice Ao14 t103.length co14) : Value).ownBlock) (.slice Ao13 t106.length co13) t106) ∧ Aside0 (Below w.heap.size w w'))
          case atStart => exact ⟨(0), (by first | rfl | (simp; done) | (simp [*]; done)), H', ⟨Nat.le_refl _⟩, ⟨by (with_reducible repeat (first | apply Kd.S_alloc | apply Kd.S_drewN | apply Kd.S_drew)); exact Kd.S_mono HO105.out (fun _ hk => hk.2)⟩, ⟨by (with_reducible repeat (first | apply Kd.S_alloc | apply Kd.S_drewN | apply Kd.S_drew)); exact Kd.S_mono HO108.out (fun _ hk => hk.2)⟩, ⟨by repeat (first | (with_reducible first | exact HB.out | apply below_alloc | apply pw_below_drewN | apply below_drew1) | exact HB.out)⟩⟩
          case round =>
            clear H'
            try clear c1
            try clear p2
            try clear c3
            try clear c4
            try clear c6
            try clear c7
            try clear c9
            try clear c10
            try clear c10b0
            try clear c10b1
            try clear c10b2
            try clear p2
            obtain ⟨x7_2, rfl, HA, HK2, HO_5, HO_6, HB⟩ := hrel
            cases gk with
            | zero => exact absurd HA.out (by simp [runnellaw13_CompOrder.l0])
            | succ k2 =>
              have H := HA.out
              clear HA
              simp only [runnellaw13_CompOrder.l0] at H
              by_cases c15 : x7_2 < (t106.length : Int)
              · rw [if_pos c15] at H
                have c15b0 : decide (x7_2 < (t106.length : Int)) = true := decide_eq_true c15
                clear c15
                have H' := Aside0.mk H
                clear H
                go_wp2
                go_loopg [8] k2 (fun kq v8 w' => ∃ (x8_3 : Int), v8 = .int .i64 x8_3 ∧ Aside0 (runnellaw13_CompOrder.l1 kq l0 t103 t106 x7_2 x8_3 = some r) ∧ Aside0 (kq ≤ k2) ∧ Aside0 (Kd.S (Kd.slice 3 (Kd.int .i64)) 53 w' w.heap.size (fun k_ => some k_ ≠ ((.slice Ao13 t106.length co13) : Value).ownBlock) (.slice Ao14 t103.length co14) t103) ∧ Aside0 (Kd.S (Kd.slice 3 (Kd.int .i64)) 53 w' w.heap.size (fun k_ => some k_ ≠ ((.slice Ao14 t103.length co14) : Value).ownBlock) (.slice Ao13 t106.length co13) t106) ∧ Aside0 (Below w.heap.size w w'))
                case atStart => exact ⟨(0), (by first | rfl | (simp; done) | (simp [*]; done)), H', ⟨Nat.le_refl _⟩, ⟨by (with_reducible repeat (first | apply Kd.S_alloc | apply Kd.S_drewN | apply Kd.S_drew)); exact HO_5.out⟩, ⟨by (with_reducible repeat (first | apply Kd.S_alloc | apply Kd.S_drewN | apply Kd.S_drew)); exact HO_6.out⟩, ⟨by repeat (first | (with_reducible first | exact HB.out | apply below_alloc | apply pw_below_drewN | apply below_drew1) | exact HB.out)⟩⟩
                case round =>
                  clear H'
                  try clear c1
                  try clear p2
                  try clear c3
                  try clear c4
                  try clear c6
                  try clear c7
                  try clear c9
                  try clear c10
                  try clear c10b0
                  try clear c10b1
                  try clear c10b2
                  try clear c15
                  try clear c15b0
                  try clear p2
                  obtain ⟨x8_3, rfl, HA, HK3, HO_5, HO_6, HB⟩ := hrel
                  cases gk with
                  | zero => exact absurd HA.out (by simp [runnellaw13_CompOrder.l1])
                  | succ k3 =>
                    have H := HA.out
                    clear HA
                    simp only [runnellaw13_CompOrder.l1] at H
                    by_cases c16 : 0 ≤ x7_2
                    · rw [if_pos c16] at H
                      have c16b0 : decide (0 ≤ x7_2) = true := decide_eq_true c16
                      clear c16
                      by_cases c17 : x7_2 < (t106.length : Int)
                      · rw [if_pos c17] at H
                        have c17b0 : decide (x7_2 < (t106.length : Int)) = true := decide_eq_true c17
                        clear c17
                        by_cases c18 : x8_3 < ((rd_L1 t106 x7_2).length : Int)
                        · rw [if_pos c18] at H
                          have c18b0 : decide (x8_3 < ((rd_L1 t106 x7_2).length : Int)) = true := decide_eq_true c18
                          clear c18
                          have HC19 := Aside0.mk H
                          clear H
                          have p109 : 0 ≤ (x7_2 : Int) := of_decide_eq_true (by first | (with_reducible assumption) | assumption)
                          have q109 : x7_2 < (t106.length : Int) := of_decide_eq_true (by first | (with_reducible assumption) | assumption)
                          obtain ⟨ad109, A109_0, c109_0, e109, hx109_0, hl109_0, hi109_0⟩ := at_L1 (Kd.S_reads' HO_6.out).2.2 x7_2 p109 q109
                          cases e109
                          obtain ⟨ce109, hce109, hMe109, hcc109⟩ := Kd.S_get HO_6.out [] x7_2 p109 (by first | exact q109 | exact of_decide_eq_true (by first | (with_reducible assumption) | assumption) | (have e_ := (Kd.S_reads' HO_6.out).1; omega))
                          obtain ⟨ve109_0, rfl, ge109_0⟩ := hMe109
                          have hv109_0 := hcc109 0 _ rfl
                          rw [Nat.add_zero, show ((Kd.slice 3 (Kd.int .i64))).sz = 1 from rfl, Nat.mul_one] at hv109_0
                          replace hv109_0 := Option.some.inj (hv109_0.symm.trans hx109_0)
                          rw [hv109_0] at ge109_0
                          have HL109_0 := Aside0.mk (show Kd.R (Kd.int .i64) 3 _ _ _ _ (rd_L1 t106 x7_2) from ge109_0)
                          clear hv109_0 ge109_0
                          clear hcc109 hce109
                          have HR109_0 := Aside0.mk hi109_0
                          have HC109_0 := Aside0.mk hl109_0
                          clear hi109_0 hl109_0
                          replace p109 := eq_true p109
                          replace q109 := eq_true q109
                          go_upto_region 15 with (fail)
                          repeat (go_quiet (fail); go_upto_region 15 with (fail))
                          go_cut [85] (fun v85 wc => ∃ (kq : Nat) (x85_18 : Bool), v85 = .bool x85_18 ∧ Aside0 (runnellaw13_CompOrder.j3 kq l0 t103 t106 x7_2 x8_3 x85_18 = some r) ∧ Aside0 (kq ≤ k3) ∧ Aside0 (Kd.S (Kd.slice 3 (Kd.int .i64)) 53 wc w.heap.size (fun k_ => some k_ ≠ ((.slice (some ad109) t106.length co13) : Value).ownBlock) (.slice Ao14 t103.length co14) t103) ∧ Aside0 (Kd.S (Kd.slice 3 (Kd.int .i64)) 53 wc w.heap.size (fun k_ => some k_ ≠ ((.slice Ao14 t103.length co14) : Value).ownBlock) (.slice (some ad109) t106.length co13) t106) ∧ Aside0 (Kd.C (Kd.int .i64) wc A109_0 (rd_L1 t106 x7_2).length (rd_L1 t106 x7_2)) ∧ Aside0 (Below w.heap.size w wc))
                          case first =>
                            have H := HC19.out
                            clear HC19
                            by_cases c20 : 0 ≤ x8_3
                            · rw [if_pos c20] at H
                              have c20b0 : decide (0 ≤ x8_3) = true := decide_eq_true c20
                              clear c20
                              (first | rw [c20b0] | (simp only [i64_w, i32_w]; rw [c20b0]) | skip)
                              by_cases c21 : (rd (rd_L1 t106 x7_2) x8_3) < 0
                              · rw [if_pos c21] at H
                                have c21b0 : decide ((rd (rd_L1 t106 x7_2) x8_3) < 0) = true := decide_eq_true c21
                                clear c21
                                have H' := Aside0.mk H
                                clear H
                                have p110 : 0 ≤ (x7_2 : Int) := of_decide_eq_true (by first | (with_reducible assumption) | assumption)
                                have q110 : x7_2 < (t106.length : Int) := of_decide_eq_true (by first | (with_reducible assumption) | assumption)
                                obtain ⟨ad110, A110_0, c110_0, e110, hx110_0, hl110_0, hi110_0⟩ := at_L1 (Kd.S_reads' HO_6.out).2.2 x7_2 p110 q110
                                obtain rfl : ad109 = ad110 := (by injection e110)
                                obtain ⟨ce110, hce110, hMe110, hcc110⟩ := Kd.S_get HO_6.out [] x7_2 p110 (by first | exact q110 | exact of_decide_eq_true (by first | (with_reducible assumption) | assumption) | (have e_ := (Kd.S_reads' HO_6.out).1; omega))
                                obtain ⟨ve110_0, rfl, ge110_0⟩ := hMe110
                                have hv110_0 := hcc110 0 _ rfl
                                rw [Nat.add_zero, show ((Kd.slice 3 (Kd.int .i64))).sz = 1 from rfl, Nat.mul_one] at hv110_0
                                replace hv110_0 := Option.some.inj (hv110_0.symm.trans hx110_0)
                                rw [hv110_0] at ge110_0
                                have HL110_0 := Aside0.mk (show Kd.R (Kd.int .i64) 3 _ _ _ _ (rd_L1 t106 x7_2) from ge110_0)
                                clear hv110_0 ge110_0
                                clear hcc110 hce110
                                have HR110_0 := Aside0.mk hi110_0
                                have HC110_0 := Aside0.mk hl110_0
                                clear hi110_0 hl110_0
                                replace p110 := eq_true p110
                                replace q110 := eq_true q110
                                have ea_ := Option.some.inj (hx109_0.symm.trans hx110_0)
                                injection ea_ with ea_ en_ ec_
                                subst ea_
                                subst ec_
                                clear en_
                                have p111 : 0 ≤ (x8_3 : Int) := of_decide_eq_true (by first | (with_reducible assumption) | assumption)
                                have q111 : x8_3 < ((rd_L1 t106 x7_2).length : Int) := of_decide_eq_true (by first | (with_reducible assumption) | assumption)
                                obtain ⟨ad111, e111, hx111_0⟩ := Kd.at_int (by repeat (first | (with_reducible exact HR110_0.out) | (with_reducible refine Kd.C_alloc ?_ _) | (with_reducible refine Kd.C_drewN ?_ _) | (with_reducible refine Kd.C_drew ?_) | exact HR110_0.out)) x8_3 p111 q111
                                cases e111
                                replace p111 := eq_true p111
                                replace q111 := eq_true q111
                                go_wp2
                                repeat (go_quiet (fail); try go_wp2)
                                go_meet
                                case rel => exact ⟨_, (true), (by first | rfl | (simp; done) | (simp [*]; done)), H', ⟨by have := HJ3.out; have := HK2.out; have := HK3.out; first | omega | exact Nat.le_refl _⟩, ⟨by (with_reducible repeat (first | apply Kd.S_alloc | apply Kd.S_drewN | apply Kd.S_drew)); exact HO_5.out⟩, ⟨by (with_reducible repeat (first | apply Kd.S_alloc | apply Kd.S_drewN | apply Kd.S_drew)); exact HO_6.out⟩, ⟨by repeat (first | (with_reducible exact HR109_0.out) | (with_reducible refine Kd.C_alloc ?_ _) | (with_reducible refine Kd.C_drewN ?_ _) | (with_reducible refine Kd.C_drew ?_) | exact HR109_0.out)⟩, ⟨by repeat (first | (with_reducible first | exact HB.out | apply below_alloc | apply pw_below_drewN | apply below_drew1) | exact HB.out)⟩⟩
                              · rw [if_neg c21] at H
                                have c21b0 : decide ((rd (rd_L1 t106 x7_2) x8_3) < 0) = false := decide_eq_false c21
                                clear c21
                                by_cases c22 : (rd (rd_L1 t106 x7_2) x8_3) ≥ x7_2
                                · rw [if_pos c22] at H
                                  have c22b0 : decide (x7_2 ≤ (rd (rd_L1 t106 x7_2) x8_3)) = true := decide_eq_true c22
                                  clear c22
                                  have H' := Aside0.mk H
                                  clear H
                                  have p110 : 0 ≤ (x7_2 : Int) := of_decide_eq_true (by first | (with_reducible assumption) | assumption)
                                  have q110 : x7_2 < (t106.length : Int) := of_decide_eq_true (by first | (with_reducible assumption) | assumption)
                                  obtain ⟨ad110, A110_0, c110_0, e110, hx110_0, hl110_0, hi110_0⟩ := at_L1 (Kd.S_reads' HO_6.out).2.2 x7_2 p110 q110
                                  obtain rfl : ad109 = ad110 := (by injection e110)
                                  obtain ⟨ce110, hce110, hMe110, hcc110⟩ := Kd.S_get HO_6.out [] x7_2 p110 (by first | exact q110 | exact of_decide_eq_true (by first | (with_reducible assumption) | assumption) | (have e_ := (Kd.S_reads' HO_6.out).1; omega))
                                  obtain ⟨ve110_0, rfl, ge110_0⟩ := hMe110
                                  have hv110_0 := hcc110 0 _ rfl
                                  rw [Nat.add_zero, show ((Kd.slice 3 (Kd.int .i64))).sz = 1 from rfl, Nat.mul_one] at hv110_0
                                  replace hv110_0 := Option.some.inj (hv110_0.symm.trans hx110_0)
                                  rw [hv110_0] at ge110_0
                                  have HL110_0 := Aside0.mk (show Kd.R (Kd.int .i64) 3 _ _ _ _ (rd_L1 t106 x7_2) from ge110_0)
                                  clear hv110_0 ge110_0
                                  clear hcc110 hce110
                                  have HR110_0 := Aside0.mk hi110_0
                                  have HC110_0 := Aside0.mk hl110_0
                                  clear hi110_0 hl110_0
                                  replace p110 := eq_true p110
                                  replace q110 := eq_true q110
                                  have ea_ := Option.some.inj (hx109_0.symm.trans hx110_0)
                                  injection ea_ with ea_ en_ ec_
                                  subst ea_
                                  subst ec_
                                  clear en_
                                  have p111 : 0 ≤ (x8_3 : Int) := of_decide_eq_true (by first | (with_reducible assumption) | assumption)
                                  have q111 : x8_3 < ((rd_L1 t106 x7_2).length : Int) := of_decide_eq_true (by first | (with_reducible assumption) | assumption)
                                  obtain ⟨ad111, e111, hx111_0⟩ := Kd.at_int (by repeat (first | (with_reducible exact HR110_0.out) | (with_reducible refine Kd.C_alloc ?_ _) | (with_reducible refine Kd.C_drewN ?_ _) | (with_reducible refine Kd.C_drew ?_) | exact HR110_0.out)) x8_3 p111 q111
                                  cases e111
                                  replace p111 := eq_true p111
                                  replace q111 := eq_true q111
                                  have p112 : 0 ≤ (x7_2 : Int) := of_decide_eq_true (by first | (with_reducible assumption) | assumption)
                                  have q112 : x7_2 < (t106.length : Int) := of_decide_eq_true (by first | (with_reducible assumption) | assumption)
                                  obtain ⟨ad112, A112_0, c112_0, e112, hx112_0, hl112_0, hi112_0⟩ := at_L1 (Kd.S_reads' HO_6.out).2.2 x7_2 p112 q112
                                  obtain rfl : ad109 = ad112 := (by injection e112)
                                  obtain ⟨ce112, hce112, hMe112, hcc112⟩ := Kd.S_get HO_6.out [] x7_2 p112 (by first | exact q112 | exact of_decide_eq_true (by first | (with_reducible assumption) | assumption) | (have e_ := (Kd.S_reads' HO_6.out).1; omega))
                                  obtain ⟨ve112_0, rfl, ge112_0⟩ := hMe112
                                  have hv112_0 := hcc112 0 _ rfl
                                  rw [Nat.add_zero, show ((Kd.slice 3 (Kd.int .i64))).sz = 1 from rfl, Nat.mul_one] at hv112_0
                                  replace hv112_0 := Option.some.inj (hv112_0.symm.trans hx112_0)
                                  rw [hv112_0] at ge112_0
                                  have HL112_0 := Aside0.mk (show Kd.R (Kd.int .i64) 3 _ _ _ _ (rd_L1 t106 x7_2) from ge112_0)
                                  clear hv112_0 ge112_0
                                  clear hcc112 hce112
                                  have HR112_0 := Aside0.mk hi112_0
                                  have HC112_0 := Aside0.mk hl112_0
                                  clear hi112_0 hl112_0
                                  replace p112 := eq_true p112
                                  replace q112 := eq_true q112
                                  have ea_ := Option.some.inj (hx110_0.symm.trans hx112_0)
                                  injection ea_ with ea_ en_ ec_
                                  subst ea_
                                  subst ec_
                                  clear en_
                                  have p113 : 0 ≤ (x8_3 : Int) := of_decide_eq_true (by first | (with_reducible assumption) | assumption)
                                  have q113 : x8_3 < ((rd_L1 t106 x7_2).length : Int) := of_decide_eq_true (by first | (with_reducible assumption) | assumption)
                                  obtain ⟨ad113, e113, hx113_0⟩ := Kd.at_int (by repeat (first | (with_reducible exact HR112_0.out) | (with_reducible refine Kd.C_alloc ?_ _) | (with_reducible refine Kd.C_drewN ?_ _) | (with_reducible refine Kd.C_drew ?_) | exact HR112_0.out)) x8_3 p113 q113
                                  cases e113
                                  replace p113 := eq_true p113
                                  replace q113 := eq_true q113
                                  go_wp2
                                  repeat (go_quiet (fail); try go_wp2)
                                  go_meet
                                  case rel => exact ⟨_, (true), (by first | rfl | (simp; done) | (simp [*]; done)), H', ⟨by have := HJ3.out; have := HK2.out; have := HK3.out; first | omega | exact Nat.le_refl _⟩, ⟨by (with_reducible repeat (first | apply Kd.S_alloc | apply Kd.S_drewN | apply Kd.S_drew)); exact HO_5.out⟩, ⟨by (with_reducible repeat (first | apply Kd.S_alloc | apply Kd.S_drewN | apply Kd.S_drew)); exact HO_6.out⟩, ⟨by repeat (first | (with_reducible exact HR109_0.out) | (with_reducible refine Kd.C_alloc ?_ _) | (with_reducible refine Kd.C_drewN ?_ _) | (with_reducible refine Kd.C_drew ?_) | exact HR109_0.out)⟩, ⟨by repeat (first | (with_reducible first | exact HB.out | apply below_alloc | apply pw_below_drewN | apply below_drew1) | exact HB.out)⟩⟩
                                · rw [if_neg c22] at H
                                  have c22b0 : decide (x7_2 ≤ (rd (rd_L1 t106 x7_2) x8_3)) = false := decide_eq_false c22
                                  clear c22
                                  by_cases c23 : x8_3 > 0
                                  · rw [if_pos c23] at H
                                    have c23b0 : decide (0 < x8_3) = true := decide_eq_true c23
                                    clear c23
                                    obtain ⟨ji24, hji24⟩ : ∃ j_ : Int, (wrap64 (x8_3 - 1)) = j_ := ⟨_, rfl⟩
                                    replace H : (if 0 ≤ (ji24) then (if (ji24) < ((rd_L1 t106 x7_2).length : Int) then (runnellaw13_CompOrder.j3 k3 l0 t103 t106 x7_2 x8_3 (decide ((rd (rd_L1 t106 x7_2) x8_3) ≤ (rd (rd_L1 t106 x7_2) (ji24))))) else (none)) else (none)) = some r := by first | (rw [hji24] at H; exact H) | (simp only [hji24] at H ⊢; exact H)
                                    have hji24w : (IntKind.i64.wrap (x8_3 - 1)) = ji24 := (i64_w _).trans hji24
                                    by_cases c25 : 0 ≤ (ji24)
                                    · rw [if_pos c25] at H
                                      have c25b0 : decide (0 ≤ (ji24)) = true := decide_eq_true c25
                                      clear c25
                                      by_cases c26 : (ji24) < ((rd_L1 t106 x7_2).length : Int)
                                      · rw [if_pos c26] at H
                                        have c26b0 : decide ((ji24) < ((rd_L1 t106 x7_2).length : Int)) = true := decide_eq_true c26
                                        clear c26
                                        have H' := Aside0.mk H
                                        clear H
                                        have p110 : 0 ≤ (x7_2 : Int) := of_decide_eq_true (by first | (with_reducible assumption) | assumption)
                                        have q110 : x7_2 < (t106.length : Int) := of_decide_eq_true (by first | (with_reducible assumption) | assumption)
                                        obtain ⟨ad110, A110_0, c110_0, e110, hx110_0, hl110_0, hi110_0⟩ := at_L1 (Kd.S_reads' HO_6.out).2.2 x7_2 p110 q110
                                        obtain rfl : ad109 = ad110 := (by injection e110)
                                        obtain ⟨ce110, hce110, hMe110, hcc110⟩ := Kd.S_get HO_6.out [] x7_2 p110 (by first | exact q110 | exact of_decide_eq_true (by first | (with_reducible assumption) | assumption) | (have e_ := (Kd.S_reads' HO_6.out).1; omega))
                                        obtain ⟨ve110_0, rfl, ge110_0⟩ := hMe110
                                        have hv110_0 := hcc110 0 _ rfl
                                        rw [Nat.add_zero, show ((Kd.slice 3 (Kd.int .i64))).sz = 1 from rfl, Nat.mul_one] at hv110_0
                                        replace hv110_0 := Option.some.inj (hv110_0.symm.trans hx110_0)
                                        rw [hv110_0] at ge110_0
                                        have HL110_0 := Aside0.mk (show Kd.R (Kd.int .i64) 3 _ _ _ _ (rd_L1 t106 x7_2) from ge110_0)
                                        clear hv110_0 ge110_0
                                        clear hcc110 hce110
                                        have HR110_0 := Aside0.mk hi110_0
                                        have HC110_0 := Aside0.mk hl110_0
                                        clear hi110_0 hl110_0
                                        replace p110 := eq_true p110
                                        replace q110 := eq_true q110
                                        have ea_ := Option.some.inj (hx109_0.symm.trans hx110_0)
                                        injection ea_ with ea_ en_ ec_
                                        subst ea_
                                        subst ec_
                                        clear en_
                                        have p111 : 0 ≤ (x8_3 : Int) := of_decide_eq_true (by first | (with_reducible assumption) | assumption)
                                        have q111 : x8_3 < ((rd_L1 t106 x7_2).length : Int) := of_decide_eq_true (by first | (with_reducible assumption) | assumption)
                                        obtain ⟨ad111, e111, hx111_0⟩ := Kd.at_int (by repeat (first | (with_reducible exact HR110_0.out) | (with_reducible refine Kd.C_alloc ?_ _) | (with_reducible refine Kd.C_drewN ?_ _) | (with_reducible refine Kd.C_drew ?_) | exact HR110_0.out)) x8_3 p111 q111
                                        cases e111
                                        replace p111 := eq_true p111
                                        replace q111 := eq_true q111
                                        have p112 : 0 ≤ (x7_2 : Int) := of_decide_eq_true (by first | (with_reducible assumption) | assumption)
                                        have q112 : x7_2 < (t106.length : Int) := of_decide_eq_true (by first | (with_reducible assumption) | assumption)
                                        obtain ⟨ad112, A112_0, c112_0, e112, hx112_0, hl112_0, hi112_0⟩ := at_L1 (Kd.S_reads' HO_6.out).2.2 x7_2 p112 q112
                                        obtain rfl : ad109 = ad112 := (by injection e112)
                                        obtain ⟨ce112, hce112, hMe112, hcc112⟩ := Kd.S_get HO_6.out [] x7_2 p112 (by first | exact q112 | exact of_decide_eq_true (by first | (with_reducible assumption) | assumption) | (have e_ := (Kd.S_reads' HO_6.out).1; omega))
                                        obtain ⟨ve112_0, rfl, ge112_0⟩ := hMe112
                                        have hv112_0 := hcc112 0 _ rfl
                                        rw [Nat.add_zero, show ((Kd.slice 3 (Kd.int .i64))).sz = 1 from rfl, Nat.mul_one] at hv112_0
                                        replace hv112_0 := Option.some.inj (hv112_0.symm.trans hx112_0)
                                        rw [hv112_0] at ge112_0
                                        have HL112_0 := Aside0.mk (show Kd.R (Kd.int .i64) 3 _ _ _ _ (rd_L1 t106 x7_2) from ge112_0)
                                        clear hv112_0 ge112_0
                                        clear hcc112 hce112
                                        have HR112_0 := Aside0.mk hi112_0
                                        have HC112_0 := Aside0.mk hl112_0
                                        clear hi112_0 hl112_0
                                        replace p112 := eq_true p112
                                        replace q112 := eq_true q112
                                        have ea_ := Option.some.inj (hx110_0.symm.trans hx112_0)
                                        injection ea_ with ea_ en_ ec_
                                        subst ea_
                                        subst ec_
                                        clear en_
                                        have p113 : 0 ≤ (x8_3 : Int) := of_decide_eq_true (by first | (with_reducible assumption) | assumption)
                                        have q113 : x8_3 < ((rd_L1 t106 x7_2).length : Int) := of_decide_eq_true (by first | (with_reducible assumption) | assumption)
                                        obtain ⟨ad113, e113, hx113_0⟩ := Kd.at_int (by repeat (first | (with_reducible exact HR112_0.out) | (with_reducible refine Kd.C_alloc ?_ _) | (with_reducible refine Kd.C_drewN ?_ _) | (with_reducible refine Kd.C_drew ?_) | exact HR112_0.out)) x8_3 p113 q113
                                        cases e113
                                        replace p113 := eq_true p113
                                        replace q113 := eq_true q113
                                        have p114 : 0 ≤ (x7_2 : Int) := of_decide_eq_true (by first | (with_reducible assumption) | assumption)
                                        have q114 : x7_2 < (t106.length : Int) := of_decide_eq_true (by first | (with_reducible assumption) | assumption)
                                        obtain ⟨ad114, A114_0, c114_0, e114, hx114_0, hl114_0, hi114_0⟩ := at_L1 (Kd.S_reads' HO_6.out).2.2 x7_2 p114 q114
                                        obtain rfl : ad109 = ad114 := (by injection e114)
                                        obtain ⟨ce114, hce114, hMe114, hcc114⟩ := Kd.S_get HO_6.out [] x7_2 p114 (by first | exact q114 | exact of_decide_eq_true (by first | (with_reducible assumption) | assumption) | (have e_ := (Kd.S_reads' HO_6.out).1; omega))
                                        obtain ⟨ve114_0, rfl, ge114_0⟩ := hMe114
                                        have hv114_0 := hcc114 0 _ rfl
                                        rw [Nat.add_zero, show ((Kd.slice 3 (Kd.int .i64))).sz = 1 from rfl, Nat.mul_one] at hv114_0
                                        replace hv114_0 := Option.some.inj (hv114_0.symm.trans hx114_0)
                                        rw [hv114_0] at ge114_0
                                        have HL114_0 := Aside0.mk (show Kd.R (Kd.int .i64) 3 _ _ _ _ (rd_L1 t106 x7_2) from ge114_0)
                                        clear hv114_0 ge114_0
                                        clear hcc114 hce114
                                        have HR114_0 := Aside0.mk hi114_0
                                        have HC114_0 := Aside0.mk hl114_0
                                        clear hi114_0 hl114_0
                                        replace p114 := eq_true p114
                                        replace q114 := eq_true q114
                                        have ea_ := Option.some.inj (hx110_0.symm.trans hx114_0)
                                        injection ea_ with ea_ en_ ec_
                                        subst ea_
                                        subst ec_
                                        clear en_
                                        have p115 : 0 ≤ (x8_3 : Int) := of_decide_eq_true (by first | (with_reducible assumption) | assumption)
                                        have q115 : x8_3 < ((rd_L1 t106 x7_2).length : Int) := of_decide_eq_true (by first | (with_reducible assumption) | assumption)
                                        obtain ⟨ad115, e115, hx115_0⟩ := Kd.at_int (by repeat (first | (with_reducible exact HR114_0.out) | (with_reducible refine Kd.C_alloc ?_ _) | (with_reducible refine Kd.C_drewN ?_ _) | (with_reducible refine Kd.C_drew ?_) | exact HR114_0.out)) x8_3 p115 q115
                                        cases e115
                                        replace p115 := eq_true p115
                                        replace q115 := eq_true q115
                                        have p116 : 0 ≤ (x7_2 : Int) := of_decide_eq_true (by first | (with_reducible assumption) | assumption)
                                        have q116 : x7_2 < (t106.length : Int) := of_decide_eq_true (by first | (with_reducible assumption) | assumption)
                                        obtain ⟨ad116, A116_0, c116_0, e116, hx116_0, hl116_0, hi116_0⟩ := at_L1 (Kd.S_reads' HO_6.out).2.2 x7_2 p116 q116
                                        obtain rfl : ad109 = ad116 := (by injection e116)
                                        obtain ⟨ce116, hce116, hMe116, hcc116⟩ := Kd.S_get HO_6.out [] x7_2 p116 (by first | exact q116 | exact of_decide_eq_true (by first | (with_reducible assumption) | assumption) | (have e_ := (Kd.S_reads' HO_6.out).1; omega))
                                        obtain ⟨ve116_0, rfl, ge116_0⟩ := hMe116
                                        have hv116_0 := hcc116 0 _ rfl
                                        rw [Nat.add_zero, show ((Kd.slice 3 (Kd.int .i64))).sz = 1 from rfl, Nat.mul_one] at hv116_0
                                        replace hv116_0 := Option.some.inj (hv116_0.symm.trans hx116_0)
                                        rw [hv116_0] at ge116_0
                                        have HL116_0 := Aside0.mk (show Kd.R (Kd.int .i64) 3 _ _ _ _ (rd_L1 t106 x7_2) from ge116_0)
                                        clear hv116_0 ge116_0
                                        clear hcc116 hce116
                                        have HR116_0 := Aside0.mk hi116_0
                                        have HC116_0 := Aside0.mk hl116_0
                                        clear hi116_0 hl116_0
                                        replace p116 := eq_true p116
                                        replace q116 := eq_true q116
                                        have ea_ := Option.some.inj (hx110_0.symm.trans hx116_0)
                                        injection ea_ with ea_ en_ ec_
                                        subst ea_
                                        subst ec_
                                        clear en_
                                        have p117 : 0 ≤ ((ji24) : Int) := of_decide_eq_true (by first | (with_reducible assumption) | assumption)
                                        have q117 : (ji24) < ((rd_L1 t106 x7_2).length : Int) := of_decide_eq_true (by first | (with_reducible assumption) | assumption)
                                        obtain ⟨ad117, e117, hx117_0⟩ := Kd.at_int (by repeat (first | (with_reducible exact HR116_0.out) | (with_reducible refine Kd.C_alloc ?_ _) | (with_reducible refine Kd.C_drewN ?_ _) | (with_reducible refine Kd.C_drew ?_) | exact HR116_0.out)) (ji24) p117 q117
                                        cases e117
                                        replace p117 := eq_true p117
                                        replace q117 := eq_true q117
                                        go_wp2
                                        repeat (go_quiet (fail); try go_wp2)
                                        go_meet
                                        case rel => exact ⟨_, (decide ((rd (rd_L1 t106 x7_2) x8_3) ≤ (rd (rd_L1 t106 x7_2) (ji24)))), (by first | rfl | (simp; done) | (simp only [← hji24] <;> (first | rfl | simp)) | (simp [*]; done)), H', ⟨by have := HJ3.out; have := HK2.out; have := HK3.out; first | omega | exact Nat.le_refl _⟩, ⟨by (with_reducible repeat (first | apply Kd.S_alloc | apply Kd.S_drewN | apply Kd.S_drew)); exact HO_5.out⟩, ⟨by (with_reducible repeat (first | apply Kd.S_alloc | apply Kd.S_drewN | apply Kd.S_drew)); exact HO_6.out⟩, ⟨by repeat (first | (with_reducible exact HR109_0.out) | (with_reducible refine Kd.C_alloc ?_ _) | (with_reducible refine Kd.C_drewN ?_ _) | (with_reducible refine Kd.C_drew ?_) | exact HR109_0.out)⟩, ⟨by repeat (first | (with_reducible first | exact HB.out | apply below_alloc | apply pw_below_drewN | apply below_drew1) | exact HB.out)⟩⟩
                                      · rw [if_neg c26] at H
                                        exact absurd H (by simp)
                                    · rw [if_neg c25] at H
                                      exact absurd H (by simp)
                                  · rw [if_neg c23] at H
                                    have c23b0 : decide (0 < x8_3) = false := decide_eq_false c23
                                    clear c23
                                    have H' := Aside0.mk H
                                    clear H
                                    have p110 : 0 ≤ (x7_2 : Int) := of_decide_eq_true (by first | (with_reducible assumption) | assumption)
                                    have q110 : x7_2 < (t106.length : Int) := of_decide_eq_true (by first | (with_reducible assumption) | assumption)
                                    obtain ⟨ad110, A110_0, c110_0, e110, hx110_0, hl110_0, hi110_0⟩ := at_L1 (Kd.S_reads' HO_6.out).2.2 x7_2 p110 q110
                                    obtain rfl : ad109 = ad110 := (by injection e110)
                                    obtain ⟨ce110, hce110, hMe110, hcc110⟩ := Kd.S_get HO_6.out [] x7_2 p110 (by first | exact q110 | exact of_decide_eq_true (by first | (with_reducible assumption) | assumption) | (have e_ := (Kd.S_reads' HO_6.out).1; omega))
                                    obtain ⟨ve110_0, rfl, ge110_0⟩ := hMe110
                                    have hv110_0 := hcc110 0 _ rfl
                                    rw [Nat.add_zero, show ((Kd.slice 3 (Kd.int .i64))).sz = 1 from rfl, Nat.mul_one] at hv110_0
                                    replace hv110_0 := Option.some.inj (hv110_0.symm.trans hx110_0)
                                    rw [hv110_0] at ge110_0
                                    have HL110_0 := Aside0.mk (show Kd.R (Kd.int .i64) 3 _ _ _ _ (rd_L1 t106 x7_2) from ge110_0)
                                    clear hv110_0 ge110_0
                                    clear hcc110 hce110
                                    have HR110_0 := Aside0.mk hi110_0
                                    have HC110_0 := Aside0.mk hl110_0
                                    clear hi110_0 hl110_0
                                    replace p110 := eq_true p110
                                    replace q110 := eq_true q110
                                    have ea_ := Option.some.inj (hx109_0.symm.trans hx110_0)
                                    injection ea_ with ea_ en_ ec_
                                    subst ea_
                                    subst ec_
                                    clear en_
                                    have p111 : 0 ≤ (x8_3 : Int) := of_decide_eq_true (by first | (with_reducible assumption) | assumption)
                                    have q111 : x8_3 < ((rd_L1 t106 x7_2).length : Int) := of_decide_eq_true (by first | (with_reducible assumption) | assumption)
                                    obtain ⟨ad111, e111, hx111_0⟩ := Kd.at_int (by repeat (first | (with_reducible exact HR110_0.out) | (with_reducible refine Kd.C_alloc ?_ _) | (with_reducible refine Kd.C_drewN ?_ _) | (with_reducible refine Kd.C_drew ?_) | exact HR110_0.out)) x8_3 p111 q111
                                    cases e111
                                    replace p111 := eq_true p111
                                    replace q111 := eq_true q111
                                    have p112 : 0 ≤ (x7_2 : Int) := of_decide_eq_true (by first | (with_reducible assumption) | assumption)
                                    have q112 : x7_2 < (t106.length : Int) := of_decide_eq_true (by first | (with_reducible assumption) | assumption)
                                    obtain ⟨ad112, A112_0, c112_0, e112, hx112_0, hl112_0, hi112_0⟩ := at_L1 (Kd.S_reads' HO_6.out).2.2 x7_2 p112 q112
                                    obtain rfl : ad109 = ad112 := (by injection e112)
                                    obtain ⟨ce112, hce112, hMe112, hcc112⟩ := Kd.S_get HO_6.out [] x7_2 p112 (by first | exact q112 | exact of_decide_eq_true (by first | (with_reducible assumption) | assumption) | (have e_ := (Kd.S_reads' HO_6.out).1; omega))
                                    obtain ⟨ve112_0, rfl, ge112_0⟩ := hMe112
                                    have hv112_0 := hcc112 0 _ rfl
                                    rw [Nat.add_zero, show ((Kd.slice 3 (Kd.int .i64))).sz = 1 from rfl, Nat.mul_one] at hv112_0
                                    replace hv112_0 := Option.some.inj (hv112_0.symm.trans hx112_0)
                                    rw [hv112_0] at ge112_0
                                    have HL112_0 := Aside0.mk (show Kd.R (Kd.int .i64) 3 _ _ _ _ (rd_L1 t106 x7_2) from ge112_0)
                                    clear hv112_0 ge112_0
                                    clear hcc112 hce112
                                    have HR112_0 := Aside0.mk hi112_0
                                    have HC112_0 := Aside0.mk hl112_0
                                    clear hi112_0 hl112_0
                                    replace p112 := eq_true p112
                                    replace q112 := eq_true q112
                                    have ea_ := Option.some.inj (hx110_0.symm.trans hx112_0)
                                    injection ea_ with ea_ en_ ec_
                                    subst ea_
                                    subst ec_
                                    clear en_
                                    have p113 : 0 ≤ (x8_3 : Int) := of_decide_eq_true (by first | (with_reducible assumption) | assumption)
                                    have q113 : x8_3 < ((rd_L1 t106 x7_2).length : Int) := of_decide_eq_true (by first | (with_reducible assumption) | assumption)
                                    obtain ⟨ad113, e113, hx113_0⟩ := Kd.at_int (by repeat (first | (with_reducible exact HR112_0.out) | (with_reducible refine Kd.C_alloc ?_ _) | (with_reducible refine Kd.C_drewN ?_ _) | (with_reducible refine Kd.C_drew ?_) | exact HR112_0.out)) x8_3 p113 q113
                                    cases e113
                                    replace p113 := eq_true p113
                                    replace q113 := eq_true q113
                                    go_wp2
                                    repeat (go_quiet (fail); try go_wp2)
                                    go_meet
                                    case rel => exact ⟨_, (false), (by first | rfl | (simp; done) | (simp [*]; done)), H', ⟨by have := HJ3.out; have := HK2.out; have := HK3.out; first | omega | exact Nat.le_refl _⟩, ⟨by (with_reducible repeat (first | apply Kd.S_alloc | apply Kd.S_drewN | apply Kd.S_drew)); exact HO_5.out⟩, ⟨by (with_reducible repeat (first | apply Kd.S_alloc | apply Kd.S_drewN | apply Kd.S_drew)); exact HO_6.out⟩, ⟨by repeat (first | (with_reducible exact HR109_0.out) | (with_reducible refine Kd.C_alloc ?_ _) | (with_reducible refine Kd.C_drewN ?_ _) | (with_reducible refine Kd.C_drew ?_) | exact HR109_0.out)⟩, ⟨by repeat (first | (with_reducible first | exact HB.out | apply below_alloc | apply pw_below_drewN | apply below_drew1) | exact HB.out)⟩⟩
                            · rw [if_neg c20] at H
                              exact absurd H (by simp)
                          case rest =>
                            clear HC19
                            try clear c1
                            try clear p1
                            try clear q1
                            try clear hx1
                            try clear c2
                            try clear p2
                            try clear c11
                            try clear p11
                            try clear q11
                            try clear hx11
                            try clear c20
                            try clear c25
                            try clear c25b0
                            try clear c27
                            try clear c28
                            try clear hx110_0
                            try clear hx111_0
                            try clear hx112_0
                            try clear hx113_0
                            try clear p110
                            try clear p111
                            try clear p112
                            try clear p113
                            try clear q110
                            try clear q111
                            try clear q112
                            try clear q113
                            obtain ⟨kq, x85_18, rfl, HA, HJ18, HO_5, HO_6, HR109_0, HB⟩ := hcut
                            cases kq with
                            | zero => exact absurd HA.out (by simp [runnellaw13_CompOrder.j3])
                            | succ kj18 =>
                              have H := HA.out
                              clear HA
                              simp only [runnellaw13_CompOrder.j3] at H
                              by_cases c31 : x85_18 = true
                              · subst c31
                                have H1 : (some false) = some r := by rw [if_pos rfl] at H; exact H
                                clear H
                                have H := H1
                                clear H1
                                obtain rfl := Option.some.inj H
                                go_wp2
                                go_ret
                                exact ⟨by first | rfl | (simp [errW_none, errW_some] <;> rfl) | (simp [*, errW_none, errW_some] <;> rfl), by repeat (first | (with_reducible first | exact HB.out | apply below_alloc | apply pw_below_drewN | apply below_drew1) | exact HB.out)⟩
                              · replace c31 := Bool.eq_false_iff.mpr c31
                                subst c31
                                have H1 : (runnellaw13_CompOrder.l1 kj18 l0 t103 t106 x7_2 (wrap64 (x8_3 + 1))) = some r := by rw [if_neg (show ¬ (false = true) by decide)] at H; exact H
                                clear H
                                have H := H1
                                clear H1
                                have H' := Aside0.mk H
                                clear H
                                go_wp2
                                go_roundg kj18
                                case measure => have := HJ3.out; have := HK2.out; have := HK3.out; have := HJ18.out; omega
                                case rel => exact ⟨(wrap64 (x8_3 + 1)), (by first | rfl | (simp; done) | (simp [*]; done)), H', ⟨by have := HJ3.out; have := HK2.out; have := HK3.out; have := HJ18.out; omega⟩, ⟨by (with_reducible repeat (first | apply Kd.S_alloc | apply Kd.S_drewN | apply Kd.S_drew)); exact HO_5.out⟩, ⟨by (with_reducible repeat (first | apply Kd.S_alloc | apply Kd.S_drewN | apply Kd.S_drew)); exact HO_6.out⟩, ⟨by repeat (first | (with_reducible first | exact HB.out | apply below_alloc | apply pw_below_drewN | apply below_drew1) | exact HB.out)⟩⟩
                        · rw [if_neg c18] at H
                          have c18b0 : decide (x8_3 < ((rd_L1 t106 x7_2).length : Int)) = false := decide_eq_false c18
                          clear c18
                          have H' := Aside0.mk H
                          clear H
                          have p109 : 0 ≤ (x7_2 : Int) := of_decide_eq_true (by first | (with_reducible assumption) | assumption)
                          have q109 : x7_2 < (t106.length : Int) := of_decide_eq_true (by first | (with_reducible assumption) | assumption)
                          obtain ⟨ad109, A109_0, c109_0, e109, hx109_0, hl109_0, hi109_0⟩ := at_L1 (Kd.S_reads' HO_6.out).2.2 x7_2 p109 q109
                          cases e109
                          obtain ⟨ce109, hce109, hMe109, hcc109⟩ := Kd.S_get HO_6.out [] x7_2 p109 (by first | exact q109 | exact of_decide_eq_true (by first | (with_reducible assumption) | assumption) | (have e_ := (Kd.S_reads' HO_6.out).1; omega))
                          obtain ⟨ve109_0, rfl, ge109_0⟩ := hMe109
                          have hv109_0 := hcc109 0 _ rfl
                          rw [Nat.add_zero, show ((Kd.slice 3 (Kd.int .i64))).sz = 1 from rfl, Nat.mul_one] at hv109_0
                          replace hv109_0 := Option.some.inj (hv109_0.symm.trans hx109_0)
                          rw [hv109_0] at ge109_0
                          have HL109_0 := Aside0.mk (show Kd.R (Kd.int .i64) 3 _ _ _ _ (rd_L1 t106 x7_2) from ge109_0)
                          clear hv109_0 ge109_0
                          clear hcc109 hce109
                          have HR109_0 := Aside0.mk hi109_0
                          have HC109_0 := Aside0.mk hl109_0
                          clear hi109_0 hl109_0
                          replace p109 := eq_true p109
                          replace q109 := eq_true q109
                          go_wp2
                          go_loopg [9] k3 (fun kq v9 w' => ∃ (x9_4 : Int), v9 = .int .i64 x9_4 ∧ Aside0 (runnellaw13_CompOrder.l2 kq l0 t103 t106 x7_2 x9_4 = some r) ∧ Aside0 (kq ≤ k3) ∧ Aside0 (Kd.S (Kd.slice 3 (Kd.int .i64)) 53 w' w.heap.size (fun k_ => some k_ ≠ ((.slice (some ad109) t106.length co13) : Value).ownBlock) (.slice Ao14 t103.length co14) t103) ∧ Aside0 (Kd.S (Kd.slice 3 (Kd.int .i64)) 53 w' w.heap.size (fun k_ => some k_ ≠ ((.slice Ao14 t103.length co14) : Value).ownBlock) (.slice (some ad109) t106.length co13) t106) ∧ Aside0 (Kd.C (Kd.int .i64) w' A109_0 (rd_L1 t106 x7_2).length (rd_L1 t106 x7_2)) ∧ Aside0 (Below w.heap.size w w'))
                          case atStart => exact ⟨(0), (by first | rfl | (simp; done) | (simp [*]; done)), H', ⟨Nat.le_refl _⟩, ⟨by (with_reducible repeat (first | apply Kd.S_alloc | apply Kd.S_drewN | apply Kd.S_drew)); exact HO_5.out⟩, ⟨by (with_reducible repeat (first | apply Kd.S_alloc | apply Kd.S_drewN | apply Kd.S_drew)); exact HO_6.out⟩, ⟨by repeat (first | (with_reducible exact HR109_0.out) | (with_reducible refine Kd.C_alloc ?_ _) | (with_reducible refine Kd.C_drewN ?_ _) | (with_reducible refine Kd.C_drew ?_) | exact HR109_0.out)⟩, ⟨by repeat (first | (with_reducible first | exact HB.out | apply below_alloc | apply pw_below_drewN | apply below_drew1) | exact HB.out)⟩⟩
                          case round =>
                            clear H'
                            try clear c1
                            try clear p1
                            try clear q1
                            try clear hx1
                            try clear c2
                            try clear p2
                            try clear c3
                            try clear p6
                            try clear c10
                            try clear p10
                            try clear q10
                            try clear hx10
                            try clear c11
                            try clear p11
                            try clear q11
                            try clear hx11
                            try clear c18
                            try clear c18b0
                            try clear c20
                            try clear c25
                            try clear c25b0
                            try clear c27
                            try clear c28
                            try clear c31
                            try clear hx109_0
                            try clear hx110_0
                            try clear hx111_0
                            try clear hx112_0
                            try clear hx113_0
                            try clear p1
                            try clear p109
                            try clear p11
                            try clear p110
                            try clear p111
                            try clear p112
                            try clear p113
                            try clear p2
                            try clear q1
                            try clear q109
                            try clear q11
                            try clear q110
                            try clear q111
                            try clear q112
                            try clear q113
                            obtain ⟨x9_4, rfl, HA, HK4, HO_5, HO_6, HR109_0, HB⟩ := hrel
                            cases gk with
                            | zero => exact absurd HA.out (by simp [runnellaw13_CompOrder.l2])
                            | succ k4 =>
                              have H := HA.out
                              clear HA
                              simp only [runnellaw13_CompOrder.l2] at H
                              by_cases c32 : 0 ≤ x7_2
                              · rw [if_pos c32] at H
                                have c32b0 : decide (0 ≤ x7_2) = true := decide_eq_true c32
                                clear c32
                                by_cases c33 : x7_2 < (t103.length : Int)
                                · rw [if_pos c33] at H
                                  have c33b0 : decide (x7_2 < (t103.length : Int)) = true := decide_eq_true c33
                                  clear c33
                                  by_cases c34 : x9_4 < ((rd_L1 t103 x7_2).length : Int)
                                  · rw [if_pos c34] at H
                                    have c34b0 : decide (x9_4 < ((rd_L1 t103 x7_2).length : Int)) = true := decide_eq_true c34
                                    clear c34
                                    by_cases c35 : 0 ≤ x9_4
                                    · rw [if_pos c35] at H
                                      have c35b0 : decide (0 ≤ x9_4) = true := decide_eq_true c35
                                      clear c35
                                      have HC36 := Aside0.mk H
                                      clear H
                                      have p118 : 0 ≤ (x7_2 : Int) := of_decide_eq_true (by first | (with_reducible assumption) | assumption)
                                      have q118 : x7_2 < (t103.length : Int) := of_decide_eq_true (by first | (with_reducible assumption) | assumption)
                                      obtain ⟨ad118, A118_0, c118_0, e118, hx118_0, hl118_0, hi118_0⟩ := at_L1 (Kd.S_reads' HO_5.out).2.2 x7_2 p118 q118
                                      cases e118
                                      obtain ⟨ce118, hce118, hMe118, hcc118⟩ := Kd.S_get HO_5.out [] x7_2 p118 (by first | exact q118 | exact of_decide_eq_true (by first | (with_reducible assumption) | assumption) | (have e_ := (Kd.S_reads' HO_5.out).1; omega))
                                      obtain ⟨ve118_0, rfl, ge118_0⟩ := hMe118
                                      have hv118_0 := hcc118 0 _ rfl
                                      rw [Nat.add_zero, show ((Kd.slice 3 (Kd.int .i64))).sz = 1 from rfl, Nat.mul_one] at hv118_0
                                      replace hv118_0 := Option.some.inj (hv118_0.symm.trans hx118_0)
                                      rw [hv118_0] at ge118_0
                                      have HL118_0 := Aside0.mk (show Kd.R (Kd.int .i64) 3 _ _ _ _ (rd_L1 t103 x7_2) from ge118_0)
                                      clear hv118_0 ge118_0
                                      clear hcc118 hce118
                                      have HR118_0 := Aside0.mk hi118_0
                                      have HC118_0 := Aside0.mk hl118_0
                                      clear hi118_0 hl118_0
                                      replace p118 := eq_true p118
                                      replace q118 := eq_true q118
                                      have p119 : 0 ≤ (x7_2 : Int) := of_decide_eq_true (by first | (with_reducible assumption) | assumption)
                                      have q119 : x7_2 < (t103.length : Int) := of_decide_eq_true (by first | (with_reducible assumption) | assumption)
                                      obtain ⟨ad119, A119_0, c119_0, e119, hx119_0, hl119_0, hi119_0⟩ := at_L1 (Kd.S_reads' HO_5.out).2.2 x7_2 p119 q119
                                      obtain rfl : ad118 = ad119 := (by injection e119)
                                      obtain ⟨ce119, hce119, hMe119, hcc119⟩ := Kd.S_get HO_5.out [] x7_2 p119 (by first | exact q119 | exact of_decide_eq_true (by first | (with_reducible assumption) | assumption) | (have e_ := (Kd.S_reads' HO_5.out).1; omega))
                                      obtain ⟨ve119_0, rfl, ge119_0⟩ := hMe119
                                      have hv119_0 := hcc119 0 _ rfl
                                      rw [Nat.add_zero, show ((Kd.slice 3 (Kd.int .i64))).sz = 1 from rfl, Nat.mul_one] at hv119_0
                                      replace hv119_0 := Option.some.inj (hv119_0.symm.trans hx119_0)
                                      rw [hv119_0] at ge119_0
                                      have HL119_0 := Aside0.mk (show Kd.R (Kd.int .i64) 3 _ _ _ _ (rd_L1 t103 x7_2) from ge119_0)
                                      clear hv119_0 ge119_0
                                      clear hcc119 hce119
                                      have HR119_0 := Aside0.mk hi119_0
                                      have HC119_0 := Aside0.mk hl119_0
                                      clear hi119_0 hl119_0
                                      replace p119 := eq_true p119
                                      replace q119 := eq_true q119
                                      have ea_ := Option.some.inj (hx118_0.symm.trans hx119_0)
                                      injection ea_ with ea_ en_ ec_
                                      subst ea_
                                      subst ec_
                                      clear en_
                                      have p120 : 0 ≤ (x9_4 : Int) := of_decide_eq_true (by first | (with_reducible assumption) | assumption)
                                      have q120 : x9_4 < ((rd_L1 t103 x7_2).length : Int) := of_decide_eq_true (by first | (with_reducible assumption) | assumption)
                                      obtain ⟨ad120, e120, hx120_0⟩ := Kd.at_int (by repeat (first | (with_reducible exact HR119_0.out) | (with_reducible refine Kd.C_alloc ?_ _) | (with_reducible refine Kd.C_drewN ?_ _) | (with_reducible refine Kd.C_drew ?_) | exact HR119_0.out)) x9_4 p120 q120
                                      cases e120
                                      replace p120 := eq_true p120
                                      replace q120 := eq_true q120
                                      go_upto_region 21 with (fail)
                                      go_cut [119] (fun v119 wc => ∃ (kq : Nat) (x119_35 : Bool), v119 = .bool x119_35 ∧ Aside0 (runnellaw13_CompOrder.j5 kq l0 t103 t106 x7_2 x9_4 x119_35 = some r) ∧ Aside0 (kq ≤ k4) ∧ Aside0 (Kd.S (Kd.slice 3 (Kd.int .i64)) 53 wc w.heap.size (fun k_ => some k_ ≠ ((.slice (some ad109) t106.length co13) : Value).ownBlock) (.slice (some ad118) t103.length co14) t103) ∧ Aside0 (Kd.S (Kd.slice 3 (Kd.int .i64)) 53 wc w.heap.size (fun k_ => some k_ ≠ ((.slice (some ad118) t103.length co14) : Value).ownBlock) (.slice (some ad109) t106.length co13) t106) ∧ Aside0 (Kd.C (Kd.int .i64) wc A109_0 (rd_L1 t106 x7_2).length (rd_L1 t106 x7_2)) ∧ Aside0 (Kd.C (Kd.int .i64) wc (some ad120) (rd_L1 t103 x7_2).length (rd_L1 t103 x7_2)) ∧ Aside0 (Kd.C (Kd.int .i64) wc (some ad120) (rd_L1 t103 x7_2).length (rd_L1 t103 x7_2)) ∧ Aside0 (Below w.heap.size w wc))
                                      case first =>
                                        have H := HC36.out
                                        clear HC36
                                        replace H := Option.bind_eq_some_iff.mp H
                                        obtain ⟨t121, A370, H⟩ := H
                                        replace H : (if ((rd_L1 t103 x7_2).length : Int) > 1 then (runnellaw13_CompOrder.j5 k4 l0 t103 t106 x7_2 x9_4 (t121 != true)) else (if 0 ≤ (rd (rd_L1 t103 x7_2) x9_4) then (if (rd (rd_L1 t103 x7_2) x9_4) < (l0.length : Int) then ((runnellaw13_among.f k4 (rd_L1 l0 (rd (rd_L1 t103 x7_2) x9_4)) (rd (rd_L1 t103 x7_2) x9_4)).bind fun t124 => (runnellaw13_CompOrder.j5 k4 l0 t103 t106 x7_2 x9_4 (t121 != t124))) else (none)) else (none))) = some r := H
                                        have A37 := Aside0.mk A370
                                        clear A370
                                        by_cases c38 : ((rd_L1 t103 x7_2).length : Int) > 1
                                        · rw [if_pos c38] at H
                                          have c38b0 : decide (1 < ((rd_L1 t103 x7_2).length : Int)) = true := decide_eq_true c38
                                          have c38b1 : decide (1 < (rd_L1 t103 x7_2).length) = true := decide_eq_true (by omega)
                                          clear c38
                                          (first | rw [c38b0] | (simp only [i64_w, i32_w]; rw [c38b0]) | skip)
                                          have H' := Aside0.mk H
                                          clear H
                                          try go_wp2
                                          have n0_ := Aside0.mk (Kd.S_drew HO_5.out)
                                          have n1_ := Aside0.mk (Kd.S_drew HO_6.out)
                                          have n2_ := Aside0.mk (Kd.R_drew HL118_0.out)
                                          have n3_ := Aside0.mk (Kd.R_drew HL119_0.out)
                                          have n4_ := Aside0.mk (Kd.C_drew HR109_0.out)
                                          have n5_ := Aside0.mk (Kd.C_drew HR118_0.out)
                                          have n6_ := Aside0.mk (Kd.C_drew HR119_0.out)
                                          have n7_ := Aside0.mk (below_drew1 HB.out)
                                          clear HO_5
                                          clear HO_6
                                          clear HL118_0
                                          clear HL119_0
                                          clear HR109_0
                                          clear HR118_0
                                          clear HR119_0
                                          clear HB
                                          have HO_5 := n0_
                                          have HO_6 := n1_
                                          have HL118_0 := n2_
                                          have HL119_0 := n3_
                                          have HR109_0 := n4_
                                          have HR118_0 := n5_
                                          have HR119_0 := n6_
                                          have HB := n7_
                                          clear n0_ n1_ n2_ n3_ n4_ n5_ n6_ n7_
                                          have p122 : 0 ≤ (x7_2 : Int) := of_decide_eq_true (by first | (with_reducible assumption) | assumption)
                                          have q122 : x7_2 < (t103.length : Int) := of_decide_eq_true (by first | (with_reducible assumption) | assumption)
                                          obtain ⟨ad122, A122_0, c122_0, e122, hx122_0, hl122_0, hi122_0⟩ := at_L1 (Kd.S_reads' HO_5.out).2.2 x7_2 p122 q122
                                          obtain rfl : ad118 = ad122 := (by injection e122)
                                          obtain ⟨ce122, hce122, hMe122, hcc122⟩ := Kd.S_get HO_5.out [] x7_2 p122 (by first | exact q122 | exact of_decide_eq_true (by first | (with_reducible assumption) | assumption) | (have e_ := (Kd.S_reads' HO_5.out).1; omega))
                                          obtain ⟨ve122_0, rfl, ge122_0⟩ := hMe122
                                          have hv122_0 := hcc122 0 _ rfl
                                          rw [Nat.add_zero, show ((Kd.slice 3 (Kd.int .i64))).sz = 1 from rfl, Nat.mul_one] at hv122_0
                                          replace hv122_0 := Option.some.inj (hv122_0.symm.trans hx122_0)
                                          rw [hv122_0] at ge122_0
                                          have HL122_0 := Aside0.mk (show Kd.R (Kd.int .i64) 3 _ _ _ _ (rd_L1 t103 x7_2) from ge122_0)
                                          clear hv122_0 ge122_0
                                          clear hcc122 hce122
                                          have HR122_0 := Aside0.mk hi122_0
                                          have HC122_0 := Aside0.mk hl122_0
                                          clear hi122_0 hl122_0
                                          replace p122 := eq_true p122
                                          replace q122 := eq_true q122
                                          refine start_ (n := 18) (S := fun w' => w'.cell? (ad118.add (x7_2).toNat) = some (.slice A122_0 (rd_L1 t103 x7_2).length c122_0)) (ds := []) #[false, false, false, false, false, false, false, false, false, false, false, false, false, false, false, false, false, false] (by kernel_rfl) rfl rfl (hx122_0) (fun hHeld => ?_); refine with_tabW runnellaw13_CompOrder.tab21 runnellaw13_CompOrder.bits21 (fun HT_ HW_ => ?_)
                                          generalize wr.drew = w39 at HO_5 HO_6 HL118_0 HL119_0 HR109_0 HR118_0 HR119_0 HB HL122_0 HR122_0 hx122_0 hHeld ⊢
                                          refine pure_ (i := 0) (N := some 102) (v := ?_) (a' := ?_) #[true, false, false, false, false, false, false, false, false, false, false, false, false, false, false, false, false, false] rfl rfl (any_of HT_.out (by kernel_rfl)) (fun _ _ _ h => h) (Or.inl ⟨by rfl, ?_⟩) ?_ ?_
                                          rotate_left
                                          · intro w'
                                            go_simp
                                            with_reducible rfl
                                          rotate_left
                                          · simp only [Act.put, List.setIfInBounds_toArray, List.set_cons_zero, List.set_cons_succ, i64_w, i32_w]
                                            rfl
                                          refine pure_ (i := 1) (N := some 103) (v := ?_) (a' := ?_) #[true, true, false, false, false, false, false, false, false, false, false, false, false, false, false, false, false, false] rfl rfl (any_of HT_.out (by kernel_rfl)) (fun _ _ _ h => h) (Or.inl ⟨by rfl, ?_⟩) ?_ ?_
                                          rotate_left
                                          · intro w'
                                            go_simp
                                            with_reducible rfl
                                          rotate_left
                                          · simp only [Act.put, List.setIfInBounds_toArray, List.set_cons_zero, List.set_cons_succ, i64_w, i32_w]
                                            rfl
                                          refine pure_ (i := 3) (N := some 105) (v := ?_) (a' := ?_) #[true, true, false, true, false, false, false, false, false, false, false, false, false, false, false, false, false, false] rfl rfl (any_of HT_.out (by kernel_rfl)) (fun _ _ _ h => h) (Or.inl ⟨by rfl, ?_⟩) ?_ ?_
                                          rotate_left
                                          · intro w'
                                            go_simp
                                            with_reducible rfl
                                          rotate_left
                                          · simp only [Act.put, List.setIfInBounds_toArray, List.set_cons_zero, List.set_cons_succ, i64_w, i32_w]
                                            rfl
                                          refine pure_ (i := 4) (N := some 106) (v := ?_) (a' := ?_) #[true, true, false, true, true, false, false, false, false, false, false, false, false, false, false, false, false, false] rfl rfl (any_of HT_.out (by kernel_rfl)) (fun _ _ _ h => h) (Or.inl ⟨by rfl, ?_⟩) ?_ ?_
                                          rotate_left
                                          · intro w'
                                            go_simp
                                            with_reducible rfl
                                          rotate_left
                                          · simp only [Act.put, List.setIfInBounds_toArray, List.set_cons_zero, List.set_cons_succ, i64_w, i32_w]
                                            rfl
                                          refine pure_ (i := 5) (N := some 107) (v := ?_) (a' := ?_) #[true, true, false, true, true, true, false, false, false, false, false, false, false, false, false, false, false, false] rfl rfl (any_of HT_.out (by kernel_rfl)) (fun _ _ _ h => h) (Or.inl ⟨by rfl, ?_⟩) ?_ ?_
                                          rotate_left
                                          · intro w'
                                            go_simp
                                            with_reducible rfl
                                          rotate_left
                                          · simp only [Act.put, List.setIfInBounds_toArray, List.set_cons_zero, List.set_cons_succ, i64_w, i32_w]
                                            rfl
                                          refine take_ (i := 6) (N := some 108) (v := ?_) (a' := ?_) #[true, true, false, true, true, true, true, false, false, false, false, false, false, false, false, false, false, false] rfl rfl (take_ofW HT_.out HW_.out (by kernel_rfl)) (fun _ _ _ h => h) (Or.inl ⟨by rfl, ?_⟩) hHeld ?_ ?_
                                          rotate_left
                                          · intro w' s0
                                            go_simp
                                            with_reducible rfl
                                          rotate_left
                                          · simp only [Act.put, List.setIfInBounds_toArray, List.set_cons_zero, List.set_cons_succ, i64_w, i32_w]
                                            rfl
                                          refine pure_ (i := 7) (N := some 109) (v := ?_) (a' := ?_) #[true, true, false, true, true, true, true, true, false, false, false, false, false, false, false, false, false, false] rfl rfl (any_of HT_.out (by kernel_rfl)) (fun _ _ _ h => h) (Or.inl ⟨by rfl, ?_⟩) ?_ ?_
                                          rotate_left
                                          · intro w'
                                            go_simp
                                            with_reducible rfl
                                          rotate_left
                                          · simp only [Act.put, List.setIfInBounds_toArray, List.set_cons_zero, List.set_cons_succ, i64_w, i32_w]
                                            rfl
                                          refine pure_ (i := 8) (N := some 110) (v := ?_) (a' := ?_) #[true, true, false, true, true, true, true, true, true, false, false, false, false, false, false, false, false, false] rfl rfl (any_of HT_.out (by kernel_rfl)) (fun _ _ _ h => h) (Or.inl ⟨by rfl, ?_⟩) ?_ ?_
                                          rotate_left
                                          · intro w'
                                            go_simp
                                            with_reducible rfl
                                          rotate_left
                                          · simp only [Act.put, List.setIfInBounds_toArray, List.set_cons_zero, List.set_cons_succ, i64_w, i32_w]
                                            rfl
                                          refine one_ (i := 2) (N := some 104) #[true, true, true, true, true, true, true, true, true, false, false, false, false, false, false, false, false, false] rfl rfl (one_of HT_.out (by kernel_rfl)) (by decide) (fun K hK => ?_)
                                          refine goes_ Try.func49 (by kernel_rfl) rfl #[.slice A0 l0.length c0, .int .i64 (rd (rd_L1 t103 x7_2) x9_4)] (by rfl) rfl rfl (by (try simp only [List.map_toArray, List.map_cons, List.map_nil]); first | done | rfl | (simp only [List.length_drop, List.length_take]; rfl)) ?_
                                          with_reducible refine (comp_Cyclic.calls k4 _ _ l0 (rd (rd_L1 t103 x7_2) x9_4) t121 _ ?side1 ?side2 A37.out).mono ?_
                                          (case side1 => repeat (first | exact (Kd.C_below HR0.out HB.out) | (with_reducible refine Kd.C_alloc ?_ _) | (with_reducible refine Kd.C_drewN ?_ _) | (with_reducible refine Kd.C_drew ?_)))
                                          (case side2 => exact HC0.out)
                                          rintro e w40 ⟨rfl, hb⟩
                                          have HS0_ := (hb.cell (World.block_lt_of_cell? _ _ (hHeld))).trans (hHeld)
                                          refine ⟨_, rfl, ?_⟩
                                          have n0_ := Aside0.mk (Kd.S_below (by (with_reducible repeat (first | apply Kd.S_alloc | apply Kd.S_drewN | apply Kd.S_drew)); exact HO_5.out) hb)
                                          have n1_ := Aside0.mk (Kd.S_below (by (with_reducible repeat (first | apply Kd.S_alloc | apply Kd.S_drewN | apply Kd.S_drew)); exact HO_6.out) hb)
                                          have n2_ := Aside0.mk (Kd.R_below (by (with_reducible repeat (first | apply Kd.R_alloc | apply Kd.R_drewN | apply Kd.R_drew)); exact HL118_0.out) hb)
                                          have n3_ := Aside0.mk (Kd.R_below (by (with_reducible repeat (first | apply Kd.R_alloc | apply Kd.R_drewN | apply Kd.R_drew)); exact HL119_0.out) hb)
                                          have n4_ := Aside0.mk (Kd.R_below (by (with_reducible repeat (first | apply Kd.R_alloc | apply Kd.R_drewN | apply Kd.R_drew)); exact HL122_0.out) hb)
                                          have n5_ := Aside0.mk (Kd.C_below (by repeat (first | (with_reducible exact HR109_0.out) | (with_reducible refine Kd.C_alloc ?_ _) | (with_reducible refine Kd.C_drewN ?_ _) | (with_reducible refine Kd.C_drew ?_) | exact HR109_0.out)) hb)
                                          have n6_ := Aside0.mk (Kd.C_below (by repeat (first | (with_reducible exact HR118_0.out) | (with_reducible refine Kd.C_alloc ?_ _) | (with_reducible refine Kd.C_drewN ?_ _) | (with_reducible refine Kd.C_drew ?_) | exact HR118_0.out)) hb)
                                          have n7_ := Aside0.mk (Kd.C_below (by repeat (first | (with_reducible exact HR119_0.out) | (with_reducible refine Kd.C_alloc ?_ _) | (with_reducible refine Kd.C_drewN ?_ _) | (with_reducible refine Kd.C_drew ?_) | exact HR119_0.out)) hb)
                                          have n8_ := Aside0.mk (Kd.C_below (by repeat (first | (with_reducible exact HR122_0.out) | (with_reducible refine Kd.C_alloc ?_ _) | (with_reducible refine Kd.C_drewN ?_ _) | (with_reducible refine Kd.C_drew ?_) | exact HR122_0.out)) hb)
                                          have n9_ := Aside0.mk (below_step (by repeat (first | (with_reducible first | exact HB.out | apply below_alloc | apply pw_below_drewN | apply below_drew1) | exact HB.out)) hb)
                                          clear HO_5
                                          clear HO_6
                                          clear HL118_0
                                          clear HL119_0
                                          clear HL122_0
                                          clear HR109_0
                                          clear HR118_0
                                          clear HR119_0
                                          clear HR122_0
                                          clear HB
                                          have HO_5 := n0_
                                          have HO_6 := n1_
                                          have HL118_0 := n2_
                                          have HL119_0 := n3_
                                          have HL122_0 := n4_
                                          have HR109_0 := n5_
                                          have HR118_0 := n6_
                                          have HR119_0 := n7_
                                          have HR122_0 := n8_
                                          have HB := n9_
                                          clear n0_ n1_ n2_ n3_ n4_ n5_ n6_ n7_ n8_ n9_
                                          (try clear hb)
                                          (try clear hb2)
                                          (try clear hk)
                                          (try clear hi)
                                          refine hK.out _ _ (HS0_) (fun hHeld => ?_)
                                          clear hK K
                                          refine norm_ (a' := ?_) ?_ ?_
                                          rotate_left
                                          · show Act.put _ (some 104) _ = _
                                            simp only [Act.put, List.setIfInBounds_toArray, List.set_cons_zero, List.set_cons_succ, i64_w, i32_w]
                                            rfl
                                          refine pure_ (i := 9) (N := some 111) (v := ?_) (a' := ?_) #[true, true, true, true, true, true, true, true, true, true, false, false, false, false, false, false, false, false] rfl rfl (any_of HT_.out (by kernel_rfl)) (fun _ _ _ h => h) (Or.inl ⟨by rfl, ?_⟩) ?_ ?_
                                          rotate_left
                                          · intro w'
                                            go_simp
                                            with_reducible rfl
                                          rotate_left
                                          · simp only [Act.put, List.setIfInBounds_toArray, List.set_cons_zero, List.set_cons_succ, i64_w, i32_w]
                                            rfl
                                          refine pure_ (i := 10) (N := some 112) (v := undef) (a' := ?_) #[true, true, true, true, true, true, true, true, true, true, true, false, false, false, false, false, false, false] rfl rfl (any_of HT_.out (by kernel_rfl)) (fun _ _ _ h => h) (Or.inr ⟨by rfl, rfl⟩) ?_ ?_
                                          rotate_left
                                          · simp only [Act.put, List.setIfInBounds_toArray, List.set_cons_zero, List.set_cons_succ, i64_w, i32_w]
                                            rfl
                                          refine pure_ (i := 11) (N := some 113) (v := undef) (a' := ?_) #[true, true, true, true, true, true, true, true, true, true, true, true, false, false, false, false, false, false] rfl rfl (any_of HT_.out (by kernel_rfl)) (fun _ _ _ h => h) (Or.inr ⟨by rfl, rfl⟩) ?_ ?_
                                          rotate_left
                                          · simp only [Act.put, List.setIfInBounds_toArray, List.set_cons_zero, List.set_cons_succ, i64_w, i32_w]
                                            rfl
                                          refine pure_ (i := 12) (N := some 114) (v := undef) (a' := ?_) #[true, true, true, true, true, true, true, true, true, true, true, true, true, false, false, false, false, false] rfl rfl (any_of HT_.out (by kernel_rfl)) (fun _ _ _ h => h) (Or.inr ⟨by rfl, rfl⟩) ?_ ?_
                                          rotate_left
                                          · simp only [Act.put, List.setIfInBounds_toArray, List.set_cons_zero, List.set_cons_succ, i64_w, i32_w]
                                            rfl
                                          refine pure_ (i := 13) (N := some 115) (v := undef) (a' := ?_) #[true, true, true, true, true, true, true, true, true, true, true, true, true, true, false, false, false, false] rfl rfl (any_of HT_.out (by kernel_rfl)) (fun _ _ _ h => h) (Or.inr ⟨by rfl, rfl⟩) ?_ ?_
                                          rotate_left
                                          · simp only [Act.put, List.setIfInBounds_toArray, List.set_cons_zero, List.set_cons_succ, i64_w, i32_w]
                                            rfl
                                          refine pure_ (i := 14) (N := some 116) (v := undef) (a' := ?_) #[true, true, true, true, true, true, true, true, true, true, true, true, true, true, true, false, false, false] rfl rfl (any_of HT_.out (by kernel_rfl)) (fun _ _ _ h => h) (Or.inr ⟨by rfl, rfl⟩) ?_ ?_
                                          rotate_left
                                          · simp only [Act.put, List.setIfInBounds_toArray, List.set_cons_zero, List.set_cons_succ, i64_w, i32_w]
                                            rfl
                                          refine pure_ (i := 15) (N := some 117) (v := undef) (a' := ?_) #[true, true, true, true, true, true, true, true, true, true, true, true, true, true, true, true, false, false] rfl rfl (any_of HT_.out (by kernel_rfl)) (fun _ _ _ h => h) (Or.inr ⟨by rfl, rfl⟩) ?_ ?_
                                          rotate_left
                                          · simp only [Act.put, List.setIfInBounds_toArray, List.set_cons_zero, List.set_cons_succ, i64_w, i32_w]
                                            rfl
                                          refine pure_ (i := 16) (N := some 118) (v := ?_) (a' := ?_) #[true, true, true, true, true, true, true, true, true, true, true, true, true, true, true, true, true, false] rfl rfl (any_of HT_.out (by kernel_rfl)) (fun _ _ _ h => h) (Or.inl ⟨by rfl, ?_⟩) ?_ ?_
                                          rotate_left
                                          · intro w'
                                            go_simp
                                            with_reducible rfl
                                          rotate_left
                                          · simp only [Act.put, List.setIfInBounds_toArray, List.set_cons_zero, List.set_cons_succ, i64_w, i32_w]
                                            rfl
                                          refine pure_ (i := 17) (N := some 119) (v := ?_) (a' := ?_) #[true, true, true, true, true, true, true, true, true, true, true, true, true, true, true, true, true, true] rfl rfl (any_of HT_.out (by kernel_rfl)) (fun _ _ _ h => h) (Or.inl ⟨by rfl, ?_⟩) ?_ ?_
                                          rotate_left
                                          · intro w'
                                            go_simp
                                            with_reducible rfl
                                          rotate_left
                                          · simp only [Act.put, List.setIfInBounds_toArray, List.set_cons_zero, List.set_cons_succ, i64_w, i32_w]
                                            rfl
                                          refine done_ (done_of HT_.out (by kernel_rfl)) ?_
                                          try go_wp2
                                          go_meet
                                          case rel => exact ⟨_, ((t121 != true)), (by first | rfl | (simp; done) | (simp [*]; done)), H', ⟨by have := HJ3.out; have := HK2.out; have := HK3.out; have := HK4.out; first | omega | exact Nat.le_refl _⟩, ⟨by (with_reducible repeat (first | apply Kd.S_alloc | apply Kd.S_drewN | apply Kd.S_drew)); exact HO_5.out⟩, ⟨by (with_reducible repeat (first | apply Kd.S_alloc | apply Kd.S_drewN | apply Kd.S_drew)); exact HO_6.out⟩, ⟨by repeat (first | (with_reducible exact HR109_0.out) | (with_reducible refine Kd.C_alloc ?_ _) | (with_reducible refine Kd.C_drewN ?_ _) | (with_reducible refine Kd.C_drew ?_) | exact HR109_0.out)⟩, ⟨by repeat (first | (with_reducible exact HR118_0.out) | (with_reducible refine Kd.C_alloc ?_ _) | (with_reducible refine Kd.C_drewN ?_ _) | (with_reducible refine Kd.C_drew ?_) | exact HR118_0.out)⟩, ⟨by repeat (first | (with_reducible exact HR119_0.out) | (with_reducible refine Kd.C_alloc ?_ _) | (with_reducible refine Kd.C_drewN ?_ _) | (with_reducible refine Kd.C_drew ?_) | exact HR119_0.out)⟩, ⟨by repeat (first | (with_reducible first | exact HB.out | apply below_alloc | apply pw_below_drewN | apply below_drew1) | exact HB.out)⟩⟩
                                        · rw [if_neg c38] at H
                                          have c38b0 : decide (1 < ((rd_L1 t103 x7_2).length : Int)) = false := decide_eq_false c38
                                          have c38b1 : decide (1 < (rd_L1 t103 x7_2).length) = false := decide_eq_false (by omega)
                                          clear c38
                                          (first | rw [c38b0] | (simp only [i64_w, i32_w]; rw [c38b0]) | skip)
                                          by_cases c41 : 0 ≤ (rd (rd_L1 t103 x7_2) x9_4)
                                          · rw [if_pos c41] at H
                                            have c41b0 : decide (0 ≤ (rd (rd_L1 t103 x7_2) x9_4)) = true := decide_eq_true c41
                                            clear c41
                                            by_cases c42 : (rd (rd_L1 t103 x7_2) x9_4) < (l0.length : Int)
                                            · rw [if_pos c42] at H
                                              have c42b0 : decide ((rd (rd_L1 t103 x7_2) x9_4) < (l0.length : Int)) = true := decide_eq_true c42
                                              clear c42
                                              replace H := Option.bind_eq_some_iff.mp H
                                              obtain ⟨t124, A430, H⟩ := H
                                              replace H : (runnellaw13_CompOrder.j5 k4 l0 t103 t106 x7_2 x9_4 (t121 != t124)) = some r := H
                                              have A43 := Aside0.mk A430
                                              clear A430
                                              have H' := Aside0.mk H
                                              clear H
                                              try go_wp2
                                              have n0_ := Aside0.mk (Kd.S_drew HO_5.out)
                                              have n1_ := Aside0.mk (Kd.S_drew HO_6.out)
                                              have n2_ := Aside0.mk (Kd.R_drew HL118_0.out)
                                              have n3_ := Aside0.mk (Kd.R_drew HL119_0.out)
                                              have n4_ := Aside0.mk (Kd.C_drew HR109_0.out)
                                              have n5_ := Aside0.mk (Kd.C_drew HR118_0.out)
                                              have n6_ := Aside0.mk (Kd.C_drew HR119_0.out)
                                              have n7_ := Aside0.mk (below_drew1 HB.out)
                                              clear HO_5
                                              clear HO_6
                                              clear HL118_0
                                              clear HL119_0
                                              clear HR109_0
                                              clear HR118_0
                                              clear HR119_0
                                              clear HB
                                              have HO_5 := n0_
                                              have HO_6 := n1_
                                              have HL118_0 := n2_
                                              have HL119_0 := n3_
                                              have HR109_0 := n4_
                                              have HR118_0 := n5_
                                              have HR119_0 := n6_
                                              have HB := n7_
                                              clear n0_ n1_ n2_ n3_ n4_ n5_ n6_ n7_
                                              have p122 : 0 ≤ (x7_2 : Int) := of_decide_eq_true (by first | (with_reducible assumption) | assumption)
                                              have q122 : x7_2 < (t103.length : Int) := of_decide_eq_true (by first | (with_reducible assumption) | assumption)
                                              obtain ⟨ad122, A122_0, c122_0, e122, hx122_0, hl122_0, hi122_0⟩ := at_L1 (Kd.S_reads' HO_5.out).2.2 x7_2 p122 q122
                                              obtain rfl : ad118 = ad122 := (by injection e122)
                                              obtain ⟨ce122, hce122, hMe122, hcc122⟩ := Kd.S_get HO_5.out [] x7_2 p122 (by first | exact q122 | exact of_decide_eq_true (by first | (with_reducible assumption) | assumption) | (have e_ := (Kd.S_reads' HO_5.out).1; omega))
                                              obtain ⟨ve122_0, rfl, ge122_0⟩ := hMe122
                                              have hv122_0 := hcc122 0 _ rfl
                                              rw [Nat.add_zero, show ((Kd.slice 3 (Kd.int .i64))).sz = 1 from rfl, Nat.mul_one] at hv122_0
                                              replace hv122_0 := Option.some.inj (hv122_0.symm.trans hx122_0)
                                              rw [hv122_0] at ge122_0
                                              have HL122_0 := Aside0.mk (show Kd.R (Kd.int .i64) 3 _ _ _ _ (rd_L1 t103 x7_2) from ge122_0)
                                              clear hv122_0 ge122_0
                                              clear hcc122 hce122
                                              have HR122_0 := Aside0.mk hi122_0
                                              have HC122_0 := Aside0.mk hl122_0
                                              clear hi122_0 hl122_0
                                              replace p122 := eq_true p122
                                              replace q122 := eq_true q122
                                              have p123 : 0 ≤ ((rd (rd_L1 t103 x7_2) x9_4) : Int) := of_decide_eq_true (by first | (with_reducible assumption) | assumption)
                                              have q123 : (rd (rd_L1 t103 x7_2) x9_4) < (l0.length : Int) := of_decide_eq_true (by first | (with_reducible assumption) | assumption)
                                              obtain ⟨ad123, A123_0, c123_0, e123, hx123_0, hl123_0, hi123_0⟩ := at_L1 HR0.out (rd (rd_L1 t103 x7_2) x9_4) p123 q123
                                              have hw123_0 := hx123_0
                                              cases e123
                                              replace hx123_0 := (HB.out.cell (World.block_lt_of_cell? w _ hx123_0)).trans hx123_0
                                              have HR123_0 := Aside0.mk hi123_0
                                              have HC123_0 := Aside0.mk hl123_0
                                              clear hi123_0 hl123_0
                                              replace p123 := eq_true p123
                                              replace q123 := eq_true q123
                                              refine start_ (n := 18) (S := fun w' => w'.cell? (ad118.add (x7_2).toNat) = some (.slice A122_0 (rd_L1 t103 x7_2).length c122_0) ∧ w'.cell? (ad123.add ((rd (rd_L1 t103 x7_2) x9_4)).toNat) = some (.slice A123_0 (rd_L1 l0 (rd (rd_L1 t103 x7_2) x9_4)).length c123_0)) (ds := []) #[false, false, false, false, false, false, false, false, false, false, false, false, false, false, false, false, false, false] (by kernel_rfl) rfl rfl ⟨hx122_0, ((HB.out.cell (World.block_lt_of_cell? w _ hw123_0)).trans hw123_0)⟩ (fun hHeld => ?_); refine with_tabW runnellaw13_CompOrder.tab21 runnellaw13_CompOrder.bits21 (fun HT_ HW_ => ?_)
                                              generalize wr.drew = w44 at HO_5 HO_6 HL118_0 HL119_0 HR109_0 HR118_0 HR119_0 HB HL122_0 HR122_0 HR123_0 hx122_0 hx123_0 hHeld ⊢
                                              refine pure_ (i := 0) (N := some 102) (v := ?_) (a' := ?_) #[true, false, false, false, false, false, false, false, false, false, false, false, false, false, false, false, false, false] rfl rfl (any_of HT_.out (by kernel_rfl)) (fun _ _ _ h => h) (Or.inl ⟨by rfl, ?_⟩) ?_ ?_
                                              rotate_left
                                              · intro w'
                                                go_simp
                                                with_reducible rfl
                                              rotate_left
                                              · simp only [Act.put, List.setIfInBounds_toArray, List.set_cons_zero, List.set_cons_succ, i64_w, i32_w]
                                                rfl
                                              refine pure_ (i := 1) (N := some 103) (v := ?_) (a' := ?_) #[true, true, false, false, false, false, false, false, false, false, false, false, false, false, false, false, false, false] rfl rfl (any_of HT_.out (by kernel_rfl)) (fun _ _ _ h => h) (Or.inl ⟨by rfl, ?_⟩) ?_ ?_
                                              rotate_left
                                              · intro w'
                                                go_simp
                                                with_reducible rfl
                                              rotate_left
                                              · simp only [Act.put, List.setIfInBounds_toArray, List.set_cons_zero, List.set_cons_succ, i64_w, i32_w]
                                                rfl
                                              refine pure_ (i := 3) (N := some 105) (v := ?_) (a' := ?_) #[true, true, false, true, false, false, false, false, false, false, false, false, false, false, false, false, false, false] rfl rfl (any_of HT_.out (by kernel_rfl)) (fun _ _ _ h => h) (Or.inl ⟨by rfl, ?_⟩) ?_ ?_
                                              rotate_left
                                              · intro w'
                                                go_simp
                                                with_reducible rfl
                                              rotate_left
                                              · simp only [Act.put, List.setIfInBounds_toArray, List.set_cons_zero, List.set_cons_succ, i64_w, i32_w]
                                                rfl
                                              refine pure_ (i := 4) (N := some 106) (v := ?_) (a' := ?_) #[true, true, false, true, true, false, false, false, false, false, false, false, false, false, false, false, false, false] rfl rfl (any_of HT_.out (by kernel_rfl)) (fun _ _ _ h => h) (Or.inl ⟨by rfl, ?_⟩) ?_ ?_
                                              rotate_left
                                              · intro w'
                                                go_simp
                                                with_reducible rfl
                                              rotate_left
                                              · simp only [Act.put, List.setIfInBounds_toArray, List.set_cons_zero, List.set_cons_succ, i64_w, i32_w]
                                                rfl
                                              refine pure_ (i := 5) (N := some 107) (v := ?_) (a' := ?_) #[true, true, false, true, true, true, false, false, false, false, false, false, false, false, false, false, false, false] rfl rfl (any_of HT_.out (by kernel_rfl)) (fun _ _ _ h => h) (Or.inl ⟨by rfl, ?_⟩) ?_ ?_
                                              rotate_left
                                              · intro w'
                                                go_simp
                                                with_reducible rfl
                                              rotate_left
                                              · simp only [Act.put, List.setIfInBounds_toArray, List.set_cons_zero, List.set_cons_succ, i64_w, i32_w]
                                                rfl
                                              refine take_ (i := 6) (N := some 108) (v := ?_) (a' := ?_) #[true, true, false, true, true, true, true, false, false, false, false, false, false, false, false, false, false, false] rfl rfl (take_ofW HT_.out HW_.out (by kernel_rfl)) (fun _ _ _ h => h) (Or.inl ⟨by rfl, ?_⟩) hHeld ?_ ?_
                                              rotate_left
                                              · rintro w' ⟨s0, s1⟩
                                                go_simp
                                                with_reducible rfl
                                              rotate_left
                                              · simp only [Act.put, List.setIfInBounds_toArray, List.set_cons_zero, List.set_cons_succ, i64_w, i32_w]
                                                rfl
                                              refine pure_ (i := 7) (N := some 109) (v := ?_) (a' := ?_) #[true, true, false, true, true, true, true, true, false, false, false, false, false, false, false, false, false, false] rfl rfl (any_of HT_.out (by kernel_rfl)) (fun _ _ _ h => h) (Or.inl ⟨by rfl, ?_⟩) ?_ ?_
                                              rotate_left
                                              · intro w'
                                                go_simp
                                                with_reducible rfl
                                              rotate_left
                                              · simp only [Act.put, List.setIfInBounds_toArray, List.set_cons_zero, List.set_cons_succ, i64_w, i32_w]
                                                rfl
                                              refine pure_ (i := 8) (N := some 110) (v := ?_) (a' := ?_) #[true, true, false, true, true, true, true, true, true, false, false, false, false, false, false, false, false, false] rfl rfl (any_of HT_.out (by kernel_rfl)) (fun _ _ _ h => h) (Or.inl ⟨by rfl, ?_⟩) ?_ ?_
                                              rotate_left
                                              · intro w'
                                                go_simp
                                                with_reducible rfl
                                              rotate_left
                                              · simp only [Act.put, List.setIfInBounds_toArray, List.set_cons_zero, List.set_cons_succ, i64_w, i32_w]
                                                rfl
                                              refine one_ (i := 2) (N := some 104) #[true, true, true, true, true, true, true, true, true, false, false, false, false, false, false, false, false, false] rfl rfl (one_of HT_.out (by kernel_rfl)) (by decide) (fun K hK => ?_)
                                              refine goes_ Try.func49 (by kernel_rfl) rfl #[.slice (some ad123) l0.length c0, .int .i64 (rd (rd_L1 t103 x7_2) x9_4)] (by rfl) rfl rfl (by (try simp only [List.map_toArray, List.map_cons, List.map_nil]); first | done | rfl | (simp only [List.length_drop, List.length_take]; rfl)) ?_
                                              with_reducible refine (comp_Cyclic.calls k4 _ _ l0 (rd (rd_L1 t103 x7_2) x9_4) t121 _ ?side1 ?side2 A37.out).mono ?_
                                              (case side1 => repeat (first | exact (Kd.C_below HR0.out HB.out) | (with_reducible refine Kd.C_alloc ?_ _) | (with_reducible refine Kd.C_drewN ?_ _) | (with_reducible refine Kd.C_drew ?_)))
                                              (case side2 => exact HC0.out)
                                              rintro e w45 ⟨rfl, hb⟩
                                              have HS0_ := (hb.cell (World.block_lt_of_cell? _ _ (hHeld.1))).trans (hHeld.1)
                                              refine ⟨_, rfl, ?_⟩
                                              have n0_ := Aside0.mk (Kd.S_below (by (with_reducible repeat (first | apply Kd.S_alloc | apply Kd.S_drewN | apply Kd.S_drew)); exact HO_5.out) hb)
                                              have n1_ := Aside0.mk (Kd.S_below (by (with_reducible repeat (first | apply Kd.S_alloc | apply Kd.S_drewN | apply Kd.S_drew)); exact HO_6.out) hb)
                                              have n2_ := Aside0.mk (Kd.R_below (by (with_reducible repeat (first | apply Kd.R_alloc | apply Kd.R_drewN | apply Kd.R_drew)); exact HL118_0.out) hb)
                                              have n3_ := Aside0.mk (Kd.R_below (by (with_reducible repeat (first | apply Kd.R_alloc | apply Kd.R_drewN | apply Kd.R_drew)); exact HL119_0.out) hb)
                                              have n4_ := Aside0.mk (Kd.R_below (by (with_reducible repeat (first | apply Kd.R_alloc | apply Kd.R_drewN | apply Kd.R_drew)); exact HL122_0.out) hb)
                                              have n5_ := Aside0.mk (Kd.C_below (by repeat (first | (with_reducible exact HR109_0.out) | (with_reducible refine Kd.C_alloc ?_ _) | (with_reducible refine Kd.C_drewN ?_ _) | (with_reducible refine Kd.C_drew ?_) | exact HR109_0.out)) hb)
                                              have n6_ := Aside0.mk (Kd.C_below (by repeat (first | (with_reducible exact HR118_0.out) | (with_reducible refine Kd.C_alloc ?_ _) | (with_reducible refine Kd.C_drewN ?_ _) | (with_reducible refine Kd.C_drew ?_) | exact HR118_0.out)) hb)
                                              have n7_ := Aside0.mk (Kd.C_below (by repeat (first | (with_reducible exact HR119_0.out) | (with_reducible refine Kd.C_alloc ?_ _) | (with_reducible refine Kd.C_drewN ?_ _) | (with_reducible refine Kd.C_drew ?_) | exact HR119_0.out)) hb)
                                              have n8_ := Aside0.mk (Kd.C_below (by repeat (first | (with_reducible exact HR122_0.out) | (with_reducible refine Kd.C_alloc ?_ _) | (with_reducible refine Kd.C_drewN ?_ _) | (with_reducible refine Kd.C_drew ?_) | exact HR122_0.out)) hb)
                                              have n9_ := Aside0.mk (below_step (by repeat (first | (with_reducible first | exact HB.out | apply below_alloc | apply pw_below_drewN | apply below_drew1) | exact HB.out)) hb)
                                              clear HO_5
                                              clear HO_6
                                              clear HL118_0
                                              clear HL119_0
                                              clear HL122_0
                                              clear HR109_0
                                              clear HR118_0
                                              clear HR119_0
                                              clear HR122_0
                                              clear HB
                                              have HO_5 := n0_
                                              have HO_6 := n1_
                                              have HL118_0 := n2_
                                              have HL119_0 := n3_
                                              have HL122_0 := n4_
                                              have HR109_0 := n5_
                                              have HR118_0 := n6_
                                              have HR119_0 := n7_
                                              have HR122_0 := n8_
                                              have HB := n9_
                                              clear n0_ n1_ n2_ n3_ n4_ n5_ n6_ n7_ n8_ n9_
                                              (try clear hb)
                                              (try clear hb2)
                                              (try clear hk)
                                              (try clear hi)
                                              refine hK.out _ _ ⟨HS0_, ((HB.out.cell (World.block_lt_of_cell? w _ hw123_0)).trans hw123_0)⟩ (fun hHeld => ?_)
                                              clear hK K
                                              refine norm_ (a' := ?_) ?_ ?_
                                              rotate_left
                                              · show Act.put _ (some 104) _ = _
                                                simp only [Act.put, List.setIfInBounds_toArray, List.set_cons_zero, List.set_cons_succ, i64_w, i32_w]
                                                rfl
                                              refine pure_ (i := 9) (N := some 111) (v := ?_) (a' := ?_) #[true, true, true, true, true, true, true, true, true, true, false, false, false, false, false, false, false, false] rfl rfl (any_of HT_.out (by kernel_rfl)) (fun _ _ _ h => h) (Or.inl ⟨by rfl, ?_⟩) ?_ ?_
                                              rotate_left
                                              · intro w'
                                                go_simp
                                                with_reducible rfl
                                              rotate_left
                                              · simp only [Act.put, List.setIfInBounds_toArray, List.set_cons_zero, List.set_cons_succ, i64_w, i32_w]
                                                rfl
                                              refine pure_ (i := 10) (N := some 112) (v := ?_) (a' := ?_) #[true, true, true, true, true, true, true, true, true, true, true, false, false, false, false, false, false, false] rfl rfl (any_of HT_.out (by kernel_rfl)) (fun _ _ _ h => h) (Or.inl ⟨by rfl, ?_⟩) ?_ ?_
                                              rotate_left
                                              · intro w'
                                                go_simp
                                                with_reducible rfl
                                              rotate_left
                                              · simp only [Act.put, List.setIfInBounds_toArray, List.set_cons_zero, List.set_cons_succ, i64_w, i32_w]
                                                rfl
                                              refine pure_ (i := 11) (N := some 113) (v := ?_) (a' := ?_) #[true, true, true, true, true, true, true, true, true, true, true, true, false, false, false, false, false, false] rfl rfl (any_of HT_.out (by kernel_rfl)) (fun _ _ _ h => h) (Or.inl ⟨by rfl, ?_⟩) ?_ ?_
                                              rotate_left
                                              · intro w'
                                                go_simp
                                                with_reducible rfl
                                              rotate_left
                                              · simp only [Act.put, List.setIfInBounds_toArray, List.set_cons_zero, List.set_cons_succ, i64_w, i32_w]
                                                rfl
                                              refine pure_ (i := 12) (N := some 114) (v := ?_) (a' := ?_) #[true, true, true, true, true, true, true, true, true, true, true, true, true, false, false, false, false, false] rfl rfl (any_of HT_.out (by kernel_rfl)) (fun _ _ _ h => h) (Or.inl ⟨by rfl, ?_⟩) ?_ ?_
                                              rotate_left
                                              · intro w'
                                                go_simp
                                                with_reducible rfl
                                              rotate_left
                                              · simp only [Act.put, List.setIfInBounds_toArray, List.set_cons_zero, List.set_cons_succ, i64_w, i32_w]
                                                rfl
                                              refine pure_ (i := 14) (N := some 116) (v := ?_) (a' := ?_) #[true, true, true, true, true, true, true, true, true, true, true, true, true, false, true, false, false, false] rfl rfl (any_of HT_.out (by kernel_rfl)) (fun _ _ _ h => h) (Or.inl ⟨by rfl, ?_⟩) ?_ ?_
                                              rotate_left
                                              · intro w'
                                                go_simp
                                                with_reducible rfl
                                              rotate_left
                                              · simp only [Act.put, List.setIfInBounds_toArray, List.set_cons_zero, List.set_cons_succ, i64_w, i32_w]
                                                rfl
                                              refine take_ (i := 13) (N := some 115) (v := ?_) (a' := ?_) #[true, true, true, true, true, true, true, true, true, true, true, true, true, true, true, false, false, false] rfl rfl (take_ofW HT_.out HW_.out (by kernel_rfl)) (fun _ _ _ h => h) (Or.inl ⟨by rfl, ?_⟩) hHeld ?_ ?_
                                              rotate_left
                                              · rintro w' ⟨s0, s1⟩
                                                go_simp
                                                with_reducible rfl
                                              rotate_left
                                              · simp only [Act.put, List.setIfInBounds_toArray, List.set_cons_zero, List.set_cons_succ, i64_w, i32_w]
                                                rfl
                                              refine one_ (i := 15) (N := some 117) #[true, true, true, true, true, true, true, true, true, true, true, true, true, true, true, true, false, false] rfl rfl (one_of HT_.out (by kernel_rfl)) (by decide) (fun K hK => ?_)
                                              refine goes_ Try.func50 (by kernel_rfl) rfl #[.slice A123_0 (rd_L1 l0 (rd (rd_L1 t103 x7_2) x9_4)).length c123_0, .int .i64 (rd (rd_L1 t103 x7_2) x9_4)] (by rfl) rfl rfl (by (try simp only [List.map_toArray, List.map_cons, List.map_nil]); first | done | rfl | (simp only [List.length_drop, List.length_take]; rfl)) ?_
                                              with_reducible refine (runnellaw13_among.calls k4 _ _ (rd_L1 l0 (rd (rd_L1 t103 x7_2) x9_4)) (rd (rd_L1 t103 x7_2) x9_4) t124 _ ?side1 ?side2 A43.out).mono ?_
                                              (case side1 => repeat (first | exact (Kd.C_below HR123_0.out HB.out) | (with_reducible refine Kd.C_alloc ?_ _) | (with_reducible refine Kd.C_drewN ?_ _) | (with_reducible refine Kd.C_drew ?_)))
                                              (case side2 => exact HC123_0.out)
                                              rintro e w' ⟨rfl, ⟨nd, rfl⟩⟩
                                              refine ⟨_, rfl, ?_⟩
                                              refine hK.out _ _ ⟨hHeld.1, ((HB.out.cell (World.block_lt_of_cell? w _ hw123_0)).trans hw123_0)⟩ (fun hHeld => ?_)
                                              clear hK K
                                              refine norm_ (a' := ?_) ?_ ?_
                                              rotate_left
                                              · show Act.put _ (some 117) _ = _
                                                simp only [Act.put, List.setIfInBounds_toArray, List.set_cons_zero, List.set_cons_succ, i64_w, i32_w]
                                                rfl
                                              refine pure_ (i := 16) (N := some 118) (v := ?_) (a' := ?_) #[true, true, true, true, true, true, true, true, true, true, true, true, true, true, true, true, true, false] rfl rfl (any_of HT_.out (by kernel_rfl)) (fun _ _ _ h => h) (Or.inl ⟨by rfl, ?_⟩) ?_ ?_
                                              rotate_left
                                              · intro w'
                                                go_simp
                                                with_reducible rfl
                                              rotate_left
                                              · simp only [Act.put, List.setIfInBounds_toArray, List.set_cons_zero, List.set_cons_succ, i64_w, i32_w]
                                                rfl
                                              refine pure_ (i := 17) (N := some 119) (v := ?_) (a' := ?_) #[true, true, true, true, true, true, true, true, true, true, true, true, true, true, true, true, true, true] rfl rfl (any_of HT_.out (by kernel_rfl)) (fun _ _ _ h => h) (Or.inl ⟨by rfl, ?_⟩) ?_ ?_
                                              rotate_left
                                              · intro w'
                                                go_simp
                                                with_reducible rfl
                                              rotate_left
                                              · simp only [Act.put, List.setIfInBounds_toArray, List.set_cons_zero, List.set_cons_succ, i64_w, i32_w]
                                                rfl
                                              refine done_ (done_of HT_.out (by kernel_rfl)) ?_
                                              try go_wp2
                                              go_meet
                                              case rel => exact ⟨_, ((t121 != t124)), (by first | rfl | (simp; done) | (simp [*]; done)), H', ⟨by have := HJ3.out; have := HK2.out; have := HK3.out; have := HK4.out; first | omega | exact Nat.le_refl _⟩, ⟨by (with_reducible repeat (first | apply Kd.S_alloc | apply Kd.S_drewN | apply Kd.S_drew)); exact HO_5.out⟩, ⟨by (with_reducible repeat (first | apply Kd.S_alloc | apply Kd.S_drewN | apply Kd.S_drew)); exact HO_6.out⟩, ⟨by repeat (first | (with_reducible exact HR109_0.out) | (with_reducible refine Kd.C_alloc ?_ _) | (with_reducible refine Kd.C_drewN ?_ _) | (with_reducible refine Kd.C_drew ?_) | exact HR109_0.out)⟩, ⟨by repeat (first | (with_reducible exact HR118_0.out) | (with_reducible refine Kd.C_alloc ?_ _) | (with_reducible refine Kd.C_drewN ?_ _) | (with_reducible refine Kd.C_drew ?_) | exact HR118_0.out)⟩, ⟨by repeat (first | (with_reducible exact HR119_0.out) | (with_reducible refine Kd.C_alloc ?_ _) | (with_reducible refine Kd.C_drewN ?_ _) | (with_reducible refine Kd.C_drew ?_) | exact HR119_0.out)⟩, ⟨by repeat (first | (with_reducible first | exact HB.out | apply below_alloc | apply pw_below_drewN | apply below_drew1) | exact HB.out)⟩⟩
                                            · rw [if_neg c42] at H
                                              exact absurd H (by simp)
                                          · rw [if_neg c41] at H
                                            exact absurd H (by simp)
                                      case rest =>
                                        clear HC36
                                        try clear c1
                                        try clear p1
                                        try clear q1
                                        try clear hx1
                                        try clear p2
                                        try clear c3
                                        try clear c4
                                        try clear c5
                                        try clear p10
                                        try clear q10
                                        try clear c11
                                        try clear p11
                                        try clear q11
                                        try clear hx11
                                        try clear c12
                                        try clear p12
                                        try clear q12
                                        try clear hx12
                                        try clear c32
                                        try clear c32b0
                                        try clear c33
                                        try clear c33b0
                                        try clear c34
                                        try clear c34b0
                                        try clear c35
                                        try clear c35b0
                                        try clear c38
                                        try clear c38b0
                                        try clear c38b1
                                        try clear c41
                                        try clear c41b0
                                        try clear c42
                                        try clear c42b0
                                        try clear hx110_0
                                        try clear hx111_0
                                        try clear hx112_0
                                        try clear hx113_0
                                        try clear hx118_0
                                        try clear hx119_0
                                        try clear hx120_0
                                        try clear hx122_0
                                        try clear hx123_0
                                        try clear p1
                                        try clear p109
                                        try clear p11
                                        try clear p110
                                        try clear p111
                                        try clear p112
                                        try clear p113
                                        try clear p118
                                        try clear p119
                                        try clear p120
                                        try clear p122
                                        try clear p123
                                        try clear p2
                                        try clear q1
                                        try clear q109
                                        try clear q11
                                        try clear q110
                                        try clear q111
                                        try clear q112
                                        try clear q113
                                        try clear q118
                                        try clear q119
                                        try clear q120
                                        try clear q122
                                        try clear q123
                                        obtain ⟨kq, x119_35, rfl, HA, HJ35, HO_5, HO_6, HR109_0, HR118_0, HR119_0, HB⟩ := hcut
                                        cases kq with
                                        | zero => exact absurd HA.out (by simp [runnellaw13_CompOrder.j5])
                                        | succ kj35 =>
                                          have H := HA.out
                                          clear HA
                                          simp only [runnellaw13_CompOrder.j5] at H
                                          by_cases c46 : x119_35 = true
                                          · subst c46
                                            have H1 : (some false) = some r := by rw [if_pos rfl] at H; exact H
                                            clear H
                                            have H := H1
                                            clear H1
                                            obtain rfl := Option.some.inj H
                                            go_wp2
                                            go_ret
                                            exact ⟨by first | rfl | (simp [errW_none, errW_some] <;> rfl) | (simp [*, errW_none, errW_some] <;> rfl), by repeat (first | (with_reducible first | exact HB.out | apply below_alloc | apply pw_below_drewN | apply below_drew1) | exact HB.out)⟩
                                          · replace c46 := Bool.eq_false_iff.mpr c46
                                            subst c46
                                            have H1 : (runnellaw13_CompOrder.l2 kj35 l0 t103 t106 x7_2 (wrap64 (x9_4 + 1))) = some r := by rw [if_neg (show ¬ (false = true) by decide)] at H; exact H
                                            clear H
                                            have H := H1
                                            clear H1
                                            have H' := Aside0.mk H
                                            clear H
                                            go_wp2
                                            go_roundg kj35
                                            case measure => have := HJ3.out; have := HK2.out; have := HK3.out; have := HK4.out; have := HJ35.out; omega
                                            case rel => exact ⟨(wrap64 (x9_4 + 1)), (by first | rfl | (simp; done) | (simp [*]; done)), H', ⟨by have := HJ3.out; have := HK2.out; have := HK3.out; have := HK4.out; have := HJ35.out; omega⟩, ⟨by (with_reducible repeat (first | apply Kd.S_alloc | apply Kd.S_drewN | apply Kd.S_drew)); exact HO_5.out⟩, ⟨by (with_reducible repeat (first | apply Kd.S_alloc | apply Kd.S_drewN | apply Kd.S_drew)); exact HO_6.out⟩, ⟨by repeat (first | (with_reducible exact HR109_0.out) | (with_reducible refine Kd.C_alloc ?_ _) | (with_reducible refine Kd.C_drewN ?_ _) | (with_reducible refine Kd.C_drew ?_) | exact HR109_0.out)⟩, ⟨by repeat (first | (with_reducible first | exact HB.out | apply below_alloc | apply pw_below_drewN | apply below_drew1) | exact HB.out)⟩⟩
                                    · rw [if_neg c35] at H
                                      exact absurd H (by simp)
                                  · rw [if_neg c34] at H
                                    have c34b0 : decide (x9_4 < ((rd_L1 t103 x7_2).length : Int)) = false := decide_eq_false c34
                                    clear c34
                                    have H' := Aside0.mk H
                                    clear H
                                    have p118 : 0 ≤ (x7_2 : Int) := of_decide_eq_true (by first | (with_reducible assumption) | assumption)
                                    have q118 : x7_2 < (t103.length : Int) := of_decide_eq_true (by first | (with_reducible assumption) | assumption)
                                    obtain ⟨ad118, A118_0, c118_0, e118, hx118_0, hl118_0, hi118_0⟩ := at_L1 (Kd.S_reads' HO_5.out).2.2 x7_2 p118 q118
                                    cases e118
                                    obtain ⟨ce118, hce118, hMe118, hcc118⟩ := Kd.S_get HO_5.out [] x7_2 p118 (by first | exact q118 | exact of_decide_eq_true (by first | (with_reducible assumption) | assumption) | (have e_ := (Kd.S_reads' HO_5.out).1; omega))
                                    obtain ⟨ve118_0, rfl, ge118_0⟩ := hMe118
                                    have hv118_0 := hcc118 0 _ rfl
                                    rw [Nat.add_zero, show ((Kd.slice 3 (Kd.int .i64))).sz = 1 from rfl, Nat.mul_one] at hv118_0
                                    replace hv118_0 := Option.some.inj (hv118_0.symm.trans hx118_0)
                                    rw [hv118_0] at ge118_0
                                    have HL118_0 := Aside0.mk (show Kd.R (Kd.int .i64) 3 _ _ _ _ (rd_L1 t103 x7_2) from ge118_0)
                                    clear hv118_0 ge118_0
                                    clear hcc118 hce118
                                    have HR118_0 := Aside0.mk hi118_0
                                    have HC118_0 := Aside0.mk hl118_0
                                    clear hi118_0 hl118_0
                                    replace p118 := eq_true p118
                                    replace q118 := eq_true q118
                                    go_wp2
                                    go_roundg k4
                                    case measure => have := HJ3.out; have := HK2.out; have := HK3.out; have := HK4.out; omega
                                    case rel => exact ⟨(wrap64 (x7_2 + 1)), (by first | rfl | (simp; done) | (simp [*]; done)), H', ⟨by have := HJ3.out; have := HK2.out; have := HK3.out; have := HK4.out; omega⟩, ⟨by (with_reducible repeat (first | apply Kd.S_alloc | apply Kd.S_drewN | apply Kd.S_drew)); exact HO_5.out⟩, ⟨by (with_reducible repeat (first | apply Kd.S_alloc | apply Kd.S_drewN | apply Kd.S_drew)); exact HO_6.out⟩, ⟨by repeat (first | (with_reducible first | exact HB.out | apply below_alloc | apply pw_below_drewN | apply below_drew1) | exact HB.out)⟩⟩
                                · rw [if_neg c33] at H
                                  exact absurd H (by simp)
                              · rw [if_neg c32] at H
                                exact absurd H (by simp)
                      · rw [if_neg c17] at H
                        exact absurd H (by simp)
                    · rw [if_neg c16] at H
                      exact absurd H (by simp)
              · rw [if_neg c15] at H
                have c15b0 : decide (x7_2 < (t106.length : Int)) = false := decide_eq_false c15
                clear c15
                obtain rfl := Option.some.inj H
                go_wp2
                go_ret
                exact ⟨by first | rfl | (simp [errW_none, errW_some] <;> rfl) | (simp [*, errW_none, errW_some] <;> rfl), by repeat (first | (with_reducible first | exact HB.out | apply below_alloc | apply pw_below_drewN | apply below_drew1) | exact HB.out)⟩
        · rw [if_neg c10] at H
          have c10b0 : ((t106.length : Int) == (t103.length : Int)) = false := beq_eq_false_iff_ne.mpr c10
          have c10b1 : ((t106.length : Int) != (t103.length : Int)) = true := bne_iff_ne.mpr c10
          have c10b2 : (t106.length == t103.length) = false := by first | simpa using c10 | (simp at c10 ⊢; omega)
          obtain rfl := Option.some.inj H
          go_wp2_with (first | ((with_reducible refine gate_callee (f := 42) rfl ?_); refine goesL_ (some 22) rfl rfl Try.func42 (by kernel_rfl) rfl #[.slice A0 l0.length c0] rfl (by (try simp only [List.map_toArray, List.map_cons, List.map_nil]); first | done | rfl | (simp only [List.length_drop, List.length_take]; rfl)) ?_; (with_reducible refine (comp_Components.calls kj3 _ _ l0 t103 _ ?side1 ?side2 A8.out).mono ?_); (case side1 => repeat (first | exact (Kd.C_below HR0.out HB.out) | (with_reducible refine Kd.C_alloc ?_ _) | (with_reducible refine Kd.C_drewN ?_ _) | (with_reducible refine Kd.C_drew ?_))); (case side2 => exact HC0.out); rintro e w47 ⟨v104, rfl, ho0, hb⟩; refine ⟨_, rfl, ?_⟩; have n0_ := Aside0.mk (Kd.S_lower ho0 (below_size (by repeat (first | (with_reducible first | exact HB.out | apply below_alloc | apply pw_below_drewN | apply below_drew1) | exact HB.out)))); have n1_ := Aside0.mk (below_step (by repeat (first | (with_reducible first | exact HB.out | apply below_alloc | apply pw_below_drewN | apply below_drew1) | exact HB.out)) hb); clear HB; have HO105 := n0_; have HB := n1_; clear n0_ n1_; (try clear hb); (try clear hb2); (try clear hk); (try clear hi); (try clear ho0)) | ((with_reducible refine gate_callee (f := 47) rfl ?_); refine goesL_ (some 24) rfl rfl Try.func47 (by kernel_rfl) rfl #[.slice A0 l0.length c0] rfl (by (try simp only [List.map_toArray, List.map_cons, List.map_nil]); first | done | rfl | (simp only [List.length_drop, List.length_take]; rfl)) ?_; (with_reducible refine (comp_Above.calls kj3 _ _ l0 t106 _ ?side1 ?side2 A9.out).mono ?_); (case side1 => repeat (first | exact (Kd.C_below HR0.out HB.out) | (with_reducible refine Kd.C_alloc ?_ _) | (with_reducible refine Kd.C_drewN ?_ _) | (with_reducible refine Kd.C_drew ?_))); (case side2 => exact HC0.out); rintro e w48 ⟨v107, rfl, ho0, hb⟩; refine ⟨_, rfl, ?_⟩; have n0_ := Aside0.mk (Kd.S_elder' (by (with_reducible repeat (first | apply Kd.S_alloc | apply Kd.S_drewN | apply Kd.S_drew)); exact HO105.out) (Kd.S_base ho0) hb); have n1_ := Aside0.mk (Kd.S_lower (Kd.S_new' ho0 (Kd.S_lt (by (with_reducible repeat (first | apply Kd.S_alloc | apply Kd.S_drewN | apply Kd.S_drew)); exact HO105.out))) (below_size (by repeat (first | (with_reducible first | exact HB.out | apply below_alloc | apply pw_below_drewN | apply below_drew1) | exact HB.out)))); have n2_ := Aside0.mk (below_step (by repeat (first | (with_reducible first | exact HB.out | apply below_alloc | apply pw_below_drewN | apply below_drew1) | exact HB.out)) hb); clear HO105; clear HB; have HO105 := n0_; have HO108 := n1_; have HB := n2_; clear n0_ n1_ n2_; (try clear hb); (try clear hb2); (try clear hk); (try clear hi); (try clear ho0); obtain ⟨Ao49, co49, eo49⟩ := Kd.S_slice HO108.out; subst eo49; obtain ⟨Ao50, co50, eo50⟩ := Kd.S_slice HO105.out; subst eo50))
          go_ret
          exact ⟨by first | rfl | (simp [errW_none, errW_some] <;> rfl) | (simp [*, errW_none, errW_some] <;> rfl), by repeat (first | (with_reducible first | exact HB.out | apply below_alloc | apply pw_below_drewN | apply below_drew1) | exact HB.out)⟩

end Go.Proofs.Ytkgkhakjodlpgaa.C
