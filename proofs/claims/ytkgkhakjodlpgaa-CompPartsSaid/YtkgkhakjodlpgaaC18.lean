/- Functions of the program as plain Lean functions, and that each call comes to what they say; printed by a program. -/
import Derived.Test.YtkgkhakjodlpgaaC0
import Derived.Test.YtkgkhakjodlpgaaWTab
import Derived.Test.YtkgkhakjodlpgaaC3
import Derived.Test.YtkgkhakjodlpgaaC5
import Derived.Test.YtkgkhakjodlpgaaC1
import Derived.Test.YtkgkhakjodlpgaaC13
namespace Go.Proofs.Ytkgkhakjodlpgaa.C
open Go.RowKit Go.Proofs.YtkgkhakjodlpgaaW.PrintWords Go.Proofs.YtkgkhakjodlpgaaW.PrintLast Go.Proofs.YtkgkhakjodlpgaaW.PrintMore Go.Proofs.Ytkgkhakjodlpgaa.Ext Go.Proofs.Ytkgkhakjodlpgaa.Ca Go.Proofs.Ytkgkhakjodlpgaa.Cv
attribute [local go_sem] max2_int min2_int max_two min_two max_three min_three max_four min_four   -- for this text's walks alone
set_option linter.unusedVariables false
set_option linter.unusedSimpArgs false

/-! ### runnellaw13_CompParts: function 10 -/
mutual
def runnellaw13_CompParts.j0 : Nat → List (List Int) → Bool → Bool → Option (Bool)
  | 0, _, _, _ => none
  | k + 1, x0, x3, x21 => if x21 = true then (some x3) else ((comp_Components.f k x0).bind fun t353 => ((comp_Number.f k x0).bind fun t356 => (if (t356.length : Int) = (x0.length : Int) then (runnellaw13_CompParts.l0 k x0 t353 t356 0 0) else (some false))))
def runnellaw13_CompParts.l0 : Nat → List (List Int) → List (List Int) → List Int → Int → Int → Option (Bool)
  | 0, _, _, _, _, _ => none
  | k + 1, x0, x5, x6, x7, x8 => if x8 < (x5.length : Int) then (if 0 ≤ x8 then (runnellaw13_CompParts.l1 k x0 x5 x6 (wrap64 (x7 + ((rd_L1 x5 x8).length : Int))) x8 0) else (none)) else (runnellaw13_CompParts.l2 k x0 x6 x7 0)
def runnellaw13_CompParts.l1 : Nat → List (List Int) → List (List Int) → List Int → Int → Int → Int → Option (Bool)
  | 0, _, _, _, _, _, _ => none
  | k + 1, x0, x5, x6, x7, x8, x9 => if 0 ≤ x8 then (if x8 < (x5.length : Int) then (if x9 < ((rd_L1 x5 x8).length : Int) then (if 0 ≤ x9 then (if (rd (rd_L1 x5 x8) x9) < 0 then (runnellaw13_CompParts.j3 k x0 x5 x6 x7 x8 x9 true) else (if (rd (rd_L1 x5 x8) x9) ≥ (x0.length : Int) then (runnellaw13_CompParts.j3 k x0 x5 x6 x7 x8 x9 true) else (if 0 ≤ (rd (rd_L1 x5 x8) x9) then (if (rd (rd_L1 x5 x8) x9) < (x6.length : Int) then (if (rd x6 (rd (rd_L1 x5 x8) x9)) = x8 then (if x9 > 0 then (if 0 ≤ (wrap64 (x9 - 1)) then (if (wrap64 (x9 - 1)) < ((rd_L1 x5 x8).length : Int) then (runnellaw13_CompParts.j3 k x0 x5 x6 x7 x8 x9 (decide ((rd (rd_L1 x5 x8) x9) ≤ (rd (rd_L1 x5 x8) (wrap64 (x9 - 1)))))) else (none)) else (none)) else (runnellaw13_CompParts.j3 k x0 x5 x6 x7 x8 x9 false)) else (runnellaw13_CompParts.j3 k x0 x5 x6 x7 x8 x9 true)) else (none)) else (none)))) else (none)) else (runnellaw13_CompParts.l0 k x0 x5 x6 x7 (wrap64 (x8 + 1)))) else (none)) else (none)
def runnellaw13_CompParts.j3 : Nat → List (List Int) → List (List Int) → List Int → Int → Int → Int → Bool → Option (Bool)
  | 0, _, _, _, _, _, _, _ => none
  | k + 1, x0, x5, x6, x7, x8, x9, x92 => if x92 = true then (some false) else (runnellaw13_CompParts.l1 k x0 x5 x6 x7 x8 (wrap64 (x9 + 1)))
def runnellaw13_CompParts.l2 : Nat → List (List Int) → List Int → Int → Int → Option (Bool)
  | 0, _, _, _, _ => none
  | k + 1, x0, x6, x7, x11 => if x11 < (x0.length : Int) then (runnellaw13_CompParts.l3 k x0 x6 x7 x11 0) else (some (x7 == (x0.length : Int)))
def runnellaw13_CompParts.l3 : Nat → List (List Int) → List Int → Int → Int → Int → Option (Bool)
  | 0, _, _, _, _, _ => none
  | k + 1, x0, x6, x7, x11, x12 => if x12 < (x0.length : Int) then ((comp_Both.f k x0 x11 x12).bind fun t366 => (if 0 ≤ x11 then (if x11 < (x6.length : Int) then (if 0 ≤ x12 then (if x12 < (x6.length : Int) then (if (t366 != ((rd x6 x11) == (rd x6 x12))) = true then (some false) else (runnellaw13_CompParts.l3 k x0 x6 x7 x11 (wrap64 (x12 + 1)))) else (none)) else (none)) else (none)) else (none))) else (runnellaw13_CompParts.l2 k x0 x6 x7 (wrap64 (x11 + 1)))
end
def runnellaw13_CompParts.f (k : Nat) (l0 : List (List Int)) : Option (Bool) := (runnellaw13_shown.f k).bind fun t351 => ((runnellaw13_small.f k l0).bind fun t352 => (if t351 = true then (runnellaw13_CompParts.j0 k l0 t351 (!t352)) else (runnellaw13_CompParts.j0 k l0 t351 true)))
theorem runnellaw13_CompParts.mono_l : ∀ k, (∀ y0 y1 y2, LeO (runnellaw13_CompParts.j0 k y0 y1 y2) (runnellaw13_CompParts.j0 (k + 1) y0 y1 y2)) ∧ (∀ y0 y1 y2 y3 y4, LeO (runnellaw13_CompParts.l0 k y0 y1 y2 y3 y4) (runnellaw13_CompParts.l0 (k + 1) y0 y1 y2 y3 y4)) ∧ (∀ y0 y1 y2 y3 y4 y5, LeO (runnellaw13_CompParts.l1 k y0 y1 y2 y3 y4 y5) (runnellaw13_CompParts.l1 (k + 1) y0 y1 y2 y3 y4 y5)) ∧ (∀ y0 y1 y2 y3 y4 y5 y6, LeO (runnellaw13_CompParts.j3 k y0 y1 y2 y3 y4 y5 y6) (runnellaw13_CompParts.j3 (k + 1) y0 y1 y2 y3 y4 y5 y6)) ∧ (∀ y0 y1 y2 y3, LeO (runnellaw13_CompParts.l2 k y0 y1 y2 y3) (runnellaw13_CompParts.l2 (k + 1) y0 y1 y2 y3)) ∧ (∀ y0 y1 y2 y3 y4, LeO (runnellaw13_CompParts.l3 k y0 y1 y2 y3 y4) (runnellaw13_CompParts.l3 (k + 1) y0 y1 y2 y3 y4))
  | 0 => ⟨fun _ _ _ r h => by simp [runnellaw13_CompParts.j0] at h, fun _ _ _ _ _ r h => by simp [runnellaw13_CompParts.l0] at h, fun _ _ _ _ _ _ r h => by simp [runnellaw13_CompParts.l1] at h, fun _ _ _ _ _ _ _ r h => by simp [runnellaw13_CompParts.j3] at h, fun _ _ _ _ r h => by simp [runnellaw13_CompParts.l2] at h, fun _ _ _ _ _ r h => by simp [runnellaw13_CompParts.l3] at h⟩
  | k + 1 => by
    obtain ⟨ih0, ih1, ih2, ih3, ih4, ih5⟩ := runnellaw13_CompParts.mono_l k
    refine ⟨?_, ?_, ?_, ?_, ?_, ?_⟩
    · intro y0 y1 y2
      unfold runnellaw13_CompParts.j0
      repeat' first
      | (with_reducible exact ih0 _ _ _)
      | (with_reducible exact ih1 _ _ _ _ _)
      | (with_reducible exact ih2 _ _ _ _ _ _)
      | (with_reducible exact ih3 _ _ _ _ _ _ _)
      | (with_reducible exact ih4 _ _ _ _)
      | (with_reducible exact ih5 _ _ _ _ _)
      | (with_reducible exact comp_Both.mono _ _ _ _)
      | (with_reducible exact comp_Components.mono _ _)
      | (with_reducible exact comp_Number.mono _ _)
      | (with_reducible exact runnellaw13_shown.mono _)
      | (with_reducible exact runnellaw13_small.mono _ _)
      | (with_reducible exact LeO.refl _)
      | (with_reducible exact LeO.none _)
      | (with_reducible refine LeO.ite ?_ ?_)
      | (with_reducible refine LeO.bind ?_ (fun _ => ?_))
      | exact ih0 _ _ _
      | exact ih1 _ _ _ _ _
      | exact ih2 _ _ _ _ _ _
      | exact ih3 _ _ _ _ _ _ _
      | exact ih4 _ _ _ _
      | exact ih5 _ _ _ _ _
      | exact comp_Both.mono _ _ _ _
      | exact comp_Components.mono _ _
      | exact comp_Number.mono _ _
      | exact runnellaw13_shown.mono _
      | exact runnellaw13_small.mono _ _
      | exact LeO.none _
      | refine LeO.ite ?_ ?_
      | refine LeO.bind ?_ (fun _ => ?_)
    · intro y0 y1 y2 y3 y4
      unfold runnellaw13_CompParts.l0
      repeat' first
      | (with_reducible exact ih0 _ _ _)
      | (with_reducible exact ih1 _ _ _ _ _)
      | (with_reducible exact ih2 _ _ _ _ _ _)
      | (with_reducible exact ih3 _ _ _ _ _ _ _)
      | (with_reducible exact ih4 _ _ _ _)
      | (with_reducible exact ih5 _ _ _ _ _)
      | (with_reducible exact comp_Both.mono _ _ _ _)
      | (with_reducible exact comp_Components.mono _ _)
      | (with_reducible exact comp_Number.mono _ _)
      | (with_reducible exact runnellaw13_shown.mono _)
      | (with_reducible exact runnellaw13_small.mono _ _)
      | (with_reducible exact LeO.refl _)
      | (with_reducible exact LeO.none _)
      | (with_reducible refine LeO.ite ?_ ?_)
      | (with_reducible refine LeO.bind ?_ (fun _ => ?_))
      | exact ih0 _ _ _
      | exact ih1 _ _ _ _ _
      | exact ih2 _ _ _ _ _ _
      | exact ih3 _ _ _ _ _ _ _
      | exact ih4 _ _ _ _
      | exact ih5 _ _ _ _ _
      | exact comp_Both.mono _ _ _ _
      | exact comp_Components.mono _ _
      | exact comp_Number.mono _ _
      | exact runnellaw13_shown.mono _
      | exact runnellaw13_small.mono _ _
      | exact LeO.none _
      | refine LeO.ite ?_ ?_
      | refine LeO.bind ?_ (fun _ => ?_)
    · intro y0 y1 y2 y3 y4 y5
      unfold runnellaw13_CompParts.l1
      repeat' first
      | (with_reducible exact ih0 _ _ _)
      | (with_reducible exact ih1 _ _ _ _ _)
      | (with_reducible exact ih2 _ _ _ _ _ _)
      | (with_reducible exact ih3 _ _ _ _ _ _ _)
      | (with_reducible exact ih4 _ _ _ _)
      | (with_reducible exact ih5 _ _ _ _ _)
      | (with_reducible exact comp_Both.mono _ _ _ _)
      | (with_reducible exact comp_Components.mono _ _)
      | (with_reducible exact comp_Number.mono _ _)
      | (with_reducible exact runnellaw13_shown.mono _)
      | (with_reducible exact runnellaw13_small.mono _ _)
      | (with_reducible exact LeO.refl _)
      | (with_reducible exact LeO.none _)
      | (with_reducible refine LeO.ite ?_ ?_)
      | (with_reducible refine LeO.bind ?_ (fun _ => ?_))
      | exact ih0 _ _ _
      | exact ih1 _ _ _ _ _
      | exact ih2 _ _ _ _ _ _
      | exact ih3 _ _ _ _ _ _ _
      | exact ih4 _ _ _ _
      | exact ih5 _ _ _ _ _
      | exact comp_Both.mono _ _ _ _
      | exact comp_Components.mono _ _
      | exact comp_Number.mono _ _
      | exact runnellaw13_shown.mono _
      | exact runnellaw13_small.mono _ _
      | exact LeO.none _
      | refine LeO.ite ?_ ?_
      | refine LeO.bind ?_ (fun _ => ?_)
    · intro y0 y1 y2 y3 y4 y5 y6
      unfold runnellaw13_CompParts.j3
      repeat' first
      | (with_reducible exact ih0 _ _ _)
      | (with_reducible exact ih1 _ _ _ _ _)
      | (with_reducible exact ih2 _ _ _ _ _ _)
      | (with_reducible exact ih3 _ _ _ _ _ _ _)
      | (with_reducible exact ih4 _ _ _ _)
      | (with_reducible exact ih5 _ _ _ _ _)
      | (with_reducible exact comp_Both.mono _ _ _ _)
      | (with_reducible exact comp_Components.mono _ _)
      | (with_reducible exact comp_Number.mono _ _)
      | (with_reducible exact runnellaw13_shown.mono _)
      | (with_reducible exact runnellaw13_small.mono _ _)
      | (with_reducible exact LeO.refl _)
      | (with_reducible exact LeO.none _)
      | (with_reducible refine LeO.ite ?_ ?_)
      | (with_reducible refine LeO.bind ?_ (fun _ => ?_))
      | exact ih0 _ _ _
      | exact ih1 _ _ _ _ _
      | exact ih2 _ _ _ _ _ _
      | exact ih3 _ _ _ _ _ _ _
      | exact ih4 _ _ _ _
      | exact ih5 _ _ _ _ _
      | exact comp_Both.mono _ _ _ _
      | exact comp_Components.mono _ _
      | exact comp_Number.mono _ _
      | exact runnellaw13_shown.mono _
      | exact runnellaw13_small.mono _ _
      | exact LeO.none _
      | refine LeO.ite ?_ ?_
      | refine LeO.bind ?_ (fun _ => ?_)
    · intro y0 y1 y2 y3
      unfold runnellaw13_CompParts.l2
      repeat' first
      | (with_reducible exact ih0 _ _ _)
      | (with_reducible exact ih1 _ _ _ _ _)
      | (with_reducible exact ih2 _ _ _ _ _ _)
      | (with_reducible exact ih3 _ _ _ _ _ _ _)
      | (with_reducible exact ih4 _ _ _ _)
      | (with_reducible exact ih5 _ _ _ _ _)
      | (with_reducible exact comp_Both.mono _ _ _ _)
      | (with_reducible exact comp_Components.mono _ _)
      | (with_reducible exact comp_Number.mono _ _)
      | (with_reducible exact runnellaw13_shown.mono _)
      | (with_reducible exact runnellaw13_small.mono _ _)
      | (with_reducible exact LeO.refl _)
      | (with_reducible exact LeO.none _)
      | (with_reducible refine LeO.ite ?_ ?_)
      | (with_reducible refine LeO.bind ?_ (fun _ => ?_))
      | exact ih0 _ _ _
      | exact ih1 _ _ _ _ _
      | exact ih2 _ _ _ _ _ _
      | exact ih3 _ _ _ _ _ _ _
      | exact ih4 _ _ _ _
      | exact ih5 _ _ _ _ _
      | exact comp_Both.mono _ _ _ _
      | exact comp_Components.mono _ _
      | exact comp_Number.mono _ _
      | exact runnellaw13_shown.mono _
      | exact runnellaw13_small.mono _ _
      | exact LeO.none _
      | refine LeO.ite ?_ ?_
      | refine LeO.bind ?_ (fun _ => ?_)
    · intro y0 y1 y2 y3 y4
      unfold runnellaw13_CompParts.l3
      repeat' first
      | (with_reducible exact ih0 _ _ _)
      | (with_reducible exact ih1 _ _ _ _ _)
      | (with_reducible exact ih2 _ _ _ _ _ _)
      | (with_reducible exact ih3 _ _ _ _ _ _ _)
      | (with_reducible exact ih4 _ _ _ _)
      | (with_reducible exact ih5 _ _ _ _ _)
      | (with_reducible exact comp_Both.mono _ _ _ _)
      | (with_reducible exact comp_Components.mono _ _)
      | (with_reducible exact comp_Number.mono _ _)
      | (with_reducible exact runnellaw13_shown.mono _)
      | (with_reducible exact runnellaw13_small.mono _ _)
      | (with_reducible exact LeO.refl _)
      | (with_reducible exact LeO.none _)
      | (with_reducible refine LeO.ite ?_ ?_)
      | (with_reducible refine LeO.bind ?_ (fun _ => ?_))
      | exact ih0 _ _ _
      | exact ih1 _ _ _ _ _
      | exact ih2 _ _ _ _ _ _
      | exact ih3 _ _ _ _ _ _ _
      | exact ih4 _ _ _ _
      | exact ih5 _ _ _ _ _
      | exact comp_Both.mono _ _ _ _
      | exact comp_Components.mono _ _
      | exact comp_Number.mono _ _
      | exact runnellaw13_shown.mono _
      | exact runnellaw13_small.mono _ _
      | exact LeO.none _
      | refine LeO.ite ?_ ?_
      | refine LeO.bind ?_ (fun _ => ?_)
theorem runnellaw13_CompParts.mono : ∀ a0 k, LeO (runnellaw13_CompParts.f k a0) (runnellaw13_CompParts.f (k + 1) a0) := by
  intro a0 k
  obtain ⟨ih0, ih1, ih2, ih3, ih4, ih5⟩ := runnellaw13_CompParts.mono_l k
  unfold runnellaw13_CompParts.f
  repeat' first
      | (with_reducible exact ih0 _ _ _)
      | (with_reducible exact ih1 _ _ _ _ _)
      | (with_reducible exact ih2 _ _ _ _ _ _)
      | (with_reducible exact ih3 _ _ _ _ _ _ _)
      | (with_reducible exact ih4 _ _ _ _)
      | (with_reducible exact ih5 _ _ _ _ _)
      | (with_reducible exact comp_Both.mono _ _ _ _)
      | (with_reducible exact comp_Components.mono _ _)
      | (with_reducible exact comp_Number.mono _ _)
      | (with_reducible exact runnellaw13_shown.mono _)
      | (with_reducible exact runnellaw13_small.mono _ _)
      | (with_reducible exact LeO.refl _)
      | (with_reducible exact LeO.none _)
      | (with_reducible refine LeO.ite ?_ ?_)
      | (with_reducible refine LeO.bind ?_ (fun _ => ?_))
      | exact ih0 _ _ _
      | exact ih1 _ _ _ _ _
      | exact ih2 _ _ _ _ _ _
      | exact ih3 _ _ _ _ _ _ _
      | exact ih4 _ _ _ _
      | exact ih5 _ _ _ _ _
      | exact comp_Both.mono _ _ _ _
      | exact comp_Components.mono _ _
      | exact comp_Number.mono _ _
      | exact runnellaw13_shown.mono _
      | exact runnellaw13_small.mono _ _
      | exact LeO.none _
      | refine LeO.ite ?_ ?_
      | refine LeO.bind ?_ (fun _ => ?_)
def runnellaw13_CompParts.T26 : Bool × List (List Nat × List Nat) := (true, [([], []), ([], []), ([], []), ([0, 1, 2], [0, 1, 2]), ([], []), ([], []), ([4, 5], [4, 5]), ([6], [6]), ([], []), ([], []), ([8, 9], [8, 9]), ([10], [10]), ([7, 11], [7, 11]), ([3, 12], [3, 12])])
def runnellaw13_CompParts.B26 : List Nat := [0, 0, 0, 7, 0, 0, 48, 112, 0, 0, 768, 1792, 4080, 8191]
theorem runnellaw13_CompParts.tab26 : rtab .any (opsOf Try.f10 26) = runnellaw13_CompParts.T26 := by kernel_rfl
theorem runnellaw13_CompParts.bits26 : waitsOk runnellaw13_CompParts.T26.2 runnellaw13_CompParts.B26 = true := by kernel_rfl
set_option maxHeartbeats 8000000 in
set_option maxRecDepth 100000 in
theorem runnellaw13_CompParts.calls (k : Nat) (A0 : Option Addr) (c0 : Nat) (l0 : List (List Int)) (r : Bool) (w : World) (hr0 : Kd.C (Kd.slice 3 (Kd.int .i64)) w A0 l0.length l0) (hc0 : l0.length ≤ c0) (h : runnellaw13_CompParts.f k l0 = some r) :
    Calls Try.prog 10 #[.slice A0 l0.length c0] w fun e w' => e = .returned (.bool r) ∧ Below w.heap.size w w' := by
  have HR0 := Aside0.mk hr0
  have HC0 := Aside0.mk hc0
  clear hr0 hc0
  have HB := Aside0.mk (Below.refl w.heap.size w)
  have H : ((runnellaw13_shown.f k).bind fun t351 => ((runnellaw13_small.f k l0).bind fun t352 => (if t351 = true then (runnellaw13_CompParts.j0 k l0 t351 (!t352)) else (runnellaw13_CompParts.j0 k l0 t351 true)))) = some r := h
  clear h
  replace H := Option.bind_eq_some_iff.mp H
  obtain ⟨t351, A20, H⟩ := H
  replace H : ((runnellaw13_small.f k l0).bind fun t352 => (if t351 = true then (runnellaw13_CompParts.j0 k l0 t351 (!t352)) else (runnellaw13_CompParts.j0 k l0 t351 true))) = some r := H
  have A2 := Aside0.mk A20
  clear A20
  replace H := Option.bind_eq_some_iff.mp H
  obtain ⟨t352, A30, H⟩ := H
  replace H : (if t351 = true then (runnellaw13_CompParts.j0 k l0 t351 (!t352)) else (runnellaw13_CompParts.j0 k l0 t351 true)) = some r := H
  have A3 := Aside0.mk A30
  clear A30
  have HC4 := Aside0.mk H
  clear H
  go_enter Try.func10, Try.ntmps10
  go_upto_region 3 with (first | ((with_reducible refine gate_callee (f := 39) rfl ?_); refine goesL_ (some 13) rfl rfl Try.func39 (by kernel_rfl) rfl #[] rfl (by (try simp only [List.map_toArray, List.map_cons, List.map_nil]); first | done | rfl | (simp only [List.length_drop, List.length_take]; rfl)) ?_; (with_reducible refine (runnellaw13_shown.calls k  t351 _ A2.out).mono ?_); rintro e w5 ⟨rfl, hb⟩; refine ⟨_, rfl, ?_⟩; have n0_ := Aside0.mk (below_step (by repeat (first | (with_reducible first | exact HB.out | apply below_alloc | apply pw_below_drewN | apply below_drew1) | exact HB.out)) hb); clear HB; have HB := n0_; clear n0_; (try clear hb); (try clear hb2); (try clear hk); (try clear hi)) | ((with_reducible refine gate_callee (f := 40) rfl ?_); refine goesL_ (some 15) rfl rfl Try.func40 (by kernel_rfl) rfl #[.slice A0 l0.length c0] rfl (by (try simp only [List.map_toArray, List.map_cons, List.map_nil]); first | done | rfl | (simp only [List.length_drop, List.length_take]; rfl)) ?_; (with_reducible refine (runnellaw13_small.calls k _ _ l0 t352 _ ?side1 ?side2 A3.out).mono ?_); (case side1 => repeat (first | exact (Kd.C_below HR0.out HB.out) | (with_reducible refine Kd.C_alloc ?_ _) | (with_reducible refine Kd.C_drewN ?_ _) | (with_reducible refine Kd.C_drew ?_))); (case side2 => exact HC0.out); rintro e w' ⟨rfl, ⟨nd, rfl⟩⟩; refine ⟨_, rfl, ?_⟩))
  (try simp only [Act.put, List.setIfInBounds_toArray, List.set_cons_zero, List.set_cons_succ])
  go_cut [21] (fun v21 wc => ∃ (kq : Nat) (x21_3 : Bool), v21 = .bool x21_3 ∧ Aside0 (runnellaw13_CompParts.j0 kq l0 t351 x21_3 = some r) ∧ Aside0 (kq ≤ k) ∧ Aside0 (Below w.heap.size w wc))
  case first =>
    have H := HC4.out
    clear HC4
    by_cases c6 : t351 = true
    · subst c6
      have H1 : (runnellaw13_CompParts.j0 k l0 true (!t352)) = some r := by rw [if_pos rfl] at H; exact H
      clear H
      have H := H1
      clear H1
      have H' := Aside0.mk H
      clear H
      go_wp2
      go_meet
      case rel => exact ⟨_, (!t352), (by first | rfl | (simp; done) | (simp [*]; done)), H', ⟨by first | omega | exact Nat.le_refl _⟩, ⟨by repeat (first | (with_reducible first | exact HB.out | apply below_alloc | apply pw_below_drewN | apply below_drew1) | exact HB.out)⟩⟩
    · replace c6 := Bool.eq_false_iff.mpr c6
      subst c6
      have H1 : (runnellaw13_CompParts.j0 k l0 false true) = some r := by rw [if_neg (show ¬ (false = true) by decide)] at H; exact H
      clear H
      have H := H1
      clear H1
      have H' := Aside0.mk H
      clear H
      go_wp2
      go_meet
      case rel => exact ⟨_, (true), (by first | rfl | (simp; done) | (simp [*]; done)), H', ⟨by first | omega | exact Nat.le_refl _⟩, ⟨by repeat (first | (with_reducible first | exact HB.out | apply below_alloc | apply pw_below_drewN | apply below_drew1) | exact HB.out)⟩⟩
  case rest =>
    clear HC4
    try clear c1
    try clear p2
    try clear c3
    try clear c4
    try clear c6
    obtain ⟨kq, x21_3, rfl, HA, HJ3, HB⟩ := hcut
    cases kq with
    | zero => exact absurd HA.out (by simp [runnellaw13_CompParts.j0])
    | succ kj3 =>
      have H := HA.out
      clear HA
      simp only [runnellaw13_CompParts.j0] at H
      by_cases c7 : x21_3 = true
      · subst c7
        have H1 : (some t351) = some r := by rw [if_pos rfl] at H; exact H
        clear H
        have H := H1
        clear H1
        obtain rfl := Option.some.inj H
        go_wp2
        go_ret
        exact ⟨by first | rfl | (simp [errW_none, errW_some] <;> rfl) | (simp [*, errW_none, errW_some] <;> rfl), by repeat (first | (with_reducible first | exact HB.out | apply below_alloc | apply pw_below_drewN | apply below_drew1) | exact HB.out)⟩
      · replace c7 := Bool.eq_false_iff.mpr c7
        subst c7
        have H1 : ((comp_Components.f kj3 l0).bind fun t353 => ((comp_Number.f kj3 l0).bind fun t356 => (if (t356.length : Int) = (l0.length : Int) then (runnellaw13_CompParts.l0 kj3 l0 t353 t356 0 0) else (some false)))) = some r := by rw [if_neg (show ¬ (false = true) by decide)] at H; exact H
        clear H
        have H := H1
        clear H1
        replace H := Option.bind_eq_some_iff.mp H
        obtain ⟨t353, A80, H⟩ := H
        replace H : ((comp_Number.f kj3 l0).bind fun t356 => (if (t356.length : Int) = (l0.length : Int) then (runnellaw13_CompParts.l0 kj3 l0 t353 t356 0 0) else (some false))) = some r := H
        have A8 := Aside0.mk A80
        clear A80
        replace H := Option.bind_eq_some_iff.mp H
        obtain ⟨t356, A90, H⟩ := H
        replace H : (if (t356.length : Int) = (l0.length : Int) then (runnellaw13_CompParts.l0 kj3 l0 t353 t356 0 0) else (some false)) = some r := H
        have A9 := Aside0.mk A90
        clear A90
        by_cases c10 : (t356.length : Int) = (l0.length : Int)
        · rw [if_pos c10] at H
          have c10b0 : ((t356.length : Int) == (l0.length : Int)) = true := beq_iff_eq.mpr c10
          have c10b1 : ((t356.length : Int) != (l0.length : Int)) = false := bne_eq_false_iff_eq.mpr c10
          have c10b2 : (t356.length == l0.length) = true := by first | simpa using c10 | (simp at c10 ⊢; omega)
          clear c10
          have H' := Aside0.mk H
          clear H
          go_wp2_with (first | ((with_reducible refine gate_callee (f := 42) rfl ?_); refine goesL_ (some 24) rfl rfl Try.func42 (by kernel_rfl) rfl #[.slice A0 l0.length c0] rfl (by (try simp only [List.map_toArray, List.map_cons, List.map_nil]); first | done | rfl | (simp only [List.length_drop, List.length_take]; rfl)) ?_; (with_reducible refine (comp_Components.calls kj3 _ _ l0 t353 _ ?side1 ?side2 A8.out).mono ?_); (case side1 => repeat (first | exact (Kd.C_below HR0.out HB.out) | (with_reducible refine Kd.C_alloc ?_ _) | (with_reducible refine Kd.C_drewN ?_ _) | (with_reducible refine Kd.C_drew ?_))); (case side2 => exact HC0.out); rintro e w11 ⟨v354, rfl, ho0, hb⟩; refine ⟨_, rfl, ?_⟩; have n0_ := Aside0.mk (Kd.S_lower ho0 (below_size (by repeat (first | (with_reducible first | exact HB.out | apply below_alloc | apply pw_below_drewN | apply below_drew1) | exact HB.out)))); have n1_ := Aside0.mk (below_step (by repeat (first | (with_reducible first | exact HB.out | apply below_alloc | apply pw_below_drewN | apply below_drew1) | exact HB.out)) hb); clear HB; have HO355 := n0_; have HB := n1_; clear n0_ n1_; (try clear hb); (try clear hb2); (try clear hk); (try clear hi); (try clear ho0)) | ((with_reducible refine gate_callee (f := 45) rfl ?_); refine goesL_ (some 26) rfl rfl Try.func45 (by kernel_rfl) rfl #[.slice A0 l0.length c0] rfl (by (try simp only [List.map_toArray, List.map_cons, List.map_nil]); first | done | rfl | (simp only [List.length_drop, List.length_take]; rfl)) ?_; (with_reducible refine (comp_Number.calls kj3 _ _ l0 t356 _ ?side1 ?side2 A9.out).mono ?_); (case side1 => repeat (first | exact (Kd.C_below HR0.out HB.out) | (with_reducible refine Kd.C_alloc ?_ _) | (with_reducible refine Kd.C_drewN ?_ _) | (with_reducible refine Kd.C_drew ?_))); (case side2 => exact HC0.out); rintro e w12 ⟨v357, rfl, ho0, hb⟩; refine ⟨_, rfl, ?_⟩; have n0_ := Aside0.mk (Kd.S_elder' (by (with_reducible repeat (first | apply Kd.S_alloc | apply Kd.S_drewN | apply Kd.S_drew)); exact HO355.out) (Kd.R_base ho0) hb); have n1_ := Aside0.mk (Kd.R_lower ho0 (below_size (by repeat (first | (with_reducible first | exact HB.out | apply below_alloc | apply pw_below_drewN | apply below_drew1) | exact HB.out)))); have n2_ := Aside0.mk (below_step (by repeat (first | (with_reducible first | exact HB.out | apply below_alloc | apply pw_below_drewN | apply below_drew1) | exact HB.out)) hb); clear HO355; clear HB; have HO355 := n0_; have HO358 := n1_; have HB := n2_; clear n0_ n1_ n2_; (try clear hb); (try clear hb2); (try clear hk); (try clear hi); (try clear ho0); obtain ⟨Ao13, co13, eo13⟩ := Kd.R_slice HO358.out; subst eo13))
          go_loopg [7, 8] kj3 (fun kq v7 v8 w' => ∃ (x7_2 : Int) (x8_2 : Int), v7 = .int .i64 x7_2 ∧ v8 = .int .i64 x8_2 ∧ Aside0 (runnellaw13_CompParts.l0 kq l0 t353 t356 x7_2 x8_2 = some r) ∧ Aside0 (kq ≤ kj3) ∧ Aside0 (Kd.S (Kd.slice 3 (Kd.int .i64)) 53 w' w.heap.size (fun k_ => some k_ ≠ ((.slice Ao13 t356.length co13) : Value).ownBlock) v354 t353) ∧ Aside0 (Kd.R (Kd.int .i64) 3 w' w.heap.size (fun _ => True) (.slice Ao13 t356.length co13) t356) ∧ Aside0 (Below w.heap.size w w'))
          case atStart => exact ⟨(0), (0), (by first | rfl | (simp; done) | (simp [*]; done)), (by first | rfl | (simp; done) | (simp [*]; done)), H', ⟨Nat.le_refl _⟩, ⟨by (with_reducible repeat (first | apply Kd.S_alloc | apply Kd.S_drewN | apply Kd.S_drew)); exact Kd.S_mono HO355.out (fun _ hk => hk.2)⟩, ⟨by (with_reducible repeat (first | apply Kd.R_alloc | apply Kd.R_drewN | apply Kd.R_drew)); exact HO358.out⟩, ⟨by repeat (first | (with_reducible first | exact HB.out | apply below_alloc | apply pw_below_drewN | apply below_drew1) | exact HB.out)⟩⟩
          case round =>
            clear H'
            try clear c1
            try clear p2
            try clear c3
            try clear c4
            try clear c6
            try clear c7
            try clear c10
            try clear c10b0
            try clear c10b1
            try clear c10b2
            try clear p2
            obtain ⟨x7_2, x8_2, rfl, rfl, HA, HK2, HO_5, HO_6, HB⟩ := hrel
            cases gk with
            | zero => exact absurd HA.out (by simp [runnellaw13_CompParts.l0])
            | succ k2 =>
              have H := HA.out
              clear HA
              simp only [runnellaw13_CompParts.l0] at H
              by_cases c14 : x8_2 < (t353.length : Int)
              · rw [if_pos c14] at H
                have c14b0 : decide (x8_2 < (t353.length : Int)) = true := decide_eq_true c14
                clear c14
                by_cases c15 : 0 ≤ x8_2
                · rw [if_pos c15] at H
                  have c15b0 : decide (0 ≤ x8_2) = true := decide_eq_true c15
                  clear c15
                  have H' := Aside0.mk H
                  clear H
                  obtain ⟨Ao16, co16, eo16⟩ := Kd.S_slice HO_5.out
                  subst eo16
                  have p359 : 0 ≤ (x8_2 : Int) := of_decide_eq_true (by first | (with_reducible assumption) | assumption)
                  have q359 : x8_2 < (t353.length : Int) := of_decide_eq_true (by first | (with_reducible assumption) | assumption)
                  obtain ⟨ad359, A359_0, c359_0, e359, hx359_0, hl359_0, hi359_0⟩ := at_L1 (Kd.S_reads' HO_5.out).2.2 x8_2 p359 q359
                  cases e359
                  obtain ⟨ce359, hce359, hMe359, hcc359⟩ := Kd.S_get HO_5.out [] x8_2 p359 (by first | exact q359 | exact of_decide_eq_true (by first | (with_reducible assumption) | assumption) | (have e_ := (Kd.S_reads' HO_5.out).1; omega))
                  obtain ⟨ve359_0, rfl, ge359_0⟩ := hMe359
                  have hv359_0 := hcc359 0 _ rfl
                  rw [Nat.add_zero, show ((Kd.slice 3 (Kd.int .i64))).sz = 1 from rfl, Nat.mul_one] at hv359_0
                  replace hv359_0 := Option.some.inj (hv359_0.symm.trans hx359_0)
                  rw [hv359_0] at ge359_0
                  have HL359_0 := Aside0.mk (show Kd.R (Kd.int .i64) 3 _ _ _ _ (rd_L1 t353 x8_2) from ge359_0)
                  clear hv359_0 ge359_0
                  clear hcc359 hce359
                  have HR359_0 := Aside0.mk hi359_0
                  have HC359_0 := Aside0.mk hl359_0
                  clear hi359_0 hl359_0
                  replace p359 := eq_true p359
                  replace q359 := eq_true q359
                  go_wp2
                  go_loopg [9] k2 (fun kq v9 w' => ∃ (x9_3 : Int), v9 = .int .i64 x9_3 ∧ Aside0 (runnellaw13_CompParts.l1 kq l0 t353 t356 (wrap64 (x7_2 + ((rd_L1 t353 x8_2).length : Int))) x8_2 x9_3 = some r) ∧ Aside0 (kq ≤ k2) ∧ Aside0 (Kd.S (Kd.slice 3 (Kd.int .i64)) 53 w' w.heap.size (fun k_ => some k_ ≠ ((.slice Ao13 t356.length co13) : Value).ownBlock) (.slice (some ad359) t353.length co16) t353) ∧ Aside0 (Kd.R (Kd.int .i64) 3 w' w.heap.size (fun _ => True) (.slice Ao13 t356.length co13) t356) ∧ Aside0 (Kd.C (Kd.int .i64) w' A359_0 (rd_L1 t353 x8_2).length (rd_L1 t353 x8_2)) ∧ Aside0 (Below w.heap.size w w'))
                  case atStart => exact ⟨(0), (by first | rfl | (simp; done) | (simp [*]; done)), H', ⟨Nat.le_refl _⟩, ⟨by (with_reducible repeat (first | apply Kd.S_alloc | apply Kd.S_drewN | apply Kd.S_drew)); exact HO_5.out⟩, ⟨by (with_reducible repeat (first | apply Kd.R_alloc | apply Kd.R_drewN | apply Kd.R_drew)); exact HO_6.out⟩, ⟨by repeat (first | (with_reducible exact HR359_0.out) | (with_reducible refine Kd.C_alloc ?_ _) | (with_reducible refine Kd.C_drewN ?_ _) | (with_reducible refine Kd.C_drew ?_) | exact HR359_0.out)⟩, ⟨by repeat (first | (with_reducible first | exact HB.out | apply below_alloc | apply pw_below_drewN | apply below_drew1) | exact HB.out)⟩⟩
                  case round =>
                    clear H'
                    try clear c1
                    try clear p2
                    try clear c3
                    try clear p3
                    try clear q3
                    try clear hx3
                    try clear c4
                    try clear c6
                    try clear p6
                    try clear c7
                    try clear c10
                    try clear c10b0
                    try clear c10b1
                    try clear c10b2
                    try clear c14
                    try clear c14b0
                    try clear c15
                    try clear c15b0
                    try clear hx359_0
                    try clear p2
                    try clear p359
                    try clear q359
                    obtain ⟨x9_3, rfl, HA, HK3, HO_5, HO_6, HR359_0, HB⟩ := hrel
                    cases gk with
                    | zero => exact absurd HA.out (by simp [runnellaw13_CompParts.l1])
                    | succ k3 =>
                      have H := HA.out
                      clear HA
                      simp only [runnellaw13_CompParts.l1] at H
                      by_cases c17 : 0 ≤ x8_2
                      · rw [if_pos c17] at H
                        have c17b0 : decide (0 ≤ x8_2) = true := decide_eq_true c17
                        clear c17
                        by_cases c18 : x8_2 < (t353.length : Int)
                        · rw [if_pos c18] at H
                          have c18b0 : decide (x8_2 < (t353.length : Int)) = true := decide_eq_true c18
                          clear c18
                          by_cases c19 : x9_3 < ((rd_L1 t353 x8_2).length : Int)
                          · rw [if_pos c19] at H
                            have c19b0 : decide (x9_3 < ((rd_L1 t353 x8_2).length : Int)) = true := decide_eq_true c19
                            clear c19
                            by_cases c20 : 0 ≤ x9_3
                            · rw [if_pos c20] at H
                              have c20b0 : decide (0 ≤ x9_3) = true := decide_eq_true c20
                              clear c20
                              have HC21 := Aside0.mk H
                              clear H
                              have p360 : 0 ≤ (x8_2 : Int) := of_decide_eq_true (by first | (with_reducible assumption) | assumption)
                              have q360 : x8_2 < (t353.length : Int) := of_decide_eq_true (by first | (with_reducible assumption) | assumption)
                              obtain ⟨ad360, A360_0, c360_0, e360, hx360_0, hl360_0, hi360_0⟩ := at_L1 (Kd.S_reads' HO_5.out).2.2 x8_2 p360 q360
                              obtain rfl : ad359 = ad360 := (by injection e360)
                              obtain ⟨ce360, hce360, hMe360, hcc360⟩ := Kd.S_get HO_5.out [] x8_2 p360 (by first | exact q360 | exact of_decide_eq_true (by first | (with_reducible assumption) | assumption) | (have e_ := (Kd.S_reads' HO_5.out).1; omega))
                              obtain ⟨ve360_0, rfl, ge360_0⟩ := hMe360
                              have hv360_0 := hcc360 0 _ rfl
                              rw [Nat.add_zero, show ((Kd.slice 3 (Kd.int .i64))).sz = 1 from rfl, Nat.mul_one] at hv360_0
                              replace hv360_0 := Option.some.inj (hv360_0.symm.trans hx360_0)
                              rw [hv360_0] at ge360_0
                              have HL360_0 := Aside0.mk (show Kd.R (Kd.int .i64) 3 _ _ _ _ (rd_L1 t353 x8_2) from ge360_0)
                              clear hv360_0 ge360_0
                              clear hcc360 hce360
                              have HR360_0 := Aside0.mk hi360_0
                              have HC360_0 := Aside0.mk hl360_0
                              clear hi360_0 hl360_0
                              replace p360 := eq_true p360
                              replace q360 := eq_true q360
                              have p361 : 0 ≤ (x8_2 : Int) := of_decide_eq_true (by first | (with_reducible assumption) | assumption)
                              have q361 : x8_2 < (t353.length : Int) := of_decide_eq_true (by first | (with_reducible assumption) | assumption)
                              obtain ⟨ad361, A361_0, c361_0, e361, hx361_0, hl361_0, hi361_0⟩ := at_L1 (Kd.S_reads' HO_5.out).2.2 x8_2 p361 q361
                              obtain rfl : ad359 = ad361 := (by injection e361)
                              obtain ⟨ce361, hce361, hMe361, hcc361⟩ := Kd.S_get HO_5.out [] x8_2 p361 (by first | exact q361 | exact of_decide_eq_true (by first | (with_reducible assumption) | assumption) | (have e_ := (Kd.S_reads' HO_5.out).1; omega))
                              obtain ⟨ve361_0, rfl, ge361_0⟩ := hMe361
                              have hv361_0 := hcc361 0 _ rfl
                              rw [Nat.add_zero, show ((Kd.slice 3 (Kd.int .i64))).sz = 1 from rfl, Nat.mul_one] at hv361_0
                              replace hv361_0 := Option.some.inj (hv361_0.symm.trans hx361_0)
                              rw [hv361_0] at ge361_0
                              have HL361_0 := Aside0.mk (show Kd.R (Kd.int .i64) 3 _ _ _ _ (rd_L1 t353 x8_2) from ge361_0)
                              clear hv361_0 ge361_0
                              clear hcc361 hce361
                              have HR361_0 := Aside0.mk hi361_0
                              have HC361_0 := Aside0.mk hl361_0
                              clear hi361_0 hl361_0
                              replace p361 := eq_true p361
                              replace q361 := eq_true q361
                              have ea_ := Option.some.inj (hx360_0.symm.trans hx361_0)
                              injection ea_ with ea_ en_ ec_
                              subst ea_
                              subst ec_
                              clear en_
                              have p362 : 0 ≤ (x9_3 : Int) := of_decide_eq_true (by first | (with_reducible assumption) | assumption)
                              have q362 : x9_3 < ((rd_L1 t353 x8_2).length : Int) := of_decide_eq_true (by first | (with_reducible assumption) | assumption)
                              obtain ⟨ad362, e362, hx362_0⟩ := Kd.at_int (by repeat (first | (with_reducible exact HR361_0.out) | (with_reducible refine Kd.C_alloc ?_ _) | (with_reducible refine Kd.C_drewN ?_ _) | (with_reducible refine Kd.C_drew ?_) | exact HR361_0.out)) x9_3 p362 q362
                              cases e362
                              replace p362 := eq_true p362
                              replace q362 := eq_true q362
                              go_upto_region 18 with (fail)
                              go_cut [92] (fun v92 wc => ∃ (kq : Nat) (x92_20 : Bool), v92 = .bool x92_20 ∧ Aside0 (runnellaw13_CompParts.j3 kq l0 t353 t356 (wrap64 (x7_2 + ((rd_L1 t353 x8_2).length : Int))) x8_2 x9_3 x92_20 = some r) ∧ Aside0 (kq ≤ k3) ∧ Aside0 (Kd.S (Kd.slice 3 (Kd.int .i64)) 53 wc w.heap.size (fun k_ => some k_ ≠ ((.slice Ao13 t356.length co13) : Value).ownBlock) (.slice (some ad359) t353.length co16) t353) ∧ Aside0 (Kd.R (Kd.int .i64) 3 wc w.heap.size (fun _ => True) (.slice Ao13 t356.length co13) t356) ∧ Aside0 (Kd.C (Kd.int .i64) wc A359_0 (rd_L1 t353 x8_2).length (rd_L1 t353 x8_2)) ∧ Aside0 (Kd.C (Kd.int .i64) wc (some ad362) (rd_L1 t353 x8_2).length (rd_L1 t353 x8_2)) ∧ Aside0 (Kd.C (Kd.int .i64) wc (some ad362) (rd_L1 t353 x8_2).length (rd_L1 t353 x8_2)) ∧ Aside0 (Below w.heap.size w wc))
                              case first =>
                                have H := HC21.out
                                clear HC21
                                by_cases c22 : (rd (rd_L1 t353 x8_2) x9_3) < 0
                                · rw [if_pos c22] at H
                                  have c22b0 : decide ((rd (rd_L1 t353 x8_2) x9_3) < 0) = true := decide_eq_true c22
                                  clear c22
                                  (first | rw [c22b0] | (simp only [i64_w, i32_w]; rw [c22b0]) | skip)
                                  have H' := Aside0.mk H
                                  clear H
                                  go_wp2
                                  go_meet
                                  case rel => exact ⟨_, (true), (by first | rfl | (simp; done) | (simp [*]; done)), H', ⟨by have := HJ3.out; have := HK2.out; have := HK3.out; first | omega | exact Nat.le_refl _⟩, ⟨by (with_reducible repeat (first | apply Kd.S_alloc | apply Kd.S_drewN | apply Kd.S_drew)); exact HO_5.out⟩, ⟨by (with_reducible repeat (first | apply Kd.R_alloc | apply Kd.R_drewN | apply Kd.R_drew)); exact HO_6.out⟩, ⟨by repeat (first | (with_reducible exact HR359_0.out) | (with_reducible refine Kd.C_alloc ?_ _) | (with_reducible refine Kd.C_drewN ?_ _) | (with_reducible refine Kd.C_drew ?_) | exact HR359_0.out)⟩, ⟨by repeat (first | (with_reducible exact HR360_0.out) | (with_reducible refine Kd.C_alloc ?_ _) | (with_reducible refine Kd.C_drewN ?_ _) | (with_reducible refine Kd.C_drew ?_) | exact HR360_0.out)⟩, ⟨by repeat (first | (with_reducible exact HR361_0.out) | (with_reducible refine Kd.C_alloc ?_ _) | (with_reducible refine Kd.C_drewN ?_ _) | (with_reducible refine Kd.C_drew ?_) | exact HR361_0.out)⟩, ⟨by repeat (first | (with_reducible first | exact HB.out | apply below_alloc | apply pw_below_drewN | apply below_drew1) | exact HB.out)⟩⟩
                                · rw [if_neg c22] at H
                                  have c22b0 : decide ((rd (rd_L1 t353 x8_2) x9_3) < 0) = false := decide_eq_false c22
                                  clear c22
                                  (first | rw [c22b0] | (simp only [i64_w, i32_w]; rw [c22b0]) | skip)
                                  by_cases c23 : (rd (rd_L1 t353 x8_2) x9_3) ≥ (l0.length : Int)
                                  · rw [if_pos c23] at H
                                    have c23b0 : decide ((l0.length : Int) ≤ (rd (rd_L1 t353 x8_2) x9_3)) = true := decide_eq_true c23
                                    clear c23
                                    have H' := Aside0.mk H
                                    clear H
                                    go_wp2
                                    go_meet
                                    case rel => exact ⟨_, (true), (by first | rfl | (simp; done) | (simp [*]; done)), H', ⟨by have := HJ3.out; have := HK2.out; have := HK3.out; first | omega | exact Nat.le_refl _⟩, ⟨by (with_reducible repeat (first | apply Kd.S_alloc | apply Kd.S_drewN | apply Kd.S_drew)); exact HO_5.out⟩, ⟨by (with_reducible repeat (first | apply Kd.R_alloc | apply Kd.R_drewN | apply Kd.R_drew)); exact HO_6.out⟩, ⟨by repeat (first | (with_reducible exact HR359_0.out) | (with_reducible refine Kd.C_alloc ?_ _) | (with_reducible refine Kd.C_drewN ?_ _) | (with_reducible refine Kd.C_drew ?_) | exact HR359_0.out)⟩, ⟨by repeat (first | (with_reducible exact HR360_0.out) | (with_reducible refine Kd.C_alloc ?_ _) | (with_reducible refine Kd.C_drewN ?_ _) | (with_reducible refine Kd.C_drew ?_) | exact HR360_0.out)⟩, ⟨by repeat (first | (with_reducible exact HR361_0.out) | (with_reducible refine Kd.C_alloc ?_ _) | (with_reducible refine Kd.C_drewN ?_ _) | (with_reducible refine Kd.C_drew ?_) | exact HR361_0.out)⟩, ⟨by repeat (first | (with_reducible first | exact HB.out | apply below_alloc | apply pw_below_drewN | apply below_drew1) | exact HB.out)⟩⟩
                                  · rw [if_neg c23] at H
                                    have c23b0 : decide ((l0.length : Int) ≤ (rd (rd_L1 t353 x8_2) x9_3)) = false := decide_eq_false c23
                                    clear c23
                                    by_cases c24 : 0 ≤ (rd (rd_L1 t353 x8_2) x9_3)
                                    · rw [if_pos c24] at H
                                      have c24b0 : decide (0 ≤ (rd (rd_L1 t353 x8_2) x9_3)) = true := decide_eq_true c24
                                      clear c24
                                      by_cases c25 : (rd (rd_L1 t353 x8_2) x9_3) < (t356.length : Int)
                                      · rw [if_pos c25] at H
                                        have c25b0 : decide ((rd (rd_L1 t353 x8_2) x9_3) < (t356.length : Int)) = true := decide_eq_true c25
                                        clear c25
                                        by_cases c26 : (rd t356 (rd (rd_L1 t353 x8_2) x9_3)) = x8_2
                                        · rw [if_pos c26] at H
                                          have c26b0 : ((rd t356 (rd (rd_L1 t353 x8_2) x9_3)) == x8_2) = true := beq_iff_eq.mpr c26
                                          have c26b1 : ((rd t356 (rd (rd_L1 t353 x8_2) x9_3)) != x8_2) = false := bne_eq_false_iff_eq.mpr c26
                                          clear c26
                                          by_cases c27 : x9_3 > 0
                                          · rw [if_pos c27] at H
                                            have c27b0 : decide (0 < x9_3) = true := decide_eq_true c27
                                            clear c27
                                            obtain ⟨ji28, hji28⟩ : ∃ j_ : Int, (wrap64 (x9_3 - 1)) = j_ := ⟨_, rfl⟩
                                            replace H : (if 0 ≤ (ji28) then (if (ji28) < ((rd_L1 t353 x8_2).length : Int) then (runnellaw13_CompParts.j3 k3 l0 t353 t356 (wrap64 (x7_2 + ((rd_L1 t353 x8_2).length : Int))) x8_2 x9_3 (decide ((rd (rd_L1 t353 x8_2) x9_3) ≤ (rd (rd_L1 t353 x8_2) (ji28))))) else (none)) else (none)) = some r := by first | (rw [hji28] at H; exact H) | (simp only [hji28] at H ⊢; exact H)
                                            have hji28w : (IntKind.i64.wrap (x9_3 - 1)) = ji28 := (i64_w _).trans hji28
                                            by_cases c29 : 0 ≤ (ji28)
                                            · rw [if_pos c29] at H
                                              have c29b0 : decide (0 ≤ (ji28)) = true := decide_eq_true c29
                                              clear c29
                                              by_cases c30 : (ji28) < ((rd_L1 t353 x8_2).length : Int)
                                              · rw [if_pos c30] at H
                                                have c30b0 : decide ((ji28) < ((rd_L1 t353 x8_2).length : Int)) = true := decide_eq_true c30
                                                clear c30
                                                have H' := Aside0.mk H
                                                clear H
                                                have p363 : 0 ≤ ((rd (rd_L1 t353 x8_2) x9_3) : Int) := of_decide_eq_true (by first | (with_reducible assumption) | assumption)
                                                have q363 : (rd (rd_L1 t353 x8_2) x9_3) < (t356.length : Int) := of_decide_eq_true (by first | (with_reducible assumption) | assumption)
                                                obtain ⟨ad363, e363, hx363_0⟩ := Kd.at_int (Kd.R_reads' HO_6.out).2.2 (rd (rd_L1 t353 x8_2) x9_3) p363 q363
                                                cases e363
                                                replace p363 := eq_true p363
                                                replace q363 := eq_true q363
                                                have p364 : 0 ≤ (x8_2 : Int) := of_decide_eq_true (by first | (with_reducible assumption) | assumption)
                                                have q364 : x8_2 < (t353.length : Int) := of_decide_eq_true (by first | (with_reducible assumption) | assumption)
                                                obtain ⟨ad364, A364_0, c364_0, e364, hx364_0, hl364_0, hi364_0⟩ := at_L1 (Kd.S_reads' HO_5.out).2.2 x8_2 p364 q364
                                                obtain rfl : ad359 = ad364 := (by injection e364)
                                                obtain ⟨ce364, hce364, hMe364, hcc364⟩ := Kd.S_get HO_5.out [] x8_2 p364 (by first | exact q364 | exact of_decide_eq_true (by first | (with_reducible assumption) | assumption) | (have e_ := (Kd.S_reads' HO_5.out).1; omega))
                                                obtain ⟨ve364_0, rfl, ge364_0⟩ := hMe364
                                                have hv364_0 := hcc364 0 _ rfl
                                                rw [Nat.add_zero, show ((Kd.slice 3 (Kd.int .i64))).sz = 1 from rfl, Nat.mul_one] at hv364_0
                                                replace hv364_0 := Option.some.inj (hv364_0.symm.trans hx364_0)
                                                rw [hv364_0] at ge364_0
                                                have HL364_0 := Aside0.mk (show Kd.R (Kd.int .i64) 3 _ _ _ _ (rd_L1 t353 x8_2) from ge364_0)
                                                clear hv364_0 ge364_0
                                                clear hcc364 hce364
                                                have HR364_0 := Aside0.mk hi364_0
                                                have HC364_0 := Aside0.mk hl364_0
                                                clear hi364_0 hl364_0
                                                replace p364 := eq_true p364
                                                replace q364 := eq_true q364
                                                have ea_ := Option.some.inj (hx360_0.symm.trans hx364_0)
                                                injection ea_ with ea_ en_ ec_
                                                subst ea_
                                                subst ec_
                                                clear en_
                                                have p365 : 0 ≤ ((ji28) : Int) := of_decide_eq_true (by first | (with_reducible assumption) | assumption)
                                                have q365 : (ji28) < ((rd_L1 t353 x8_2).length : Int) := of_decide_eq_true (by first | (with_reducible assumption) | assumption)
                                                obtain ⟨ad365, e365, hx365_0⟩ := Kd.at_int (by repeat (first | (with_reducible exact HR364_0.out) | (with_reducible refine Kd.C_alloc ?_ _) | (with_reducible refine Kd.C_drewN ?_ _) | (with_reducible refine Kd.C_drew ?_) | exact HR364_0.out)) (ji28) p365 q365
                                                cases e365
                                                replace p365 := eq_true p365
                                                replace q365 := eq_true q365
                                                go_wp2
                                                go_meet
                                                case rel => exact ⟨_, (decide ((rd (rd_L1 t353 x8_2) x9_3) ≤ (rd (rd_L1 t353 x8_2) (ji28)))), (by first | rfl | (simp; done) | (simp only [← hji28] <;> (first | rfl | simp)) | (simp [*]; done)), H', ⟨by have := HJ3.out; have := HK2.out; have := HK3.out; first | omega | exact Nat.le_refl _⟩, ⟨by (with_reducible repeat (first | apply Kd.S_alloc | apply Kd.S_drewN | apply Kd.S_drew)); exact HO_5.out⟩, ⟨by (with_reducible repeat (first | apply Kd.R_alloc | apply Kd.R_drewN | apply Kd.R_drew)); exact HO_6.out⟩, ⟨by repeat (first | (with_reducible exact HR359_0.out) | (with_reducible refine Kd.C_alloc ?_ _) | (with_reducible refine Kd.C_drewN ?_ _) | (with_reducible refine Kd.C_drew ?_) | exact HR359_0.out)⟩, ⟨by repeat (first | (with_reducible exact HR360_0.out) | (with_reducible refine Kd.C_alloc ?_ _) | (with_reducible refine Kd.C_drewN ?_ _) | (with_reducible refine Kd.C_drew ?_) | exact HR360_0.out)⟩, ⟨by repeat (first | (with_reducible exact HR361_0.out) | (with_reducible refine Kd.C_alloc ?_ _) | (with_reducible refine Kd.C_drewN ?_ _) | (with_reducible refine Kd.C_drew ?_) | exact HR361_0.out)⟩, ⟨by repeat (first | (with_reducible first | exact HB.out | apply below_alloc | apply pw_below_drewN | apply below_drew1) | exact HB.out)⟩⟩
                                              · rw [if_neg c30] at H
                                                exact absurd H (by simp)
                                            · rw [if_neg c29] at H
                                              exact absurd H (by simp)
                                          · rw [if_neg c27] at H
                                            have c27b0 : decide (0 < x9_3) = false := decide_eq_false c27
                                            clear c27
                                            have H' := Aside0.mk H
                                            clear H
                                            have p363 : 0 ≤ ((rd (rd_L1 t353 x8_2) x9_3) : Int) := of_decide_eq_true (by first | (with_reducible assumption) | assumption)
                                            have q363 : (rd (rd_L1 t353 x8_2) x9_3) < (t356.length : Int) := of_decide_eq_true (by first | (with_reducible assumption) | assumption)
                                            obtain ⟨ad363, e363, hx363_0⟩ := Kd.at_int (Kd.R_reads' HO_6.out).2.2 (rd (rd_L1 t353 x8_2) x9_3) p363 q363
                                            cases e363
                                            replace p363 := eq_true p363
                                            replace q363 := eq_true q363
                                            go_wp2
                                            go_meet
                                            case rel => exact ⟨_, (false), (by first | rfl | (simp; done) | (simp [*]; done)), H', ⟨by have := HJ3.out; have := HK2.out; have := HK3.out; first | omega | exact Nat.le_refl _⟩, ⟨by (with_reducible repeat (first | apply Kd.S_alloc | apply Kd.S_drewN | apply Kd.S_drew)); exact HO_5.out⟩, ⟨by (with_reducible repeat (first | apply Kd.R_alloc | apply Kd.R_drewN | apply Kd.R_drew)); exact HO_6.out⟩, ⟨by repeat (first | (with_reducible exact HR359_0.out) | (with_reducible refine Kd.C_alloc ?_ _) | (with_reducible refine Kd.C_drewN ?_ _) | (with_reducible refine Kd.C_drew ?_) | exact HR359_0.out)⟩, ⟨by repeat (first | (with_reducible exact HR360_0.out) | (with_reducible refine Kd.C_alloc ?_ _) | (with_reducible refine Kd.C_drewN ?_ _) | (with_reducible refine Kd.C_drew ?_) | exact HR360_0.out)⟩, ⟨by repeat (first | (with_reducible exact HR361_0.out) | (with_reducible refine Kd.C_alloc ?_ _) | (with_reducible refine Kd.C_drewN ?_ _) | (with_reducible refine Kd.C_drew ?_) | exact HR361_0.out)⟩, ⟨by repeat (first | (with_reducible first | exact HB.out | apply below_alloc | apply pw_below_drewN | apply below_drew1) | exact HB.out)⟩⟩
                                        · rw [if_neg c26] at H
                                          have c26b0 : ((rd t356 (rd (rd_L1 t353 x8_2) x9_3)) == x8_2) = false := beq_eq_false_iff_ne.mpr c26
                                          have c26b1 : ((rd t356 (rd (rd_L1 t353 x8_2) x9_3)) != x8_2) = true := bne_iff_ne.mpr c26
                                          have H' := Aside0.mk H
                                          clear H
                                          have p363 : 0 ≤ ((rd (rd_L1 t353 x8_2) x9_3) : Int) := of_decide_eq_true (by first | (with_reducible assumption) | assumption)
                                          have q363 : (rd (rd_L1 t353 x8_2) x9_3) < (t356.length : Int) := of_decide_eq_true (by first | (with_reducible assumption) | assumption)
                                          obtain ⟨ad363, e363, hx363_0⟩ := Kd.at_int (Kd.R_reads' HO_6.out).2.2 (rd (rd_L1 t353 x8_2) x9_3) p363 q363
                                          cases e363
                                          replace p363 := eq_true p363
                                          replace q363 := eq_true q363
                                          go_wp2
                                          go_meet
                                          case rel => exact ⟨_, (true), (by first | rfl | (simp; done) | (simp [*]; done)), H', ⟨by have := HJ3.out; have := HK2.out; have := HK3.out; first | omega | exact Nat.le_refl _⟩, ⟨by (with_reducible repeat (first | apply Kd.S_alloc | apply Kd.S_drewN | apply Kd.S_drew)); exact HO_5.out⟩, ⟨by (with_reducible repeat (first | apply Kd.R_alloc | apply Kd.R_drewN | apply Kd.R_drew)); exact HO_6.out⟩, ⟨by repeat (first | (with_reducible exact HR359_0.out) | (with_reducible refine Kd.C_alloc ?_ _) | (with_reducible refine Kd.C_drewN ?_ _) | (with_reducible refine Kd.C_drew ?_) | exact HR359_0.out)⟩, ⟨by repeat (first | (with_reducible exact HR360_0.out) | (with_reducible refine Kd.C_alloc ?_ _) | (with_reducible refine Kd.C_drewN ?_ _) | (with_reducible refine Kd.C_drew ?_) | exact HR360_0.out)⟩, ⟨by repeat (first | (with_reducible exact HR361_0.out) | (with_reducible refine Kd.C_alloc ?_ _) | (with_reducible refine Kd.C_drewN ?_ _) | (with_reducible refine Kd.C_drew ?_) | exact HR361_0.out)⟩, ⟨by repeat (first | (with_reducible first | exact HB.out | apply below_alloc | apply pw_below_drewN | apply below_drew1) | exact HB.out)⟩⟩
                                      · rw [if_neg c25] at H
                                        exact absurd H (by simp)
                                    · rw [if_neg c24] at H
                                      exact absurd H (by simp)
                              case rest =>
                                clear HC21
                                try clear c1
                                try clear c2
                                try clear p2
                                try clear c3
                                try clear p3
                                try clear q3
                                try clear hx3
                                try clear c4
                                try clear c6
                                try clear p6
                                try clear c7
                                try clear c10
                                try clear c10b0
                                try clear c10b1
                                try clear c10b2
                                try clear c14
                                try clear c14b0
                                try clear c15
                                try clear c15b0
                                try clear c17
                                try clear c17b0
                                try clear c18
                                try clear c18b0
                                try clear c19
                                try clear c19b0
                                try clear c20
                                try clear c20b0
                                try clear c22
                                try clear c22b0
                                try clear c23
                                try clear c23b0
                                try clear c24
                                try clear c24b0
                                try clear c25
                                try clear c25b0
                                try clear c26
                                try clear c26b0
                                try clear c26b1
                                try clear c27
                                try clear c27b0
                                try clear c29
                                try clear c29b0
                                try clear c30
                                try clear c30b0
                                try clear hx359_0
                                try clear hx360_0
                                try clear hx361_0
                                try clear hx362_0
                                try clear hx363_0
                                try clear hx364_0
                                try clear hx365_0
                                try clear p2
                                try clear p3
                                try clear p359
                                try clear p360
                                try clear p361
                                try clear p362
                                try clear p363
                                try clear p364
                                try clear p365
                                try clear p6
                                try clear q3
                                try clear q359
                                try clear q360
                                try clear q361
                                try clear q362
                                try clear q363
                                try clear q364
                                try clear q365
                                obtain ⟨kq, x92_20, rfl, HA, HJ20, HO_5, HO_6, HR359_0, HR360_0, HR361_0, HB⟩ := hcut
                                cases kq with
                                | zero => exact absurd HA.out (by simp [runnellaw13_CompParts.j3])
                                | succ kj20 =>
                                  have H := HA.out
                                  clear HA
                                  simp only [runnellaw13_CompParts.j3] at H
                                  by_cases c31 : x92_20 = true
                                  · subst c31
                                    have H1 : (some false) = some r := by rw [if_pos rfl] at H; exact H
                                    clear H
                                    have H := H1
                                    clear H1
                                    obtain rfl := Option.some.inj H
                                    go_wp2
                                    go_ret
                                    exact ⟨by first | rfl | (simp [errW_none, errW_some] <;> rfl) | (simp [*, errW_none, errW_some] <;> rfl), by repeat (first | (with_reducible first | exact HB.out | apply below_alloc | apply pw_below_drewN | apply below_drew1) | exact HB.out)⟩
                                  · replace c31 := Bool.eq_false_iff.mpr c31
                                    subst c31
                                    have H1 : (runnellaw13_CompParts.l1 kj20 l0 t353 t356 (wrap64 (x7_2 + ((rd_L1 t353 x8_2).length : Int))) x8_2 (wrap64 (x9_3 + 1))) = some r := by rw [if_neg (show ¬ (false = true) by decide)] at H; exact H
                                    clear H
                                    have H := H1
                                    clear H1
                                    have H' := Aside0.mk H
                                    clear H
                                    go_wp2
                                    go_roundg kj20
                                    case measure => have := HJ3.out; have := HK2.out; have := HK3.out; have := HJ20.out; omega
                                    case rel => exact ⟨(wrap64 (x9_3 + 1)), (by first | rfl | (simp; done) | (simp [*]; done)), H', ⟨by have := HJ3.out; have := HK2.out; have := HK3.out; have := HJ20.out; omega⟩, ⟨by (with_reducible repeat (first | apply Kd.S_alloc | apply Kd.S_drewN | apply Kd.S_drew)); exact HO_5.out⟩, ⟨by (with_reducible repeat (first | apply Kd.R_alloc | apply Kd.R_drewN | apply Kd.R_drew)); exact HO_6.out⟩, ⟨by repeat (first | (with_reducible exact HR359_0.out) | (with_reducible refine Kd.C_alloc ?_ _) | (with_reducible refine Kd.C_drewN ?_ _) | (with_reducible refine Kd.C_drew ?_) | exact HR359_0.out)⟩, ⟨by repeat (first | (with_reducible first | exact HB.out | apply below_alloc | apply pw_below_drewN | apply below_drew1) | exact HB.out)⟩⟩
                            · rw [if_neg c20] at H
                              exact absurd H (by simp)
                          · rw [if_neg c19] at H
                            have c19b0 : decide (x9_3 < ((rd_L1 t353 x8_2).length : Int)) = false := decide_eq_false c19
                            clear c19
                            have H' := Aside0.mk H
                            clear H
                            have p360 : 0 ≤ (x8_2 : Int) := of_decide_eq_true (by first | (with_reducible assumption) | assumption)
                            have q360 : x8_2 < (t353.length : Int) := of_decide_eq_true (by first | (with_reducible assumption) | assumption)
                            obtain ⟨ad360, A360_0, c360_0, e360, hx360_0, hl360_0, hi360_0⟩ := at_L1 (Kd.S_reads' HO_5.out).2.2 x8_2 p360 q360
                            obtain rfl : ad359 = ad360 := (by injection e360)
                            obtain ⟨ce360, hce360, hMe360, hcc360⟩ := Kd.S_get HO_5.out [] x8_2 p360 (by first | exact q360 | exact of_decide_eq_true (by first | (with_reducible assumption) | assumption) | (have e_ := (Kd.S_reads' HO_5.out).1; omega))
                            obtain ⟨ve360_0, rfl, ge360_0⟩ := hMe360
                            have hv360_0 := hcc360 0 _ rfl
                            rw [Nat.add_zero, show ((Kd.slice 3 (Kd.int .i64))).sz = 1 from rfl, Nat.mul_one] at hv360_0
                            replace hv360_0 := Option.some.inj (hv360_0.symm.trans hx360_0)
                            rw [hv360_0] at ge360_0
                            have HL360_0 := Aside0.mk (show Kd.R (Kd.int .i64) 3 _ _ _ _ (rd_L1 t353 x8_2) from ge360_0)
                            clear hv360_0 ge360_0
                            clear hcc360 hce360
                            have HR360_0 := Aside0.mk hi360_0
                            have HC360_0 := Aside0.mk hl360_0
                            clear hi360_0 hl360_0
                            replace p360 := eq_true p360
                            replace q360 := eq_true q360
                            go_wp2
                            go_roundg k3
                            case measure => have := HJ3.out; have := HK2.out; have := HK3.out; omega
                            case rel => exact ⟨((wrap64 (x7_2 + ((rd_L1 t353 x8_2).length : Int)))), (wrap64 (x8_2 + 1)), (by first | rfl | (simp; done) | (simp [*]; done)), (by first | rfl | (simp; done) | (simp [*]; done)), H', ⟨by have := HJ3.out; have := HK2.out; have := HK3.out; omega⟩, ⟨by (with_reducible repeat (first | apply Kd.S_alloc | apply Kd.S_drewN | apply Kd.S_drew)); exact HO_5.out⟩, ⟨by (with_reducible repeat (first | apply Kd.R_alloc | apply Kd.R_drewN | apply Kd.R_drew)); exact HO_6.out⟩, ⟨by repeat (first | (with_reducible first | exact HB.out | apply below_alloc | apply pw_below_drewN | apply below_drew1) | exact HB.out)⟩⟩
                        · rw [if_neg c18] at H
                          exact absurd H (by simp)
                      · rw [if_neg c17] at H
                        exact absurd H (by simp)
                · rw [if_neg c15] at H
                  exact absurd H (by simp)
              · rw [if_neg c14] at H
                have c14b0 : decide (x8_2 < (t353.length : Int)) = false := decide_eq_false c14
                clear c14
                have H' := Aside0.mk H
                clear H
                obtain ⟨Ao32, co32, eo32⟩ := Kd.S_slice HO_5.out
                subst eo32
                go_wp2
                go_loopg [11] k2 (fun kq v11 w' => ∃ (x11_3 : Int), v11 = .int .i64 x11_3 ∧ Aside0 (runnellaw13_CompParts.l2 kq l0 t356 x7_2 x11_3 = some r) ∧ Aside0 (kq ≤ k2) ∧ Aside0 (Kd.R (Kd.int .i64) 3 w' w.heap.size (fun _ => True) (.slice Ao13 t356.length co13) t356) ∧ Aside0 (Below w.heap.size w w'))
                case atStart => exact ⟨(0), (by first | rfl | (simp; done) | (simp [*]; done)), H', ⟨Nat.le_refl _⟩, ⟨by (with_reducible repeat (first | apply Kd.R_alloc | apply Kd.R_drewN | apply Kd.R_drew)); exact HO_6.out⟩, ⟨by repeat (first | (with_reducible first | exact HB.out | apply below_alloc | apply pw_below_drewN | apply below_drew1) | exact HB.out)⟩⟩
                case round =>
                  clear H'
                  try clear c1
                  try clear c2
                  try clear p2
                  try clear c3
                  try clear p3
                  try clear q3
                  try clear hx3
                  try clear c4
                  try clear c6
                  try clear p6
                  try clear c7
                  try clear c10
                  try clear c10b0
                  try clear c10b1
                  try clear c10b2
                  try clear c14
                  try clear c14b0
                  try clear c15
                  try clear c15b0
                  try clear c17
                  try clear c17b0
                  try clear c18
                  try clear c18b0
                  try clear c19
                  try clear c19b0
                  try clear c20
                  try clear c20b0
                  try clear c22
                  try clear c22b0
                  try clear c23
                  try clear c23b0
                  try clear c24
                  try clear c24b0
                  try clear c25
                  try clear c25b0
                  try clear c26
                  try clear c26b0
                  try clear c26b1
                  try clear c27
                  try clear c27b0
                  try clear c29
                  try clear c29b0
                  try clear c30
                  try clear c30b0
                  try clear c31
                  try clear hx359_0
                  try clear hx360_0
                  try clear hx361_0
                  try clear hx362_0
                  try clear hx363_0
                  try clear hx364_0
                  try clear hx365_0
                  try clear p2
                  try clear p3
                  try clear p359
                  try clear p360
                  try clear p361
                  try clear p362
                  try clear p363
                  try clear p364
                  try clear p365
                  try clear p6
                  try clear q3
                  try clear q359
                  try clear q360
                  try clear q361
                  try clear q362
                  try clear q363
                  try clear q364
                  try clear q365
                  obtain ⟨x11_3, rfl, HA, HK3, HO_6, HB⟩ := hrel
                  cases gk with
                  | zero => exact absurd HA.out (by simp [runnellaw13_CompParts.l2])
                  | succ k3 =>
                    have H := HA.out
                    clear HA
                    simp only [runnellaw13_CompParts.l2] at H
                    by_cases c33 : x11_3 < (l0.length : Int)
                    · rw [if_pos c33] at H
                      have c33b0 : decide (x11_3 < (l0.length : Int)) = true := decide_eq_true c33
                      clear c33
                      have H' := Aside0.mk H
                      clear H
                      go_wp2
                      go_loopg [12] k3 (fun kq v12 w' => ∃ (x12_4 : Int), v12 = .int .i64 x12_4 ∧ Aside0 (runnellaw13_CompParts.l3 kq l0 t356 x7_2 x11_3 x12_4 = some r) ∧ Aside0 (kq ≤ k3) ∧ Aside0 (Kd.R (Kd.int .i64) 3 w' w.heap.size (fun _ => True) (.slice Ao13 t356.length co13) t356) ∧ Aside0 (Below w.heap.size w w'))
                      case atStart => exact ⟨(0), (by first | rfl | (simp; done) | (simp [*]; done)), H', ⟨Nat.le_refl _⟩, ⟨by (with_reducible repeat (first | apply Kd.R_alloc | apply Kd.R_drewN | apply Kd.R_drew)); exact HO_6.out⟩, ⟨by repeat (first | (with_reducible first | exact HB.out | apply below_alloc | apply pw_below_drewN | apply below_drew1) | exact HB.out)⟩⟩
                      case round =>
                        clear H'
                        try clear c1
                        try clear c2
                        try clear p2
                        try clear c3
                        try clear p3
                        try clear q3
                        try clear hx3
                        try clear c4
                        try clear c6
                        try clear p6
                        try clear c7
                        try clear c10
                        try clear c10b0
                        try clear c10b1
                        try clear c10b2
                        try clear c14
                        try clear c14b0
                        try clear c15
                        try clear c15b0
                        try clear c17
                        try clear c17b0
                        try clear c18
                        try clear c18b0
                        try clear c19
                        try clear c19b0
                        try clear c20
                        try clear c20b0
                        try clear c22
                        try clear c22b0
                        try clear c23
                        try clear c23b0
                        try clear c24
                        try clear c24b0
                        try clear c25
                        try clear c25b0
                        try clear c26
                        try clear c26b0
                        try clear c26b1
                        try clear c27
                        try clear c27b0
                        try clear c29
                        try clear c29b0
                        try clear c30
                        try clear c30b0
                        try clear c31
                        try clear c33
                        try clear c33b0
                        try clear hx359_0
                        try clear hx360_0
                        try clear hx361_0
                        try clear hx362_0
                        try clear hx363_0
                        try clear hx364_0
                        try clear hx365_0
                        try clear p2
                        try clear p3
                        try clear p359
                        try clear p360
                        try clear p361
                        try clear p362
                        try clear p363
                        try clear p364
                        try clear p365
                        try clear p6
                        try clear q3
                        try clear q359
                        try clear q360
                        try clear q361
                        try clear q362
                        try clear q363
                        try clear q364
                        try clear q365
                        obtain ⟨x12_4, rfl, HA, HK4, HO_6, HB⟩ := hrel
                        cases gk with
                        | zero => exact absurd HA.out (by simp [runnellaw13_CompParts.l3])
                        | succ k4 =>
                          have H := HA.out
                          clear HA
                          simp only [runnellaw13_CompParts.l3] at H
                          by_cases c34 : x12_4 < (l0.length : Int)
                          · rw [if_pos c34] at H
                            have c34b0 : decide (x12_4 < (l0.length : Int)) = true := decide_eq_true c34
                            clear c34
                            replace H := Option.bind_eq_some_iff.mp H
                            obtain ⟨t366, A350, H⟩ := H
                            replace H : (if 0 ≤ x11_3 then (if x11_3 < (t356.length : Int) then (if 0 ≤ x12_4 then (if x12_4 < (t356.length : Int) then (if (t366 != ((rd t356 x11_3) == (rd t356 x12_4))) = true then (some false) else (runnellaw13_CompParts.l3 k4 l0 t356 x7_2 x11_3 (wrap64 (x12_4 + 1)))) else (none)) else (none)) else (none)) else (none)) = some r := H
                            have A35 := Aside0.mk A350
                            clear A350
                            by_cases c36 : 0 ≤ x11_3
                            · rw [if_pos c36] at H
                              have c36b0 : decide (0 ≤ x11_3) = true := decide_eq_true c36
                              clear c36
                              by_cases c37 : x11_3 < (t356.length : Int)
                              · rw [if_pos c37] at H
                                have c37b0 : decide (x11_3 < (t356.length : Int)) = true := decide_eq_true c37
                                clear c37
                                by_cases c38 : 0 ≤ x12_4
                                · rw [if_pos c38] at H
                                  have c38b0 : decide (0 ≤ x12_4) = true := decide_eq_true c38
                                  clear c38
                                  by_cases c39 : x12_4 < (t356.length : Int)
                                  · rw [if_pos c39] at H
                                    have c39b0 : decide (x12_4 < (t356.length : Int)) = true := decide_eq_true c39
                                    clear c39
                                    by_cases c40 : (t366 != ((rd t356 x11_3) == (rd t356 x12_4))) = true
                                    · rw [if_pos c40] at H
                                      have c40b0 : (t366 != ((rd t356 x11_3) == (rd t356 x12_4))) = true := c40
                                      (try (have c40b1 : decide (t366 = ((rd t356 x11_3) == (rd t356 x12_4))) = false := by simpa using c40))
                                      (try (have c40b2 : (t366 == ((rd t356 x11_3) == (rd t356 x12_4))) = false := by simpa using c40))
                                      (try (have c40b3 : ¬ (t366 = ((rd t356 x11_3) == (rd t356 x12_4))) := by simpa using c40))
                                      clear c40
                                      obtain rfl := Option.some.inj H
                                      try go_wp2
                                      have n0_ := Aside0.mk (Kd.R_drew HO_6.out)
                                      have n1_ := Aside0.mk (below_drew1 HB.out)
                                      clear HO_6
                                      clear HB
                                      have HO_6 := n0_
                                      have HB := n1_
                                      clear n0_ n1_
                                      have p367 : 0 ≤ (x11_3 : Int) := of_decide_eq_true (by first | (with_reducible assumption) | assumption)
                                      have q367 : x11_3 < (t356.length : Int) := of_decide_eq_true (by first | (with_reducible assumption) | assumption)
                                      obtain ⟨ad367, e367, hx367_0⟩ := Kd.at_int (Kd.R_reads' HO_6.out).2.2 x11_3 p367 q367
                                      cases e367
                                      replace p367 := eq_true p367
                                      replace q367 := eq_true q367
                                      have p368 : 0 ≤ (x12_4 : Int) := of_decide_eq_true (by first | (with_reducible assumption) | assumption)
                                      have q368 : x12_4 < (t356.length : Int) := of_decide_eq_true (by first | (with_reducible assumption) | assumption)
                                      obtain ⟨ad368, e368, hx368_0⟩ := Kd.at_int (Kd.R_reads' HO_6.out).2.2 x12_4 p368 q368
                                      obtain rfl : ad367 = ad368 := (by injection e368)
                                      replace p368 := eq_true p368
                                      replace q368 := eq_true q368
                                      refine start_ (n := 14) (S := fun w' => w'.cell? (ad367.add (x11_3).toNat) = some (.int .i64 (rd t356 x11_3)) ∧ w'.cell? (ad367.add (x12_4).toNat) = some (.int .i64 (rd t356 x12_4))) (ds := []) #[false, false, false, false, false, false, false, false, false, false, false, false, false, false] (by kernel_rfl) rfl rfl ⟨hx367_0, hx368_0⟩ (fun hHeld => ?_); refine with_tabW runnellaw13_CompParts.tab26 runnellaw13_CompParts.bits26 (fun HT_ HW_ => ?_)
                                      generalize wr.drew = w41 at HO_6 HB hx367_0 hx368_0 hHeld ⊢
                                      refine pure_ (i := 0) (N := some 105) (v := ?_) (a' := ?_) #[true, false, false, false, false, false, false, false, false, false, false, false, false, false] rfl rfl (any_of HT_.out (by kernel_rfl)) (fun _ _ _ h => h) (Or.inl ⟨by rfl, ?_⟩) ?_ ?_
                                      rotate_left
                                      · intro w'
                                        go_simp
                                        with_reducible rfl
                                      rotate_left
                                      · simp only [Act.put, List.setIfInBounds_toArray, List.set_cons_zero, List.set_cons_succ, i64_w, i32_w]
                                        rfl
                                      refine pure_ (i := 1) (N := some 106) (v := ?_) (a' := ?_) #[true, true, false, false, false, false, false, false, false, false, false, false, false, false] rfl rfl (any_of HT_.out (by kernel_rfl)) (fun _ _ _ h => h) (Or.inl ⟨by rfl, ?_⟩) ?_ ?_
                                      rotate_left
                                      · intro w'
                                        go_simp
                                        with_reducible rfl
                                      rotate_left
                                      · simp only [Act.put, List.setIfInBounds_toArray, List.set_cons_zero, List.set_cons_succ, i64_w, i32_w]
                                        rfl
                                      refine pure_ (i := 2) (N := some 107) (v := ?_) (a' := ?_) #[true, true, true, false, false, false, false, false, false, false, false, false, false, false] rfl rfl (any_of HT_.out (by kernel_rfl)) (fun _ _ _ h => h) (Or.inl ⟨by rfl, ?_⟩) ?_ ?_
                                      rotate_left
                                      · intro w'
                                        go_simp
                                        with_reducible rfl
                                      rotate_left
                                      · simp only [Act.put, List.setIfInBounds_toArray, List.set_cons_zero, List.set_cons_succ, i64_w, i32_w]
                                        rfl
                                      refine pure_ (i := 4) (N := some 109) (v := ?_) (a' := ?_) #[true, true, true, false, true, false, false, false, false, false, false, false, false, false] rfl rfl (any_of HT_.out (by kernel_rfl)) (fun _ _ _ h => h) (Or.inl ⟨by rfl, ?_⟩) ?_ ?_
                                      rotate_left
                                      · intro w'
                                        go_simp
                                        with_reducible rfl
                                      rotate_left
                                      · simp only [Act.put, List.setIfInBounds_toArray, List.set_cons_zero, List.set_cons_succ, i64_w, i32_w]
                                        rfl
                                      refine pure_ (i := 5) (N := some 110) (v := ?_) (a' := ?_) #[true, true, true, false, true, true, false, false, false, false, false, false, false, false] rfl rfl (any_of HT_.out (by kernel_rfl)) (fun _ _ _ h => h) (Or.inl ⟨by rfl, ?_⟩) ?_ ?_
                                      rotate_left
                                      · intro w'
                                        go_simp
                                        with_reducible rfl
                                      rotate_left
                                      · simp only [Act.put, List.setIfInBounds_toArray, List.set_cons_zero, List.set_cons_succ, i64_w, i32_w]
                                        rfl
                                      refine pure_ (i := 6) (N := some 111) (v := ?_) (a' := ?_) #[true, true, true, false, true, true, true, false, false, false, false, false, false, false] rfl rfl (any_of HT_.out (by kernel_rfl)) (fun _ _ _ h => h) (Or.inl ⟨by rfl, ?_⟩) ?_ ?_
                                      rotate_left
                                      · intro w'
                                        go_simp
                                        with_reducible rfl
                                      rotate_left
                                      · simp only [Act.put, List.setIfInBounds_toArray, List.set_cons_zero, List.set_cons_succ, i64_w, i32_w]
                                        rfl
                                      refine pure_ (i := 8) (N := some 113) (v := ?_) (a' := ?_) #[true, true, true, false, true, true, true, false, true, false, false, false, false, false] rfl rfl (any_of HT_.out (by kernel_rfl)) (fun _ _ _ h => h) (Or.inl ⟨by rfl, ?_⟩) ?_ ?_
                                      rotate_left
                                      · intro w'
                                        go_simp
                                        with_reducible rfl
                                      rotate_left
                                      · simp only [Act.put, List.setIfInBounds_toArray, List.set_cons_zero, List.set_cons_succ, i64_w, i32_w]
                                        rfl
                                      refine pure_ (i := 9) (N := some 114) (v := ?_) (a' := ?_) #[true, true, true, false, true, true, true, false, true, true, false, false, false, false] rfl rfl (any_of HT_.out (by kernel_rfl)) (fun _ _ _ h => h) (Or.inl ⟨by rfl, ?_⟩) ?_ ?_
                                      rotate_left
                                      · intro w'
                                        go_simp
                                        with_reducible rfl
                                      rotate_left
                                      · simp only [Act.put, List.setIfInBounds_toArray, List.set_cons_zero, List.set_cons_succ, i64_w, i32_w]
                                        rfl
                                      refine pure_ (i := 10) (N := some 115) (v := ?_) (a' := ?_) #[true, true, true, false, true, true, true, false, true, true, true, false, false, false] rfl rfl (any_of HT_.out (by kernel_rfl)) (fun _ _ _ h => h) (Or.inl ⟨by rfl, ?_⟩) ?_ ?_
                                      rotate_left
                                      · intro w'
                                        go_simp
                                        with_reducible rfl
                                      rotate_left
                                      · simp only [Act.put, List.setIfInBounds_toArray, List.set_cons_zero, List.set_cons_succ, i64_w, i32_w]
                                        rfl
                                      refine take_ (i := 7) (N := some 112) (v := ?_) (a' := ?_) #[true, true, true, false, true, true, true, true, true, true, true, false, false, false] rfl rfl (take_ofW HT_.out HW_.out (by kernel_rfl)) (fun _ _ _ h => h) (Or.inl ⟨by rfl, ?_⟩) hHeld ?_ ?_
                                      rotate_left
                                      · rintro w' ⟨s0, s1⟩
                                        go_simp
                                        with_reducible rfl
                                      rotate_left
                                      · simp only [Act.put, List.setIfInBounds_toArray, List.set_cons_zero, List.set_cons_succ, i64_w, i32_w]
                                        rfl
                                      refine take_ (i := 11) (N := some 116) (v := ?_) (a' := ?_) #[true, true, true, false, true, true, true, true, true, true, true, true, false, false] rfl rfl (take_ofW HT_.out HW_.out (by kernel_rfl)) (fun _ _ _ h => h) (Or.inl ⟨by rfl, ?_⟩) hHeld ?_ ?_
                                      rotate_left
                                      · rintro w' ⟨s0, s1⟩
                                        go_simp
                                        with_reducible rfl
                                      rotate_left
                                      · simp only [Act.put, List.setIfInBounds_toArray, List.set_cons_zero, List.set_cons_succ, i64_w, i32_w]
                                        rfl
                                      refine pure_ (i := 12) (N := some 117) (v := ?_) (a' := ?_) #[true, true, true, false, true, true, true, true, true, true, true, true, true, false] rfl rfl (any_of HT_.out (by kernel_rfl)) (fun _ _ _ h => h) (Or.inl ⟨by rfl, ?_⟩) ?_ ?_
                                      rotate_left
                                      · intro w'
                                        go_simp
                                        with_reducible rfl
                                      rotate_left
                                      · simp only [Act.put, List.setIfInBounds_toArray, List.set_cons_zero, List.set_cons_succ, i64_w, i32_w]
                                        rfl
                                      refine one_ (i := 3) (N := some 108) #[true, true, true, true, true, true, true, true, true, true, true, true, true, false] rfl rfl (one_of HT_.out (by kernel_rfl)) (by decide) (fun K hK => ?_)
                                      refine goes_ Try.func51 (by kernel_rfl) rfl #[.slice A0 l0.length c0, .int .i64 x11_3, .int .i64 x12_4] (by rfl) rfl rfl (by (try simp only [List.map_toArray, List.map_cons, List.map_nil]); first | done | rfl | (simp only [List.length_drop, List.length_take]; rfl)) ?_
                                      with_reducible refine (comp_Both.calls k4 _ _ l0 x11_3 x12_4 t366 _ ?side1 ?side2 A35.out).mono ?_
                                      (case side1 => repeat (first | exact (Kd.C_below HR0.out HB.out) | (with_reducible refine Kd.C_alloc ?_ _) | (with_reducible refine Kd.C_drewN ?_ _) | (with_reducible refine Kd.C_drew ?_)))
                                      (case side2 => exact HC0.out)
                                      rintro e w42 ⟨rfl, hb⟩
                                      have HS0_ := (hb.cell (World.block_lt_of_cell? _ _ (hHeld.1))).trans (hHeld.1)
                                      have HS1_ := (hb.cell (World.block_lt_of_cell? _ _ (hHeld.2))).trans (hHeld.2)
                                      refine ⟨_, rfl, ?_⟩
                                      have n0_ := Aside0.mk (Kd.R_below (by (with_reducible repeat (first | apply Kd.R_alloc | apply Kd.R_drewN | apply Kd.R_drew)); exact HO_6.out) hb)
                                      have n1_ := Aside0.mk (below_step (by repeat (first | (with_reducible first | exact HB.out | apply below_alloc | apply pw_below_drewN | apply below_drew1) | exact HB.out)) hb)
                                      clear HO_6
                                      clear HB
                                      have HO_6 := n0_
                                      have HB := n1_
                                      clear n0_ n1_
                                      (try clear hb)
                                      (try clear hb2)
                                      (try clear hk)
                                      (try clear hi)
                                      refine hK.out _ _ ⟨HS0_, HS1_⟩ (fun hHeld => ?_)
                                      clear hK K
                                      refine norm_ (a' := ?_) ?_ ?_
                                      rotate_left
                                      · show Act.put _ (some 108) _ = _
                                        simp only [Act.put, List.setIfInBounds_toArray, List.set_cons_zero, List.set_cons_succ, i64_w, i32_w]
                                        rfl
                                      refine pure_ (i := 13) (N := some 118) (v := ?_) (a' := ?_) #[true, true, true, true, true, true, true, true, true, true, true, true, true, true] rfl rfl (any_of HT_.out (by kernel_rfl)) (fun _ _ _ h => h) (Or.inl ⟨by rfl, ?_⟩) ?_ ?_
                                      rotate_left
                                      · intro w'
                                        go_simp
                                        with_reducible rfl
                                      rotate_left
                                      · simp only [Act.put, List.setIfInBounds_toArray, List.set_cons_zero, List.set_cons_succ, i64_w, i32_w]
                                        rfl
                                      refine done_ (done_of HT_.out (by kernel_rfl)) ?_
                                      try go_wp2
                                      go_ret
                                      exact ⟨by first | rfl | (simp [errW_none, errW_some] <;> rfl) | (simp [*, errW_none, errW_some] <;> rfl), by repeat (first | (with_reducible first | exact HB.out | apply below_alloc | apply pw_below_drewN | apply below_drew1) | exact HB.out)⟩
                                    · rw [if_neg c40] at H
                                      have c40b0 : (t366 != ((rd t356 x11_3) == (rd t356 x12_4))) = false := by simpa using c40
                                      (try (have c40b1 : decide (t366 = ((rd t356 x11_3) == (rd t356 x12_4))) = true := by simpa using c40))
                                      (try (have c40b2 : (t366 == ((rd t356 x11_3) == (rd t356 x12_4))) = true := by simpa using c40))
                                      clear c40
                                      have H' := Aside0.mk H
                                      clear H
                                      try go_wp2
                                      have n0_ := Aside0.mk (Kd.R_drew HO_6.out)
                                      have n1_ := Aside0.mk (below_drew1 HB.out)
                                      clear HO_6
                                      clear HB
                                      have HO_6 := n0_
                                      have HB := n1_
                                      clear n0_ n1_
                                      have p367 : 0 ≤ (x11_3 : Int) := of_decide_eq_true (by first | (with_reducible assumption) | assumption)
                                      have q367 : x11_3 < (t356.length : Int) := of_decide_eq_true (by first | (with_reducible assumption) | assumption)
                                      obtain ⟨ad367, e367, hx367_0⟩ := Kd.at_int (Kd.R_reads' HO_6.out).2.2 x11_3 p367 q367
                                      cases e367
                                      replace p367 := eq_true p367
                                      replace q367 := eq_true q367
                                      have p368 : 0 ≤ (x12_4 : Int) := of_decide_eq_true (by first | (with_reducible assumption) | assumption)
                                      have q368 : x12_4 < (t356.length : Int) := of_decide_eq_true (by first | (with_reducible assumption) | assumption)
                                      obtain ⟨ad368, e368, hx368_0⟩ := Kd.at_int (Kd.R_reads' HO_6.out).2.2 x12_4 p368 q368
                                      obtain rfl : ad367 = ad368 := (by injection e368)
                                      replace p368 := eq_true p368
                                      replace q368 := eq_true q368
                                      refine start_ (n := 14) (S := fun w' => w'.cell? (ad367.add (x11_3).toNat) = some (.int .i64 (rd t356 x11_3)) ∧ w'.cell? (ad367.add (x12_4).toNat) = some (.int .i64 (rd t356 x12_4))) (ds := []) #[false, false, false, false, false, false, false, false, false, false, false, false, false, false] (by kernel_rfl) rfl rfl ⟨hx367_0, hx368_0⟩ (fun hHeld => ?_); refine with_tabW runnellaw13_CompParts.tab26 runnellaw13_CompParts.bits26 (fun HT_ HW_ => ?_)
                                      generalize wr.drew = w43 at HO_6 HB hx367_0 hx368_0 hHeld ⊢
                                      refine pure_ (i := 0) (N := some 105) (v := ?_) (a' := ?_) #[true, false, false, false, false, false, false, false, false, false, false, false, false, false] rfl rfl (any_of HT_.out (by kernel_rfl)) (fun _ _ _ h => h) (Or.inl ⟨by rfl, ?_⟩) ?_ ?_
                                      rotate_left
                                      · intro w'
                                        go_simp
                                        with_reducible rfl
                                      rotate_left
                                      · simp only [Act.put, List.setIfInBounds_toArray, List.set_cons_zero, List.set_cons_succ, i64_w, i32_w]
                                        rfl
                                      refine pure_ (i := 1) (N := some 106) (v := ?_) (a' := ?_) #[true, true, false, false, false, false, false, false, false, false, false, false, false, false] rfl rfl (any_of HT_.out (by kernel_rfl)) (fun _ _ _ h => h) (Or.inl ⟨by rfl, ?_⟩) ?_ ?_
                                      rotate_left
                                      · intro w'
                                        go_simp
                                        with_reducible rfl
                                      rotate_left
                                      · simp only [Act.put, List.setIfInBounds_toArray, List.set_cons_zero, List.set_cons_succ, i64_w, i32_w]
                                        rfl
                                      refine pure_ (i := 2) (N := some 107) (v := ?_) (a' := ?_) #[true, true, true, false, false, false, false, false, false, false, false, false, false, false] rfl rfl (any_of HT_.out (by kernel_rfl)) (fun _ _ _ h => h) (Or.inl ⟨by rfl, ?_⟩) ?_ ?_
                                      rotate_left
                                      · intro w'
                                        go_simp
                                        with_reducible rfl
                                      rotate_left
                                      · simp only [Act.put, List.setIfInBounds_toArray, List.set_cons_zero, List.set_cons_succ, i64_w, i32_w]
                                        rfl
                                      refine pure_ (i := 4) (N := some 109) (v := ?_) (a' := ?_) #[true, true, true, false, true, false, false, false, false, false, false, false, false, false] rfl rfl (any_of HT_.out (by kernel_rfl)) (fun _ _ _ h => h) (Or.inl ⟨by rfl, ?_⟩) ?_ ?_
                                      rotate_left
                                      · intro w'
                                        go_simp
                                        with_reducible rfl
                                      rotate_left
                                      · simp only [Act.put, List.setIfInBounds_toArray, List.set_cons_zero, List.set_cons_succ, i64_w, i32_w]
                                        rfl
                                      refine pure_ (i := 5) (N := some 110) (v := ?_) (a' := ?_) #[true, true, true, false, true, true, false, false, false, false, false, false, false, false] rfl rfl (any_of HT_.out (by kernel_rfl)) (fun _ _ _ h => h) (Or.inl ⟨by rfl, ?_⟩) ?_ ?_
                                      rotate_left
                                      · intro w'
                                        go_simp
                                        with_reducible rfl
                                      rotate_left
                                      · simp only [Act.put, List.setIfInBounds_toArray, List.set_cons_zero, List.set_cons_succ, i64_w, i32_w]
                                        rfl
                                      refine pure_ (i := 6) (N := some 111) (v := ?_) (a' := ?_) #[true, true, true, false, true, true, true, false, false, false, false, false, false, false] rfl rfl (any_of HT_.out (by kernel_rfl)) (fun _ _ _ h => h) (Or.inl ⟨by rfl, ?_⟩) ?_ ?_
                                      rotate_left
                                      · intro w'
                                        go_simp
                                        with_reducible rfl
                                      rotate_left
                                      · simp only [Act.put, List.setIfInBounds_toArray, List.set_cons_zero, List.set_cons_succ, i64_w, i32_w]
                                        rfl
                                      refine pure_ (i := 8) (N := some 113) (v := ?_) (a' := ?_) #[true, true, true, false, true, true, true, false, true, false, false, false, false, false] rfl rfl (any_of HT_.out (by kernel_rfl)) (fun _ _ _ h => h) (Or.inl ⟨by rfl, ?_⟩) ?_ ?_
                                      rotate_left
                                      · intro w'
                                        go_simp
                                        with_reducible rfl
                                      rotate_left
                                      · simp only [Act.put, List.setIfInBounds_toArray, List.set_cons_zero, List.set_cons_succ, i64_w, i32_w]
                                        rfl
                                      refine pure_ (i := 9) (N := some 114) (v := ?_) (a' := ?_) #[true, true, true, false, true, true, true, false, true, true, false, false, false, false] rfl rfl (any_of HT_.out (by kernel_rfl)) (fun _ _ _ h => h) (Or.inl ⟨by rfl, ?_⟩) ?_ ?_
                                      rotate_left
                                      · intro w'
                                        go_simp
                                        with_reducible rfl
                                      rotate_left
                                      · simp only [Act.put, List.setIfInBounds_toArray, List.set_cons_zero, List.set_cons_succ, i64_w, i32_w]
                                        rfl
                                      refine pure_ (i := 10) (N := some 115) (v := ?_) (a' := ?_) #[true, true, true, false, true, true, true, false, true, true, true, false, false, false] rfl rfl (any_of HT_.out (by kernel_rfl)) (fun _ _ _ h => h) (Or.inl ⟨by rfl, ?_⟩) ?_ ?_
                                      rotate_left
                                      · intro w'
                                        go_simp
                                        with_reducible rfl
                                      rotate_left
                                      · simp only [Act.put, List.setIfInBounds_toArray, List.set_cons_zero, List.set_cons_succ, i64_w, i32_w]
                                        rfl
                                      refine take_ (i := 7) (N := some 112) (v := ?_) (a' := ?_) #[true, true, true, false, true, true, true, true, true, true, true, false, false, false] rfl rfl (take_ofW HT_.out HW_.out (by kernel_rfl)) (fun _ _ _ h => h) (Or.inl ⟨by rfl, ?_⟩) hHeld ?_ ?_
                                      rotate_left
                                      · rintro w' ⟨s0, s1⟩
                                        go_simp
                                        with_reducible rfl
                                      rotate_left
                                      · simp only [Act.put, List.setIfInBounds_toArray, List.set_cons_zero, List.set_cons_succ, i64_w, i32_w]
                                        rfl
                                      refine take_ (i := 11) (N := some 116) (v := ?_) (a' := ?_) #[true, true, true, false, true, true, true, true, true, true, true, true, false, false] rfl rfl (take_ofW HT_.out HW_.out (by kernel_rfl)) (fun _ _ _ h => h) (Or.inl ⟨by rfl, ?_⟩) hHeld ?_ ?_
                                      rotate_left
                                      · rintro w' ⟨s0, s1⟩
                                        go_simp
                                        with_reducible rfl
                                      rotate_left
                                      · simp only [Act.put, List.setIfInBounds_toArray, List.set_cons_zero, List.set_cons_succ, i64_w, i32_w]
                                        rfl
                                      refine pure_ (i := 12) (N := some 117) (v := ?_) (a' := ?_) #[true, true, true, false, true, true, true, true, true, true, true, true, true, false] rfl rfl (any_of HT_.out (by kernel_rfl)) (fun _ _ _ h => h) (Or.inl ⟨by rfl, ?_⟩) ?_ ?_
                                      rotate_left
                                      · intro w'
                                        go_simp
                                        with_reducible rfl
                                      rotate_left
                                      · simp only [Act.put, List.setIfInBounds_toArray, List.set_cons_zero, List.set_cons_succ, i64_w, i32_w]
                                        rfl
                                      refine one_ (i := 3) (N := some 108) #[true, true, true, true, true, true, true, true, true, true, true, true, true, false] rfl rfl (one_of HT_.out (by kernel_rfl)) (by decide) (fun K hK => ?_)
                                      refine goes_ Try.func51 (by kernel_rfl) rfl #[.slice A0 l0.length c0, .int .i64 x11_3, .int .i64 x12_4] (by rfl) rfl rfl (by (try simp only [List.map_toArray, List.map_cons, List.map_nil]); first | done | rfl | (simp only [List.length_drop, List.length_take]; rfl)) ?_
                                      with_reducible refine (comp_Both.calls k4 _ _ l0 x11_3 x12_4 t366 _ ?side1 ?side2 A35.out).mono ?_
                                      (case side1 => repeat (first | exact (Kd.C_below HR0.out HB.out) | (with_reducible refine Kd.C_alloc ?_ _) | (with_reducible refine Kd.C_drewN ?_ _) | (with_reducible refine Kd.C_drew ?_)))
                                      (case side2 => exact HC0.out)
                                      rintro e w44 ⟨rfl, hb⟩
                                      have HS0_ := (hb.cell (World.block_lt_of_cell? _ _ (hHeld.1))).trans (hHeld.1)
                                      have HS1_ := (hb.cell (World.block_lt_of_cell? _ _ (hHeld.2))).trans (hHeld.2)
                                      refine ⟨_, rfl, ?_⟩
                                      have n0_ := Aside0.mk (Kd.R_below (by (with_reducible repeat (first | apply Kd.R_alloc | apply Kd.R_drewN | apply Kd.R_drew)); exact HO_6.out) hb)
                                      have n1_ := Aside0.mk (below_step (by repeat (first | (with_reducible first | exact HB.out | apply below_alloc | apply pw_below_drewN | apply below_drew1) | exact HB.out)) hb)
                                      clear HO_6
                                      clear HB
                                      have HO_6 := n0_
                                      have HB := n1_
                                      clear n0_ n1_
                                      (try clear hb)
                                      (try clear hb2)
                                      (try clear hk)
                                      (try clear hi)
                                      refine hK.out _ _ ⟨HS0_, HS1_⟩ (fun hHeld => ?_)
                                      clear hK K
                                      refine norm_ (a' := ?_) ?_ ?_
                                      rotate_left
                                      · show Act.put _ (some 108) _ = _
                                        simp only [Act.put, List.setIfInBounds_toArray, List.set_cons_zero, List.set_cons_succ, i64_w, i32_w]
                                        rfl
                                      refine pure_ (i := 13) (N := some 118) (v := ?_) (a' := ?_) #[true, true, true, true, true, true, true, true, true, true, true, true, true, true] rfl rfl (any_of HT_.out (by kernel_rfl)) (fun _ _ _ h => h) (Or.inl ⟨by rfl, ?_⟩) ?_ ?_
                                      rotate_left
                                      · intro w'
                                        go_simp
                                        with_reducible rfl
                                      rotate_left
                                      · simp only [Act.put, List.setIfInBounds_toArray, List.set_cons_zero, List.set_cons_succ, i64_w, i32_w]
                                        rfl
                                      refine done_ (done_of HT_.out (by kernel_rfl)) ?_
                                      try go_wp2
                                      go_roundg k4
                                      case measure => have := HJ3.out; have := HK2.out; have := HK3.out; have := HK4.out; omega
                                      case rel => exact ⟨(wrap64 (x12_4 + 1)), (by first | rfl | (simp; done) | (simp [*]; done)), H', ⟨by have := HJ3.out; have := HK2.out; have := HK3.out; have := HK4.out; omega⟩, ⟨by (with_reducible repeat (first | apply Kd.R_alloc | apply Kd.R_drewN | apply Kd.R_drew)); exact HO_6.out⟩, ⟨by repeat (first | (with_reducible first | exact HB.out | apply below_alloc | apply pw_below_drewN | apply below_drew1) | exact HB.out)⟩⟩
                                  · rw [if_neg c39] at H
                                    exact absurd H (by simp)
                                · rw [if_neg c38] at H
                                  exact absurd H (by simp)
                              · rw [if_neg c37] at H
                                exact absurd H (by simp)
                            · rw [if_neg c36] at H
                              exact absurd H (by simp)
                          · rw [if_neg c34] at H
                            have c34b0 : decide (x12_4 < (l0.length : Int)) = false := decide_eq_false c34
                            clear c34
                            have H' := Aside0.mk H
                            clear H
                            go_wp2
                            go_roundg k4
                            case measure => have := HJ3.out; have := HK2.out; have := HK3.out; have := HK4.out; omega
                            case rel => exact ⟨(wrap64 (x11_3 + 1)), (by first | rfl | (simp; done) | (simp [*]; done)), H', ⟨by have := HJ3.out; have := HK2.out; have := HK3.out; have := HK4.out; omega⟩, ⟨by (with_reducible repeat (first | apply Kd.R_alloc | apply Kd.R_drewN | apply Kd.R_drew)); exact HO_6.out⟩, ⟨by repeat (first | (with_reducible first | exact HB.out | apply below_alloc | apply pw_below_drewN | apply below_drew1) | exact HB.out)⟩⟩
                    · rw [if_neg c33] at H
                      have c33b0 : decide (x11_3 < (l0.length : Int)) = false := decide_eq_false c33
                      clear c33
                      obtain rfl := Option.some.inj H
                      go_wp2
                      go_ret
                      exact ⟨by first | rfl | (simp [errW_none, errW_some] <;> rfl) | (simp [*, errW_none, errW_some] <;> rfl), by repeat (first | (with_reducible first | exact HB.out | apply below_alloc | apply pw_below_drewN | apply below_drew1) | exact HB.out)⟩
        · rw [if_neg c10] at H
          have c10b0 : ((t356.length : Int) == (l0.length : Int)) = false := beq_eq_false_iff_ne.mpr c10
          have c10b1 : ((t356.length : Int) != (l0.length : Int)) = true := bne_iff_ne.mpr c10
          have c10b2 : (t356.length == l0.length) = false := by first | simpa using c10 | (simp at c10 ⊢; omega)
          obtain rfl := Option.some.inj H
          go_wp2_with (first | ((with_reducible refine gate_callee (f := 42) rfl ?_); refine goesL_ (some 24) rfl rfl Try.func42 (by kernel_rfl) rfl #[.slice A0 l0.length c0] rfl (by (try simp only [List.map_toArray, List.map_cons, List.map_nil]); first | done | rfl | (simp only [List.length_drop, List.length_take]; rfl)) ?_; (with_reducible refine (comp_Components.calls kj3 _ _ l0 t353 _ ?side1 ?side2 A8.out).mono ?_); (case side1 => repeat (first | exact (Kd.C_below HR0.out HB.out) | (with_reducible refine Kd.C_alloc ?_ _) | (with_reducible refine Kd.C_drewN ?_ _) | (with_reducible refine Kd.C_drew ?_))); (case side2 => exact HC0.out); rintro e w45 ⟨v354, rfl, ho0, hb⟩; refine ⟨_, rfl, ?_⟩; have n0_ := Aside0.mk (Kd.S_lower ho0 (below_size (by repeat (first | (with_reducible first | exact HB.out | apply below_alloc | apply pw_below_drewN | apply below_drew1) | exact HB.out)))); have n1_ := Aside0.mk (below_step (by repeat (first | (with_reducible first | exact HB.out | apply below_alloc | apply pw_below_drewN | apply below_drew1) | exact HB.out)) hb); clear HB; have HO355 := n0_; have HB := n1_; clear n0_ n1_; (try clear hb); (try clear hb2); (try clear hk); (try clear hi); (try clear ho0)) | ((with_reducible refine gate_callee (f := 45) rfl ?_); refine goesL_ (some 26) rfl rfl Try.func45 (by kernel_rfl) rfl #[.slice A0 l0.length c0] rfl (by (try simp only [List.map_toArray, List.map_cons, List.map_nil]); first | done | rfl | (simp only [List.length_drop, List.length_take]; rfl)) ?_; (with_reducible refine (comp_Number.calls kj3 _ _ l0 t356 _ ?side1 ?side2 A9.out).mono ?_); (case side1 => repeat (first | exact (Kd.C_below HR0.out HB.out) | (with_reducible refine Kd.C_alloc ?_ _) | (with_reducible refine Kd.C_drewN ?_ _) | (with_reducible refine Kd.C_drew ?_))); (case side2 => exact HC0.out); rintro e w46 ⟨v357, rfl, ho0, hb⟩; refine ⟨_, rfl, ?_⟩; have n0_ := Aside0.mk (Kd.S_elder' (by (with_reducible repeat (first | apply Kd.S_alloc | apply Kd.S_drewN | apply Kd.S_drew)); exact HO355.out) (Kd.R_base ho0) hb); have n1_ := Aside0.mk (Kd.R_lower ho0 (below_size (by repeat (first | (with_reducible first | exact HB.out | apply below_alloc | apply pw_below_drewN | apply below_drew1) | exact HB.out)))); have n2_ := Aside0.mk (below_step (by repeat (first | (with_reducible first | exact HB.out | apply below_alloc | apply pw_below_drewN | apply below_drew1) | exact HB.out)) hb); clear HO355; clear HB; have HO355 := n0_; have HO358 := n1_; have HB := n2_; clear n0_ n1_ n2_; (try clear hb); (try clear hb2); (try clear hk); (try clear hi); (try clear ho0); obtain ⟨Ao47, co47, eo47⟩ := Kd.R_slice HO358.out; subst eo47))
          go_ret
          exact ⟨by first | rfl | (simp [errW_none, errW_some] <;> rfl) | (simp [*, errW_none, errW_some] <;> rfl), by repeat (first | (with_reducible first | exact HB.out | apply below_alloc | apply pw_below_drewN | apply below_drew1) | exact HB.out)⟩

end Go.Proofs.Ytkgkhakjodlpgaa.C
