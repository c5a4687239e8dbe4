/- Functions of the program as plain Lean functions, and that each call comes to what they say; printed by a program. -/
import Derived.Test.YtkgkhakjodlpgaaC0
import Derived.Test.YtkgkhakjodlpgaaC3
import Derived.Test.YtkgkhakjodlpgaaC5
import Derived.Test.YtkgkhakjodlpgaaC1
import Derived.Test.YtkgkhakjodlpgaaC13
namespace Go.Proofs.Ytkgkhakjodlpgaa.C
open Go.RowKit Go.Proofs.YtkgkhakjodlpgaaW.PrintWords Go.Proofs.YtkgkhakjodlpgaaW.PrintLast Go.Proofs.YtkgkhakjodlpgaaW.PrintMore Go.Proofs.Ytkgkhakjodlpgaa.Ext Go.Proofs.Ytkgkhakjodlpgaa.Ca Go.Proofs.Ytkgkhakjodlpgaa.Cv
attribute [local go_sem] max2_int min2_int max_two min_two max_three min_three max_four min_four   -- for this text's walks alone
set_option linter.unusedVariables false
set_option linter.unusedSimpArgs false

/-! ### runnellaw13_CompBack: function 13 -/
mutual
def runnellaw13_CompBack.j0 : Nat → List (List Int) → Int → Int → Bool → Bool → Option (Bool)
  | 0, _, _, _, _, _ => none
  | k + 1, x0, x1, x2, x7, x25 => if x25 = true then (some x7) else (if 0 ≤ (x0.length : Int) then (if ((x0.length : Int) : Int).toNat ≤ 11728124029610 then (runnellaw13_CompBack.l0 k x0 x1 x2 (List.replicate ((x0.length : Int) : Int).toNat []) 0) else (none)) else (none))
def runnellaw13_CompBack.l0 : Nat → List (List Int) → Int → Int → List (List Int) → Int → Option (Bool)
  | 0, _, _, _, _, _ => none
  | k + 1, x0, x1, x2, x9, x10 => if x10 < (x0.length : Int) then (runnellaw13_CompBack.l1 k x0 x1 x2 x9 x10 0) else ((comp_Number.f k x0).bind fun t439 => ((comp_Number.f k x9).bind fun t442 => (runnellaw13_CompBack.l2 k x0 x1 x2 x9 t439 t442 0)))
def runnellaw13_CompBack.l1 : Nat → List (List Int) → Int → Int → List (List Int) → Int → Int → Option (Bool)
  | 0, _, _, _, _, _, _ => none
  | k + 1, x0, x1, x2, x9, x10, x11 => if 0 ≤ x10 then (if x10 < (x0.length : Int) then (if x11 < ((rd_L1 x0 x10).length : Int) then (if 0 ≤ x11 then (if (rd (rd_L1 x0 x10) x11) ≥ 0 then (runnellaw13_CompBack.j3 k x0 x1 x2 x9 x10 x11 (rd (rd_L1 x0 x10) x11) (decide ((rd (rd_L1 x0 x10) x11) < (x0.length : Int)))) else (runnellaw13_CompBack.j3 k x0 x1 x2 x9 x10 x11 (rd (rd_L1 x0 x10) x11) false)) else (none)) else (runnellaw13_CompBack.l0 k x0 x1 x2 x9 (wrap64 (x10 + 1)))) else (none)) else (none)
def runnellaw13_CompBack.j3 : Nat → List (List Int) → Int → Int → List (List Int) → Int → Int → Int → Bool → Option (Bool)
  | 0, _, _, _, _, _, _, _, _ => none
  | k + 1, x0, x1, x2, x9, x10, x11, x12, x59 => if x59 = true then ((some (([] : List Int) : List Int)).bind fun y428 => (if 0 ≤ x12 then (if x12 < (x9.length : Int) then (if y428.length + (rd_L1 x9 x12).length < 17592186044416 then ((some (y428 ++ (rd_L1 x9 x12) : List Int)).bind fun y432 => (if y432.length < 17592186044416 then (runnellaw13_CompBack.l1 k x0 x1 x2 (x9.set (x12 : Int).toNat (y432 ++ [x10])) x10 (wrap64 (x11 + 1))) else (none))) else (none)) else (none)) else (none))) else (runnellaw13_CompBack.l1 k x0 x1 x2 x9 x10 (wrap64 (x11 + 1)))
def runnellaw13_CompBack.l2 : Nat → List (List Int) → Int → Int → List (List Int) → List Int → List Int → Int → Option (Bool)
  | 0, _, _, _, _, _, _, _ => none
  | k + 1, x0, x1, x2, x9, x13, x14, x15 => if x15 < (x0.length : Int) then (runnellaw13_CompBack.l3 k x0 x1 x2 x9 x13 x14 x15 0) else ((comp_Both.f k x0 x1 x2).bind fun t449 => ((comp_Both.f k x9 x1 x2).bind fun t450 => (if (t449 == t450) = true then ((comp_Reach.f k x0 x1).bind fun t451 => ((runnellaw13_among.f k t451 x2).bind fun t454 => ((comp_Reach.f k x9 x2).bind fun t455 => ((runnellaw13_among.f k t455 x1).bind fun t458 => (if (t454 == t458) = true then ((comp_Cyclic.f k x0 x1).bind fun t459 => ((comp_Cyclic.f k x9 x1).bind fun t460 => (some (t459 == t460)))) else (some false)))))) else (some false))))
def runnellaw13_CompBack.l3 : Nat → List (List Int) → Int → Int → List (List Int) → List Int → List Int → Int → Int → Option (Bool)
  | 0, _, _, _, _, _, _, _, _ => none
  | k + 1, x0, x1, x2, x9, x13, x14, x15, x16 => if x16 < x15 then (if 0 ≤ x15 then (if x15 < (x13.length : Int) then (if 0 ≤ x16 then (if x16 < (x13.length : Int) then (if x15 < (x14.length : Int) then (if x16 < (x14.length : Int) then (if (((rd x13 x15) == (rd x13 x16)) != ((rd x14 x15) == (rd x14 x16))) = true then (some false) else (runnellaw13_CompBack.l3 k x0 x1 x2 x9 x13 x14 x15 (wrap64 (x16 + 1)))) else (none)) else (none)) else (none)) else (none)) else (none)) else (none)) else (runnellaw13_CompBack.l2 k x0 x1 x2 x9 x13 x14 (wrap64 (x15 + 1)))
end
def runnellaw13_CompBack.f (k : Nat) (l0 : List (List Int)) (a1 : Int) (a2 : Int) : Option (Bool) := (runnellaw13_shown.f k).bind fun t420 => ((runnellaw13_small.f k l0).bind fun t421 => (if t420 = true then (runnellaw13_CompBack.j0 k l0 a1 a2 t420 (!t421)) else (runnellaw13_CompBack.j0 k l0 a1 a2 t420 true)))
theorem runnellaw13_CompBack.mono_l : ∀ k, (∀ y0 y1 y2 y3 y4, LeO (runnellaw13_CompBack.j0 k y0 y1 y2 y3 y4) (runnellaw13_CompBack.j0 (k + 1) y0 y1 y2 y3 y4)) ∧ (∀ y0 y1 y2 y3 y4, LeO (runnellaw13_CompBack.l0 k y0 y1 y2 y3 y4) (runnellaw13_CompBack.l0 (k + 1) y0 y1 y2 y3 y4)) ∧ (∀ y0 y1 y2 y3 y4 y5, LeO (runnellaw13_CompBack.l1 k y0 y1 y2 y3 y4 y5) (runnellaw13_CompBack.l1 (k + 1) y0 y1 y2 y3 y4 y5)) ∧ (∀ y0 y1 y2 y3 y4 y5 y6 y7, LeO (runnellaw13_CompBack.j3 k y0 y1 y2 y3 y4 y5 y6 y7) (runnellaw13_CompBack.j3 (k + 1) y0 y1 y2 y3 y4 y5 y6 y7)) ∧ (∀ y0 y1 y2 y3 y4 y5 y6, LeO (runnellaw13_CompBack.l2 k y0 y1 y2 y3 y4 y5 y6) (runnellaw13_CompBack.l2 (k + 1) y0 y1 y2 y3 y4 y5 y6)) ∧ (∀ y0 y1 y2 y3 y4 y5 y6 y7, LeO (runnellaw13_CompBack.l3 k y0 y1 y2 y3 y4 y5 y6 y7) (runnellaw13_CompBack.l3 (k + 1) y0 y1 y2 y3 y4 y5 y6 y7))
  | 0 => ⟨fun _ _ _ _ _ r h => by simp [runnellaw13_CompBack.j0] at h, fun _ _ _ _ _ r h => by simp [runnellaw13_CompBack.l0] at h, fun _ _ _ _ _ _ r h => by simp [runnellaw13_CompBack.l1] at h, fun _ _ _ _ _ _ _ _ r h => by simp [runnellaw13_CompBack.j3] at h, fun _ _ _ _ _ _ _ r h => by simp [runnellaw13_CompBack.l2] at h, fun _ _ _ _ _ _ _ _ r h => by simp [runnellaw13_CompBack.l3] at h⟩
  | k + 1 => by
    obtain ⟨ih0, ih1, ih2, ih3, ih4, ih5⟩ := runnellaw13_CompBack.mono_l k
    refine ⟨?_, ?_, ?_, ?_, ?_, ?_⟩
    · intro y0 y1 y2 y3 y4
      unfold runnellaw13_CompBack.j0
      repeat' first
      | (with_reducible exact ih0 _ _ _ _ _)
      | (with_reducible exact ih1 _ _ _ _ _)
      | (with_reducible exact ih2 _ _ _ _ _ _)
      | (with_reducible exact ih3 _ _ _ _ _ _ _ _)
      | (with_reducible exact ih4 _ _ _ _ _ _ _)
      | (with_reducible exact ih5 _ _ _ _ _ _ _ _)
      | (with_reducible exact comp_Both.mono _ _ _ _)
      | (with_reducible exact comp_Cyclic.mono _ _ _)
      | (with_reducible exact comp_Number.mono _ _)
      | (with_reducible exact comp_Reach.mono _ _ _)
      | (with_reducible exact runnellaw13_among.mono _ _ _)
      | (with_reducible exact runnellaw13_shown.mono _)
      | (with_reducible exact runnellaw13_small.mono _ _)
      | (with_reducible exact LeO.refl _)
      | (with_reducible exact LeO.none _)
      | (with_reducible refine LeO.ite ?_ ?_)
      | (with_reducible refine LeO.bind ?_ (fun _ => ?_))
      | exact ih0 _ _ _ _ _
      | exact ih1 _ _ _ _ _
      | exact ih2 _ _ _ _ _ _
      | exact ih3 _ _ _ _ _ _ _ _
      | exact ih4 _ _ _ _ _ _ _
      | exact ih5 _ _ _ _ _ _ _ _
      | exact comp_Both.mono _ _ _ _
      | exact comp_Cyclic.mono _ _ _
      | exact comp_Number.mono _ _
      | exact comp_Reach.mono _ _ _
      | exact runnellaw13_among.mono _ _ _
      | exact runnellaw13_shown.mono _
      | exact runnellaw13_small.mono _ _
      | exact LeO.none _
      | refine LeO.ite ?_ ?_
      | refine LeO.bind ?_ (fun _ => ?_)
    · intro y0 y1 y2 y3 y4
      unfold runnellaw13_CompBack.l0
      repeat' first
      | (with_reducible exact ih0 _ _ _ _ _)
      | (with_reducible exact ih1 _ _ _ _ _)
      | (with_reducible exact ih2 _ _ _ _ _ _)
      | (with_reducible exact ih3 _ _ _ _ _ _ _ _)
      | (with_reducible exact ih4 _ _ _ _ _ _ _)
      | (with_reducible exact ih5 _ _ _ _ _ _ _ _)
      | (with_reducible exact comp_Both.mono _ _ _ _)
      | (with_reducible exact comp_Cyclic.mono _ _ _)
      | (with_reducible exact comp_Number.mono _ _)
      | (with_reducible exact comp_Reach.mono _ _ _)
      | (with_reducible exact runnellaw13_among.mono _ _ _)
      | (with_reducible exact runnellaw13_shown.mono _)
      | (with_reducible exact runnellaw13_small.mono _ _)
      | (with_reducible exact LeO.refl _)
      | (with_reducible exact LeO.none _)
      | (with_reducible refine LeO.ite ?_ ?_)
      | (with_reducible refine LeO.bind ?_ (fun _ => ?_))
      | exact ih0 _ _ _ _ _
      | exact ih1 _ _ _ _ _
      | exact ih2 _ _ _ _ _ _
      | exact ih3 _ _ _ _ _ _ _ _
      | exact ih4 _ _ _ _ _ _ _
      | exact ih5 _ _ _ _ _ _ _ _
      | exact comp_Both.mono _ _ _ _
      | exact comp_Cyclic.mono _ _ _
      | exact comp_Number.mono _ _
      | exact comp_Reach.mono _ _ _
      | exact runnellaw13_among.mono _ _ _
      | exact runnellaw13_shown.mono _
      | exact runnellaw13_small.mono _ _
      | exact LeO.none _
      | refine LeO.ite ?_ ?_
      | refine LeO.bind ?_ (fun _ => ?_)
    · intro y0 y1 y2 y3 y4 y5
      unfold runnellaw13_CompBack.l1
      repeat' first
      | (with_reducible exact ih0 _ _ _ _ _)
      | (with_reducible exact ih1 _ _ _ _ _)
      | (with_reducible exact ih2 _ _ _ _ _ _)
      | (with_reducible exact ih3 _ _ _ _ _ _ _ _)
      | (with_reducible exact ih4 _ _ _ _ _ _ _)
      | (with_reducible exact ih5 _ _ _ _ _ _ _ _)
      | (with_reducible exact comp_Both.mono _ _ _ _)
      | (with_reducible exact comp_Cyclic.mono _ _ _)
      | (with_reducible exact comp_Number.mono _ _)
      | (with_reducible exact comp_Reach.mono _ _ _)
      | (with_reducible exact runnellaw13_among.mono _ _ _)
      | (with_reducible exact runnellaw13_shown.mono _)
      | (with_reducible exact runnellaw13_small.mono _ _)
      | (with_reducible exact LeO.refl _)
      | (with_reducible exact LeO.none _)
      | (with_reducible refine LeO.ite ?_ ?_)
      | (with_reducible refine LeO.bind ?_ (fun _ => ?_))
      | exact ih0 _ _ _ _ _
      | exact ih1 _ _ _ _ _
      | exact ih2 _ _ _ _ _ _
      | exact ih3 _ _ _ _ _ _ _ _
      | exact ih4 _ _ _ _ _ _ _
      | exact ih5 _ _ _ _ _ _ _ _
      | exact comp_Both.mono _ _ _ _
      | exact comp_Cyclic.mono _ _ _
      | exact comp_Number.mono _ _
      | exact comp_Reach.mono _ _ _
      | exact runnellaw13_among.mono _ _ _
      | exact runnellaw13_shown.mono _
      | exact runnellaw13_small.mono _ _
      | exact LeO.none _
      | refine LeO.ite ?_ ?_
      | refine LeO.bind ?_ (fun _ => ?_)
    · intro y0 y1 y2 y3 y4 y5 y6 y7
      unfold runnellaw13_CompBack.j3
      repeat' first
      | (with_reducible exact ih0 _ _ _ _ _)
      | (with_reducible exact ih1 _ _ _ _ _)
      | (with_reducible exact ih2 _ _ _ _ _ _)
      | (with_reducible exact ih3 _ _ _ _ _ _ _ _)
      | (with_reducible exact ih4 _ _ _ _ _ _ _)
      | (with_reducible exact ih5 _ _ _ _ _ _ _ _)
      | (with_reducible exact comp_Both.mono _ _ _ _)
      | (with_reducible exact comp_Cyclic.mono _ _ _)
      | (with_reducible exact comp_Number.mono _ _)
      | (with_reducible exact comp_Reach.mono _ _ _)
      | (with_reducible exact runnellaw13_among.mono _ _ _)
      | (with_reducible exact runnellaw13_shown.mono _)
      | (with_reducible exact runnellaw13_small.mono _ _)
      | (with_reducible exact LeO.refl _)
      | (with_reducible exact LeO.none _)
      | (with_reducible refine LeO.ite ?_ ?_)
      | (with_reducible refine LeO.bind ?_ (fun _ => ?_))
      | exact ih0 _ _ _ _ _
      | exact ih1 _ _ _ _ _
      | exact ih2 _ _ _ _ _ _
      | exact ih3 _ _ _ _ _ _ _ _
      | exact ih4 _ _ _ _ _ _ _
      | exact ih5 _ _ _ _ _ _ _ _
      | exact comp_Both.mono _ _ _ _
      | exact comp_Cyclic.mono _ _ _
      | exact comp_Number.mono _ _
      | exact comp_Reach.mono _ _ _
      | exact runnellaw13_among.mono _ _ _
      | exact runnellaw13_shown.mono _
      | exact runnellaw13_small.mono _ _
      | exact LeO.none _
      | refine LeO.ite ?_ ?_
      | refine LeO.bind ?_ (fun _ => ?_)
    · intro y0 y1 y2 y3 y4 y5 y6
      unfold runnellaw13_CompBack.l2
      repeat' first
      | (with_reducible exact ih0 _ _ _ _ _)
      | (with_reducible exact ih1 _ _ _ _ _)
      | (with_reducible exact ih2 _ _ _ _ _ _)
      | (with_reducible exact ih3 _ _ _ _ _ _ _ _)
      | (with_reducible exact ih4 _ _ _ _ _ _ _)
      | (with_reducible exact ih5 _ _ _ _ _ _ _ _)
      | (with_reducible exact comp_Both.mono _ _ _ _)
      | (with_reducible exact comp_Cyclic.mono _ _ _)
      | (with_reducible exact comp_Number.mono _ _)
      | (with_reducible exact comp_Reach.mono _ _ _)
      | (with_reducible exact runnellaw13_among.mono _ _ _)
      | (with_reducible exact runnellaw13_shown.mono _)
      | (with_reducible exact runnellaw13_small.mono _ _)
      | (with_reducible exact LeO.refl _)
      | (with_reducible exact LeO.none _)
      | (with_reducible refine LeO.ite ?_ ?_)
      | (with_reducible refine LeO.bind ?_ (fun _ => ?_))
      | exact ih0 _ _ _ _ _
      | exact ih1 _ _ _ _ _
      | exact ih2 _ _ _ _ _ _
      | exact ih3 _ _ _ _ _ _ _ _
      | exact ih4 _ _ _ _ _ _ _
      | exact ih5 _ _ _ _ _ _ _ _
      | exact comp_Both.mono _ _ _ _
      | exact comp_Cyclic.mono _ _ _
      | exact comp_Number.mono _ _
      | exact comp_Reach.mono _ _ _
      | exact runnellaw13_among.mono _ _ _
      | exact runnellaw13_shown.mono _
      | exact runnellaw13_small.mono _ _
      | exact LeO.none _
      | refine LeO.ite ?_ ?_
      | refine LeO.bind ?_ (fun _ => ?_)
    · intro y0 y1 y2 y3 y4 y5 y6 y7
      unfold runnellaw13_CompBack.l3
      repeat' first
      | (with_reducible exact ih0 _ _ _ _ _)
      | (with_reducible exact ih1 _ _ _ _ _)
      | (with_reducible exact ih2 _ _ _ _ _ _)
      | (with_reducible exact ih3 _ _ _ _ _ _ _ _)
      | (with_reducible exact ih4 _ _ _ _ _ _ _)
      | (with_reducible exact ih5 _ _ _ _ _ _ _ _)
      | (with_reducible exact comp_Both.mono _ _ _ _)
      | (with_reducible exact comp_Cyclic.mono _ _ _)
      | (with_reducible exact comp_Number.mono _ _)
      | (with_reducible exact comp_Reach.mono _ _ _)
      | (with_reducible exact runnellaw13_among.mono _ _ _)
      | (with_reducible exact runnellaw13_shown.mono _)
      | (with_reducible exact runnellaw13_small.mono _ _)
      | (with_reducible exact LeO.refl _)
      | (with_reducible exact LeO.none _)
      | (with_reducible refine LeO.ite ?_ ?_)
      | (with_reducible refine LeO.bind ?_ (fun _ => ?_))
      | exact ih0 _ _ _ _ _
      | exact ih1 _ _ _ _ _
      | exact ih2 _ _ _ _ _ _
      | exact ih3 _ _ _ _ _ _ _ _
      | exact ih4 _ _ _ _ _ _ _
      | exact ih5 _ _ _ _ _ _ _ _
      | exact comp_Both.mono _ _ _ _
      | exact comp_Cyclic.mono _ _ _
      | exact comp_Number.mono _ _
      | exact comp_Reach.mono _ _ _
      | exact runnellaw13_among.mono _ _ _
      | exact runnellaw13_shown.mono _
      | exact runnellaw13_small.mono _ _
      | exact LeO.none _
      | refine LeO.ite ?_ ?_
      | refine LeO.bind ?_ (fun _ => ?_)
theorem runnellaw13_CompBack.mono : ∀ a0 a1 a2 k, LeO (runnellaw13_CompBack.f k a0 a1 a2) (runnellaw13_CompBack.f (k + 1) a0 a1 a2) := by
  intro a0 a1 a2 k
  obtain ⟨ih0, ih1, ih2, ih3, ih4, ih5⟩ := runnellaw13_CompBack.mono_l k
  unfold runnellaw13_CompBack.f
  repeat' first
      | (with_reducible exact ih0 _ _ _ _ _)
      | (with_reducible exact ih1 _ _ _ _ _)
      | (with_reducible exact ih2 _ _ _ _ _ _)
      | (with_reducible exact ih3 _ _ _ _ _ _ _ _)
      | (with_reducible exact ih4 _ _ _ _ _ _ _)
      | (with_reducible exact ih5 _ _ _ _ _ _ _ _)
      | (with_reducible exact comp_Both.mono _ _ _ _)
      | (with_reducible exact comp_Cyclic.mono _ _ _)
      | (with_reducible exact comp_Number.mono _ _)
      | (with_reducible exact comp_Reach.mono _ _ _)
      | (with_reducible exact runnellaw13_among.mono _ _ _)
      | (with_reducible exact runnellaw13_shown.mono _)
      | (with_reducible exact runnellaw13_small.mono _ _)
      | (with_reducible exact LeO.refl _)
      | (with_reducible exact LeO.none _)
      | (with_reducible refine LeO.ite ?_ ?_)
      | (with_reducible refine LeO.bind ?_ (fun _ => ?_))
      | exact ih0 _ _ _ _ _
      | exact ih1 _ _ _ _ _
      | exact ih2 _ _ _ _ _ _
      | exact ih3 _ _ _ _ _ _ _ _
      | exact ih4 _ _ _ _ _ _ _
      | exact ih5 _ _ _ _ _ _ _ _
      | exact comp_Both.mono _ _ _ _
      | exact comp_Cyclic.mono _ _ _
      | exact comp_Number.mono _ _
      | exact comp_Reach.mono _ _ _
      | exact runnellaw13_among.mono _ _ _
      | exact runnellaw13_shown.mono _
      | exact runnellaw13_small.mono _ _
      | exact LeO.none _
      | refine LeO.ite ?_ ?_
      | refine LeO.bind ?_ (fun _ => ?_)
set_option maxHeartbeats 8000000 in
set_option maxRecDepth 100000 in
theorem runnellaw13_CompBack.calls (k : Nat) (A0 : Option Addr) (c0 : Nat) (l0 : List (List Int)) (a1 : Int) (a2 : Int) (r : Bool) (w : World) (hr0 : Kd.C (Kd.slice 3 (Kd.int .i64)) w A0 l0.length l0) (hc0 : l0.length ≤ c0) (h : runnellaw13_CompBack.f k l0 a1 a2 = some r) :
    Calls Try.prog 13 #[.slice A0 l0.length c0, .int .i64 a1, .int .i64 a2] w fun e w' => e = .returned (.bool r) ∧ Below w.heap.size w w' := by
  have HR0 := Aside0.mk hr0
  have HC0 := Aside0.mk hc0
  clear hr0 hc0
  have HB := Aside0.mk (Below.refl w.heap.size w)
  have H : ((runnellaw13_shown.f k).bind fun t420 => ((runnellaw13_small.f k l0).bind fun t421 => (if t420 = true then (runnellaw13_CompBack.j0 k l0 a1 a2 t420 (!t421)) else (runnellaw13_CompBack.j0 k l0 a1 a2 t420 true)))) = some r := h
  clear h
  replace H := Option.bind_eq_some_iff.mp H
  obtain ⟨t420, A40, H⟩ := H
  replace H : ((runnellaw13_small.f k l0).bind fun t421 => (if t420 = true then (runnellaw13_CompBack.j0 k l0 a1 a2 t420 (!t421)) else (runnellaw13_CompBack.j0 k l0 a1 a2 t420 true))) = some r := H
  have A4 := Aside0.mk A40
  clear A40
  replace H := Option.bind_eq_some_iff.mp H
  obtain ⟨t421, A50, H⟩ := H
  replace H : (if t420 = true then (runnellaw13_CompBack.j0 k l0 a1 a2 t420 (!t421)) else (runnellaw13_CompBack.j0 k l0 a1 a2 t420 true)) = some r := H
  have A5 := Aside0.mk A50
  clear A50
  have HC6 := Aside0.mk H
  clear H
  go_enter Try.func13, Try.ntmps13
  go_upto_region 3 with (first | (go_at_call 39; (with_reducible refine (runnellaw13_shown.calls k  t420 _ A4.out).mono ?_); rintro e w7 ⟨rfl, hb⟩; have n0_ := Aside0.mk (below_step (by repeat (first | (with_reducible first | exact HB.out | apply below_alloc | apply pw_below_drewN | apply below_drew1) | exact HB.out)) hb); clear HB; have HB := n0_; clear n0_; (try clear hb); (try clear hb2); (try clear hk); (try clear hi)) | (go_at_call 40; (with_reducible refine (runnellaw13_small.calls k _ _ l0 t421 _ ?side1 ?side2 A5.out).mono ?_); (case side1 => repeat (first | exact (Kd.C_below HR0.out HB.out) | (with_reducible refine Kd.C_alloc ?_ _) | (with_reducible refine Kd.C_drewN ?_ _) | (with_reducible refine Kd.C_drew ?_))); (case side2 => exact HC0.out); rintro e w' ⟨rfl, ⟨nd, rfl⟩⟩; (try first | exact ⟨rfl, _, World.drewN_drewN _ _ _⟩ | exact ⟨rfl, _, Eq.trans (World.drewN_drewN _ _ _) (congrArg (World.drewN _) (Nat.add_assoc _ _ _))⟩)))
  repeat (go_quiet (first | (go_at_call 39; (with_reducible refine (runnellaw13_shown.calls k  t420 _ A4.out).mono ?_); rintro e w7 ⟨rfl, hb⟩; have n0_ := Aside0.mk (below_step (by repeat (first | (with_reducible first | exact HB.out | apply below_alloc | apply pw_below_drewN | apply below_drew1) | exact HB.out)) hb); clear HB; have HB := n0_; clear n0_; (try clear hb); (try clear hb2); (try clear hk); (try clear hi)) | (go_at_call 40; (with_reducible refine (runnellaw13_small.calls k _ _ l0 t421 _ ?side1 ?side2 A5.out).mono ?_); (case side1 => repeat (first | exact (Kd.C_below HR0.out HB.out) | (with_reducible refine Kd.C_alloc ?_ _) | (with_reducible refine Kd.C_drewN ?_ _) | (with_reducible refine Kd.C_drew ?_))); (case side2 => exact HC0.out); rintro e w' ⟨rfl, ⟨nd, rfl⟩⟩; (try first | exact ⟨rfl, _, World.drewN_drewN _ _ _⟩ | exact ⟨rfl, _, Eq.trans (World.drewN_drewN _ _ _) (congrArg (World.drewN _) (Nat.add_assoc _ _ _))⟩))); go_upto_region 3 with (first | (go_at_call 39; (with_reducible refine (runnellaw13_shown.calls k  t420 _ A4.out).mono ?_); rintro e w7 ⟨rfl, hb⟩; have n0_ := Aside0.mk (below_step (by repeat (first | (with_reducible first | exact HB.out | apply below_alloc | apply pw_below_drewN | apply below_drew1) | exact HB.out)) hb); clear HB; have HB := n0_; clear n0_; (try clear hb); (try clear hb2); (try clear hk); (try clear hi)) | (go_at_call 40; (with_reducible refine (runnellaw13_small.calls k _ _ l0 t421 _ ?side1 ?side2 A5.out).mono ?_); (case side1 => repeat (first | exact (Kd.C_below HR0.out HB.out) | (with_reducible refine Kd.C_alloc ?_ _) | (with_reducible refine Kd.C_drewN ?_ _) | (with_reducible refine Kd.C_drew ?_))); (case side2 => exact HC0.out); rintro e w' ⟨rfl, ⟨nd, rfl⟩⟩; (try first | exact ⟨rfl, _, World.drewN_drewN _ _ _⟩ | exact ⟨rfl, _, Eq.trans (World.drewN_drewN _ _ _) (congrArg (World.drewN _) (Nat.add_assoc _ _ _))⟩))))
  (try simp only [Act.put, List.setIfInBounds_toArray, List.set_cons_zero, List.set_cons_succ])
  go_cut [25] (fun v25 wc => ∃ (kq : Nat) (x25_5 : Bool), v25 = .bool x25_5 ∧ Aside0 (runnellaw13_CompBack.j0 kq l0 a1 a2 t420 x25_5 = some r) ∧ Aside0 (kq ≤ k) ∧ Aside0 (Below w.heap.size w wc))
  case first =>
    have H := HC6.out
    clear HC6
    by_cases c8 : t420 = true
    · subst c8
      have H1 : (runnellaw13_CompBack.j0 k l0 a1 a2 true (!t421)) = some r := by rw [if_pos rfl] at H; exact H
      clear H
      have H := H1
      clear H1
      have H' := Aside0.mk H
      clear H
      go_wp2
      repeat (go_quiet (fail); try go_wp2)
      go_meet
      case rel => exact ⟨_, (!t421), (by first | rfl | (simp; done) | (simp [*]; done)), H', ⟨by first | omega | exact Nat.le_refl _⟩, ⟨by repeat (first | (with_reducible first | exact HB.out | apply below_alloc | apply pw_below_drewN | apply below_drew1) | exact HB.out)⟩⟩
    · replace c8 := Bool.eq_false_iff.mpr c8
      subst c8
      have H1 : (runnellaw13_CompBack.j0 k l0 a1 a2 false true) = some r := by rw [if_neg (show ¬ (false = true) by decide)] at H; exact H
      clear H
      have H := H1
      clear H1
      have H' := Aside0.mk H
      clear H
      go_wp2
      repeat (go_quiet (fail); try go_wp2)
      go_meet
      case rel => exact ⟨_, (true), (by first | rfl | (simp; done) | (simp [*]; done)), H', ⟨by first | omega | exact Nat.le_refl _⟩, ⟨by repeat (first | (with_reducible first | exact HB.out | apply below_alloc | apply pw_below_drewN | apply below_drew1) | exact HB.out)⟩⟩
  case rest =>
    clear HC6
    try clear c1
    try clear p2
    try clear c8
    obtain ⟨kq, x25_5, rfl, HA, HJ5, HB⟩ := hcut
    cases kq with
    | zero => exact absurd HA.out (by simp [runnellaw13_CompBack.j0])
    | succ kj5 =>
      have H := HA.out
      clear HA
      simp only [runnellaw13_CompBack.j0] at H
      by_cases c9 : x25_5 = true
      · subst c9
        have H1 : (some t420) = some r := by rw [if_pos rfl] at H; exact H
        clear H
        have H := H1
        clear H1
        obtain rfl := Option.some.inj H
        go_wp2
        repeat (go_quiet (fail); try go_wp2)
        go_ret
        exact ⟨by first | rfl | (simp [errW_none, errW_some] <;> rfl) | (simp [*, errW_none, errW_some] <;> rfl), by repeat (first | (with_reducible first | exact HB.out | apply below_alloc | apply pw_below_drewN | apply below_drew1) | exact HB.out)⟩
      · replace c9 := Bool.eq_false_iff.mpr c9
        subst c9
        have H1 : (if 0 ≤ (l0.length : Int) then (if ((l0.length : Int) : Int).toNat ≤ 11728124029610 then (runnellaw13_CompBack.l0 kj5 l0 a1 a2 (List.replicate ((l0.length : Int) : Int).toNat []) 0) else (none)) else (none)) = some r := by rw [if_neg (show ¬ (false = true) by decide)] at H; exact H
        clear H
        have H := H1
        clear H1
        by_cases c10 : 0 ≤ (l0.length : Int)
        · rw [if_pos c10] at H
          have c10b0 := eq_true c10
          have c10b1 : decide (0 ≤ (l0.length : Int)) = true := decide_eq_true c10
          clear c10
          by_cases c11 : ((l0.length : Int) : Int).toNat ≤ 11728124029610
          · rw [if_pos c11] at H
            have c11b0 := eq_true c11
            have c11b1 : decide (((l0.length : Int) : Int).toNat ≤ 11728124029610) = true := decide_eq_true c11
            clear c11
            obtain ⟨y422, hy422⟩ : ∃ y_ : List (List Int), y_ = (List.replicate ((l0.length : Int) : Int).toNat []) := ⟨_, rfl⟩
            replace H : (runnellaw13_CompBack.l0 kj5 l0 a1 a2 y422 0) = some r := by first | (rw [hy422]; with_reducible exact H) | (have H2_ := (Option.bind_some _ _).symm.trans H; rw [hy422]; with_reducible exact H2_) | (have H2_ := (Option.bind_some _ _).symm.trans H; with_reducible exact H2_) | with_reducible exact H | (rw [hy422]; exact H) | exact H
            have Ny422 := Aside0.mk hy422
            clear hy422
            have H' := Aside0.mk H
            clear H
            go_wp2_with (first | ((with_reducible refine gate_dst (N := 29) rfl ?_); (try (refine gate_guard (by rfl) ?_; dsimp only)); refine Kd.S_make (Kd.slice 3 (Kd.int .i64)) _ 53 rfl (N := 29) rfl 48 _ _ rfl (l0.length : Int) rfl rfl Try.underlying48 (.slice none 0 0) 24 info53 rfl (by decide) (by omega) [] (ok := fun _ => True) (okp := fun _ => True) ⟨_, rfl, Kd.R_nil _ _ _ _ _⟩ (fun _ hk => hk) trivial (of_decide_eq_true (by first | (with_reducible assumption) | assumption)) (Nat.le_trans (Nat.mul_le_mul_right _ (of_decide_eq_true (by first | (with_reducible assumption) | assumption) : (l0.length : Int).toNat ≤ 11728124029610)) (by omega)) (Below.refl _ _) (Nat.le_refl _) ?_; intro v423 w12 ho13 hb hg_ hnew_; clear hg_ hnew_; (first | rw [← Ny422.out] at ho13 | (simp only [Int.reduceToNat] at ho13; rw [← Ny422.out] at ho13)); have n0_ := Aside0.mk (Kd.S_lower ho13 (below_size (by repeat (first | (with_reducible first | exact HB.out | apply below_alloc | apply pw_below_drewN | apply below_drew1) | exact HB.out)))); have n1_ := Aside0.mk (below_step (by repeat (first | (with_reducible first | exact HB.out | apply below_alloc | apply pw_below_drewN | apply below_drew1) | exact HB.out)) hb); clear HB; have HO424 := n0_; have HB := n1_; clear n0_ n1_; clear hb ho13))
            go_loopg [10] kj5 (fun kq v10 w' => ∃ (x9_2 : List (List Int)) (x10_2 : Int), v10 = .int .i64 x10_2 ∧ Aside0 (runnellaw13_CompBack.l0 kq l0 a1 a2 x9_2 x10_2 = some r) ∧ Aside0 (kq ≤ kj5) ∧ Aside0 (Kd.S (Kd.slice 3 (Kd.int .i64)) 53 w' w.heap.size (fun _ => True) v423 x9_2) ∧ Aside0 (Below w.heap.size w w'))
            case atStart => exact ⟨(y422), (0), (by first | rfl | (simp; done) | (simp [*]; done)), H', ⟨Nat.le_refl _⟩, ⟨by (with_reducible repeat (first | apply Kd.S_alloc | apply Kd.S_drewN | apply Kd.S_drew)); exact HO424.out⟩, ⟨by repeat (first | (with_reducible first | exact HB.out | apply below_alloc | apply pw_below_drewN | apply below_drew1) | exact HB.out)⟩⟩
            case round =>
              clear H'
              try clear c1
              try clear p2
              try clear c8
              try clear c9
              try clear c10
              try clear c10b0
              try clear c10b1
              try clear c11
              try clear c11b0
              try clear c11b1
              try clear c13
              try clear p2
              obtain ⟨x9_2, x10_2, rfl, HA, HK2, HO_9, HB⟩ := hrel
              cases gk with
              | zero => exact absurd HA.out (by simp [runnellaw13_CompBack.l0])
              | succ k2 =>
                have H := HA.out
                clear HA
                simp only [runnellaw13_CompBack.l0] at H
                by_cases c14 : x10_2 < (l0.length : Int)
                · rw [if_pos c14] at H
                  have c14b0 : decide (x10_2 < (l0.length : Int)) = true := decide_eq_true c14
                  clear c14
                  have H' := Aside0.mk H
                  clear H
                  go_wp2
                  repeat (go_quiet (fail); try go_wp2)
                  go_loopg [11] k2 (fun kq v11 w' => ∃ (x9_3 : List (List Int)) (x11_3 : Int), v11 = .int .i64 x11_3 ∧ Aside0 (runnellaw13_CompBack.l1 kq l0 a1 a2 x9_3 x10_2 x11_3 = some r) ∧ Aside0 (kq ≤ k2) ∧ Aside0 (Kd.S (Kd.slice 3 (Kd.int .i64)) 53 w' w.heap.size (fun _ => True) v423 x9_3) ∧ Aside0 (Below w.heap.size w w'))
                  case atStart => exact ⟨(x9_2), (0), (by first | rfl | (simp; done) | (simp [*]; done)), H', ⟨Nat.le_refl _⟩, ⟨by (with_reducible repeat (first | apply Kd.S_alloc | apply Kd.S_drewN | apply Kd.S_drew)); exact HO_9.out⟩, ⟨by repeat (first | (with_reducible first | exact HB.out | apply below_alloc | apply pw_below_drewN | apply below_drew1) | exact HB.out)⟩⟩
                  case round =>
                    clear H'
                    try clear c1
                    try clear p2
                    try clear c8
                    try clear c9
                    try clear c10
                    try clear c10b0
                    try clear c10b1
                    try clear c11
                    try clear c11b0
                    try clear c11b1
                    try clear c13
                    try clear c14
                    try clear c14b0
                    try clear p2
                    obtain ⟨x9_3, x11_3, rfl, HA, HK3, HO_9, HB⟩ := hrel
                    cases gk with
                    | zero => exact absurd HA.out (by simp [runnellaw13_CompBack.l1])
                    | succ k3 =>
                      have H := HA.out
                      clear HA
                      simp only [runnellaw13_CompBack.l1] at H
                      by_cases c15 : 0 ≤ x10_2
                      · rw [if_pos c15] at H
                        have c15b0 : decide (0 ≤ x10_2) = true := decide_eq_true c15
                        clear c15
                        by_cases c16 : x10_2 < (l0.length : Int)
                        · rw [if_pos c16] at H
                          have c16b0 : decide (x10_2 < (l0.length : Int)) = true := decide_eq_true c16
                          clear c16
                          by_cases c17 : x11_3 < ((rd_L1 l0 x10_2).length : Int)
                          · rw [if_pos c17] at H
                            have c17b0 : decide (x11_3 < ((rd_L1 l0 x10_2).length : Int)) = true := decide_eq_true c17
                            clear c17
                            by_cases c18 : 0 ≤ x11_3
                            · rw [if_pos c18] at H
                              have c18b0 : decide (0 ≤ x11_3) = true := decide_eq_true c18
                              clear c18
                              have HC19 := Aside0.mk H
                              clear H
                              have p425 : 0 ≤ (x10_2 : Int) := of_decide_eq_true (by first | (with_reducible assumption) | assumption)
                              have q425 : x10_2 < (l0.length : Int) := of_decide_eq_true (by first | (with_reducible assumption) | assumption)
                              obtain ⟨ad425, A425_0, c425_0, e425, hx425_0, hl425_0, hi425_0⟩ := at_L1 HR0.out x10_2 p425 q425
                              cases e425
                              replace hx425_0 := (HB.out.cell (World.block_lt_of_cell? w _ hx425_0)).trans hx425_0
                              have HR425_0 := Aside0.mk hi425_0
                              have HC425_0 := Aside0.mk hl425_0
                              clear hi425_0 hl425_0
                              replace p425 := eq_true p425
                              replace q425 := eq_true q425
                              have p426 : 0 ≤ (x10_2 : Int) := of_decide_eq_true (by first | (with_reducible assumption) | assumption)
                              have q426 : x10_2 < (l0.length : Int) := of_decide_eq_true (by first | (with_reducible assumption) | assumption)
                              obtain ⟨ad426, A426_0, c426_0, e426, hx426_0, hl426_0, hi426_0⟩ := at_L1 HR0.out x10_2 p426 q426
                              obtain rfl : ad425 = ad426 := (by injection e426)
                              replace hx426_0 := (HB.out.cell (World.block_lt_of_cell? w _ hx426_0)).trans hx426_0
                              have HR426_0 := Aside0.mk hi426_0
                              have HC426_0 := Aside0.mk hl426_0
                              clear hi426_0 hl426_0
                              replace p426 := eq_true p426
                              replace q426 := eq_true q426
                              have ea_ := Option.some.inj (hx425_0.symm.trans hx426_0)
                              injection ea_ with ea_ en_ ec_
                              subst ea_
                              subst ec_
                              clear en_
                              have p427 : 0 ≤ (x11_3 : Int) := of_decide_eq_true (by first | (with_reducible assumption) | assumption)
                              have q427 : x11_3 < ((rd_L1 l0 x10_2).length : Int) := of_decide_eq_true (by first | (with_reducible assumption) | assumption)
                              obtain ⟨ad427, e427, hx427_0⟩ := Kd.at_int HR426_0.out x11_3 p427 q427
                              cases e427
                              replace hx427_0 := (HB.out.cell (World.block_lt_of_cell? w _ hx427_0)).trans hx427_0
                              replace p427 := eq_true p427
                              replace q427 := eq_true q427
                              go_upto_region 13 with (fail)
                              repeat (go_quiet (fail); go_upto_region 13 with (fail))
                              go_cut [59] (fun v59 wc => ∃ (kq : Nat) (x59_18 : Bool), v59 = .bool x59_18 ∧ Aside0 (runnellaw13_CompBack.j3 kq l0 a1 a2 x9_3 x10_2 x11_3 (rd (rd_L1 l0 x10_2) x11_3) x59_18 = some r) ∧ Aside0 (kq ≤ k3) ∧ Aside0 (Kd.S (Kd.slice 3 (Kd.int .i64)) 53 wc w.heap.size (fun _ => True) v423 x9_3) ∧ Aside0 (Below w.heap.size w wc))
                              case first =>
                                have H := HC19.out
                                clear HC19
                                by_cases c20 : (rd (rd_L1 l0 x10_2) x11_3) ≥ 0
                                · rw [if_pos c20] at H
                                  have c20b0 : decide (0 ≤ (rd (rd_L1 l0 x10_2) x11_3)) = true := decide_eq_true c20
                                  clear c20
                                  (first | rw [c20b0] | (simp only [i64_w, i32_w]; rw [c20b0]) | skip)
                                  have H' := Aside0.mk H
                                  clear H
                                  go_wp2
                                  repeat (go_quiet (fail); try go_wp2)
                                  go_meet
                                  case rel => exact ⟨_, (decide ((rd (rd_L1 l0 x10_2) x11_3) < (l0.length : Int))), (by first | rfl | (simp; done) | (simp [*]; done)), H', ⟨by have := HJ5.out; have := HK2.out; have := HK3.out; first | omega | exact Nat.le_refl _⟩, ⟨by (with_reducible repeat (first | apply Kd.S_alloc | apply Kd.S_drewN | apply Kd.S_drew)); exact HO_9.out⟩, ⟨by repeat (first | (with_reducible first | exact HB.out | apply below_alloc | apply pw_below_drewN | apply below_drew1) | exact HB.out)⟩⟩
                                · rw [if_neg c20] at H
                                  have c20b0 : decide (0 ≤ (rd (rd_L1 l0 x10_2) x11_3)) = false := decide_eq_false c20
                                  clear c20
                                  (first | rw [c20b0] | (simp only [i64_w, i32_w]; rw [c20b0]) | skip)
                                  have H' := Aside0.mk H
                                  clear H
                                  go_wp2
                                  repeat (go_quiet (fail); try go_wp2)
                                  go_meet
                                  case rel => exact ⟨_, (false), (by first | rfl | (simp; done) | (simp [*]; done)), H', ⟨by have := HJ5.out; have := HK2.out; have := HK3.out; first | omega | exact Nat.le_refl _⟩, ⟨by (with_reducible repeat (first | apply Kd.S_alloc | apply Kd.S_drewN | apply Kd.S_drew)); exact HO_9.out⟩, ⟨by repeat (first | (with_reducible first | exact HB.out | apply below_alloc | apply pw_below_drewN | apply below_drew1) | exact HB.out)⟩⟩
                              case rest =>
                                clear HC19
                                try clear c1
                                try clear c2
                                try clear p2
                                try clear c4
                                try clear p4
                                try clear q4
                                try clear hx4
                                try clear c8
                                try clear c9
                                try clear c10
                                try clear c10b0
                                try clear c10b1
                                try clear c11
                                try clear c11b0
                                try clear c11b1
                                try clear c13
                                try clear c14
                                try clear c14b0
                                try clear c15
                                try clear c15b0
                                try clear c16
                                try clear c16b0
                                try clear c17
                                try clear c17b0
                                try clear c18
                                try clear c18b0
                                try clear c20
                                try clear c20b0
                                try clear hx425_0
                                try clear hx426_0
                                try clear hx427_0
                                try clear p2
                                try clear p425
                                try clear p426
                                try clear p427
                                try clear q425
                                try clear q426
                                try clear q427
                                obtain ⟨kq, x59_18, rfl, HA, HJ18, HO_9, HB⟩ := hcut
                                cases kq with
                                | zero => exact absurd HA.out (by simp [runnellaw13_CompBack.j3])
                                | succ kj18 =>
                                  have H := HA.out
                                  clear HA
                                  simp only [runnellaw13_CompBack.j3] at H
                                  by_cases c21 : x59_18 = true
                                  · subst c21
                                    have H1 : ((some (([] : List Int) : List Int)).bind fun y428 => (if 0 ≤ (rd (rd_L1 l0 x10_2) x11_3) then (if (rd (rd_L1 l0 x10_2) x11_3) < (x9_3.length : Int) then (if y428.length + (rd_L1 x9_3 (rd (rd_L1 l0 x10_2) x11_3)).length < 17592186044416 then ((some (y428 ++ (rd_L1 x9_3 (rd (rd_L1 l0 x10_2) x11_3)) : List Int)).bind fun y432 => (if y432.length < 17592186044416 then (runnellaw13_CompBack.l1 kj18 l0 a1 a2 (x9_3.set ((rd (rd_L1 l0 x10_2) x11_3) : Int).toNat (y432 ++ [x10_2])) x10_2 (wrap64 (x11_3 + 1))) else (none))) else (none)) else (none)) else (none))) = some r := by rw [if_pos rfl] at H; exact H
                                    clear H
                                    have H := H1
                                    clear H1
                                    obtain ⟨y428, hy428⟩ : ∃ y_ : List Int, y_ = (([] : List Int)) := ⟨_, rfl⟩
                                    replace H : (if 0 ≤ (rd (rd_L1 l0 x10_2) x11_3) then (if (rd (rd_L1 l0 x10_2) x11_3) < (x9_3.length : Int) then (if y428.length + (rd_L1 x9_3 (rd (rd_L1 l0 x10_2) x11_3)).length < 17592186044416 then ((some (y428 ++ (rd_L1 x9_3 (rd (rd_L1 l0 x10_2) x11_3)) : List Int)).bind fun y432 => (if y432.length < 17592186044416 then (runnellaw13_CompBack.l1 kj18 l0 a1 a2 (x9_3.set ((rd (rd_L1 l0 x10_2) x11_3) : Int).toNat (y432 ++ [x10_2])) x10_2 (wrap64 (x11_3 + 1))) else (none))) else (none)) else (none)) else (none)) = some r := by first | (rw [hy428]; with_reducible exact H) | (have H2_ := (Option.bind_some _ _).symm.trans H; rw [hy428]; with_reducible exact H2_) | (have H2_ := (Option.bind_some _ _).symm.trans H; with_reducible exact H2_) | with_reducible exact H | (rw [hy428]; exact H) | exact H
                                    have Ny428 := Aside0.mk hy428
                                    clear hy428
                                    by_cases c22 : 0 ≤ (rd (rd_L1 l0 x10_2) x11_3)
                                    · rw [if_pos c22] at H
                                      have c22b0 : decide (0 ≤ (rd (rd_L1 l0 x10_2) x11_3)) = true := decide_eq_true c22
                                      clear c22
                                      by_cases c23 : (rd (rd_L1 l0 x10_2) x11_3) < (x9_3.length : Int)
                                      · rw [if_pos c23] at H
                                        have c23b0 : decide ((rd (rd_L1 l0 x10_2) x11_3) < (x9_3.length : Int)) = true := decide_eq_true c23
                                        clear c23
                                        by_cases c24 : y428.length + (rd_L1 x9_3 (rd (rd_L1 l0 x10_2) x11_3)).length < 17592186044416
                                        · rw [if_pos c24] at H
                                          have LMc24 := Aside0.mk c24
                                          clear c24
                                          obtain ⟨y432, hy432⟩ : ∃ y_ : List Int, y_ = (y428 ++ (rd_L1 x9_3 (rd (rd_L1 l0 x10_2) x11_3))) := ⟨_, rfl⟩
                                          replace H : (if y432.length < 17592186044416 then (runnellaw13_CompBack.l1 kj18 l0 a1 a2 (x9_3.set ((rd (rd_L1 l0 x10_2) x11_3) : Int).toNat (y432 ++ [x10_2])) x10_2 (wrap64 (x11_3 + 1))) else (none)) = some r := by first | (rw [hy432]; with_reducible exact H) | (have H2_ := (Option.bind_some _ _).symm.trans H; rw [hy432]; with_reducible exact H2_) | (have H2_ := (Option.bind_some _ _).symm.trans H; with_reducible exact H2_) | with_reducible exact H | (rw [hy432]; exact H) | exact H
                                          have Ny432 := Aside0.mk hy432
                                          clear hy432
                                          by_cases c25 : y432.length < 17592186044416
                                          · rw [if_pos c25] at H
                                            have LMc25 := Aside0.mk c25
                                            clear c25
                                            obtain ⟨y435, hy435⟩ : ∃ y_ : List Int, y_ = (y432 ++ [x10_2]) := ⟨_, rfl⟩
                                            replace H : (runnellaw13_CompBack.l1 kj18 l0 a1 a2 (x9_3.set ((rd (rd_L1 l0 x10_2) x11_3) : Int).toNat y435) x10_2 (wrap64 (x11_3 + 1))) = some r := by first | (rw [hy435]; with_reducible exact H) | (have H2_ := (Option.bind_some _ _).symm.trans H; rw [hy435]; with_reducible exact H2_) | (have H2_ := (Option.bind_some _ _).symm.trans H; with_reducible exact H2_) | with_reducible exact H | (rw [hy435]; exact H) | exact H
                                            have Ny435 := Aside0.mk hy435
                                            clear hy435
                                            obtain ⟨y438, hy438⟩ : ∃ y_ : List (List Int), y_ = (x9_3.set ((rd (rd_L1 l0 x10_2) x11_3) : Int).toNat y435) := ⟨_, rfl⟩
                                            replace H : (runnellaw13_CompBack.l1 kj18 l0 a1 a2 y438 x10_2 (wrap64 (x11_3 + 1))) = some r := by first | (rw [hy438]; with_reducible exact H) | (have H2_ := (Option.bind_some _ _).symm.trans H; rw [hy438]; with_reducible exact H2_) | (have H2_ := (Option.bind_some _ _).symm.trans H; with_reducible exact H2_) | with_reducible exact H | (rw [hy438]; exact H) | exact H
                                            have Ny438 := Aside0.mk hy438
                                            clear hy438
                                            have H' := Aside0.mk H
                                            clear H
                                            go_wp2_with (first | ((with_reducible refine gate_dst (N := 62) rfl ?_); (try (refine gate_guard (by rfl) ?_; dsimp only)); refine Kd.R_lit (Kd.int .i64) _ 3 ?hg (N := 62) ?hd (xs := ([] : List Int)) (inner := []) (ok := fun _ => True) (okp := fun _ => True) ?hr ?hp (fun _ hk => hk) trivial (Below.refl _ _) (Nat.le_refl _) (by simp) ?_; (case hd => rfl); (case hg => rfl); (case hr => first | (go_simp; done) | (go_simp; rfl)); (case hp => exact (Reps.none _ _)); intro v429 w27 ho28 hb hg_ hnew_; clear hg_ hnew_; (first | rw [← Ny428.out] at ho28 | (simp only [Int.reduceToNat] at ho28; rw [← Ny428.out] at ho28)); have n0_ := Aside0.mk (Kd.S_elder' (by (with_reducible repeat (first | apply Kd.S_alloc | apply Kd.S_drewN | apply Kd.S_drew)); exact HO_9.out) (Kd.R_base ho28) hb); have n1_ := Aside0.mk (Kd.R_lower ho28 (below_size (by repeat (first | (with_reducible first | exact HB.out | apply below_alloc | apply pw_below_drewN | apply below_drew1) | exact HB.out)))); have n2_ := Aside0.mk (below_step (by repeat (first | (with_reducible first | exact HB.out | apply below_alloc | apply pw_below_drewN | apply below_drew1) | exact HB.out)) hb); clear HO_9; clear HB; have HO_9 := n0_; have HO430 := n1_; have HB := n2_; clear n0_ n1_ n2_; clear hb ho28; obtain ⟨Ao29, co29, eo29⟩ := Kd.S_slice HO_9.out; subst eo29; have p431 : 0 ≤ ((rd (rd_L1 l0 x10_2) x11_3) : Int) := of_decide_eq_true (by first | (with_reducible assumption) | assumption); have q431 : (rd (rd_L1 l0 x10_2) x11_3) < (x9_3.length : Int) := of_decide_eq_true (by first | (with_reducible assumption) | assumption); obtain ⟨ad431, A431_0, c431_0, e431, hx431_0, hl431_0, hi431_0⟩ := at_L1 (Kd.S_reads' HO_9.out).2.2 (rd (rd_L1 l0 x10_2) x11_3) p431 q431; cases e431; obtain ⟨ce431, hce431, hMe431, hcc431⟩ := Kd.S_get HO_9.out [] (rd (rd_L1 l0 x10_2) x11_3) p431 (by first | exact q431 | exact of_decide_eq_true (by first | (with_reducible assumption) | assumption) | (have e_ := (Kd.S_reads' HO_9.out).1; omega)); obtain ⟨ve431_0, rfl, ge431_0⟩ := hMe431; have hv431_0 := hcc431 0 _ rfl; rw [Nat.add_zero, show ((Kd.slice 3 (Kd.int .i64))).sz = 1 from rfl, Nat.mul_one] at hv431_0; replace hv431_0 := Option.some.inj (hv431_0.symm.trans hx431_0); rw [hv431_0] at ge431_0; have HL431_0 := Aside0.mk (show Kd.R (Kd.int .i64) 3 _ _ _ _ (rd_L1 x9_3 (rd (rd_L1 l0 x10_2) x11_3)) from ge431_0); clear hv431_0 ge431_0; clear hcc431 hce431; have HR431_0 := Aside0.mk hi431_0; have HC431_0 := Aside0.mk hl431_0; clear hi431_0 hl431_0; replace p431 := eq_true p431; replace q431 := eq_true q431) | ((with_reducible refine gate_builtin (b := .append) (xs := #[.tmp 62, .tmp 66]) rfl ?_); (try (refine gate_guard (by rfl) ?_; dsimp only)); at_builtin; refine Kd.R_append_rows (Kd.int .i64) (w0 := w) w.heap.size rfl (.tmp 62) (.tmp 66) 53 3 (.int .i64 0) 8 rfl Try.underlying53 info3 rfl (by decide) (by omega) v429 y428 (rd_L1 x9_3 (rd (rd_L1 l0 x10_2) x11_3)) _ _ _ (fun _ => True) (fun _ => False) rfl rfl ?aO ?aR (fun _ _ h => h) (fun _ h => h.elim) ?aF ?aB ?aS ?aL ?_; (case aR => repeat (first | exact (by repeat (first | (with_reducible exact HR431_0.out) | (with_reducible refine Kd.C_alloc ?_ _) | (with_reducible refine Kd.C_drewN ?_ _) | (with_reducible refine Kd.C_drew ?_) | exact HR431_0.out)) | (with_reducible refine Kd.C_alloc ?_ _) | (with_reducible refine Kd.C_drewN ?_ _) | (with_reducible refine Kd.C_drew ?_))); (case aB => exact (by repeat (first | (with_reducible first | exact HB.out | apply below_alloc | apply pw_below_drewN | apply below_drew1) | exact HB.out))); (case aF => exact (fun _ _ => trivial)); (case aO => exact (by (with_reducible repeat (first | apply Kd.R_alloc | apply Kd.R_drewN | apply Kd.R_drew)); exact HO430.out)); (case aS => exact (below_size (by repeat (first | (with_reducible first | exact HB.out | apply below_alloc | apply pw_below_drewN | apply below_drew1) | exact HB.out)))); (case aL => have := LMc24.out; omega); intro v433 w30 ho hb hg hat; rw [← Ny432.out] at ho; have n0_ := Aside0.mk (Kd.S_after (ok := (fun _ => True)) (by (with_reducible repeat (first | apply Kd.S_alloc | apply Kd.S_drewN | apply Kd.S_drew)); exact HO_9.out) hg hat); have n1_ := Aside0.mk (Kd.R_after (ok := (fun k_ => some k_ ≠ (.slice (some ad431) x9_3.length co29 : Value).ownBlock)) (by (with_reducible repeat (first | apply Kd.R_alloc | apply Kd.R_drewN | apply Kd.R_drew)); exact Kd.R_mono HL431_0.out (fun _ hk => ⟨hk.2, hk.1.2⟩)) hg hat); have n2_ := Aside0.mk (hb); have n3_ := Aside0.mk (ho); clear HO_9; clear HL431_0; clear HB; clear HO430; have HO_9 := n0_; have HL431_0 := n1_; have HB := n2_; have HO434 := n3_; clear n0_ n1_ n2_ n3_; clear ho hb hg hat) | ((with_reducible refine gate_builtin (b := .append) (xs := #[.tmp 67, .tmp 69]) rfl ?_); (try (refine gate_guard (by rfl) ?_; dsimp only)); at_builtin; refine Kd.R_append (Kd.int .i64) (w0 := w) w.heap.size rfl (.tmp 67) (.tmp 69) 53 3 (.int .i64 0) 8 rfl Try.underlying53 info3 rfl (by decide) (by omega) v433 y432 x10_2 [.int .i64 x10_2] (fun _ => True) (fun _ => False) rfl rfl ?aP (fun _ hk => hk.elim) ?aF ?aO ?aB ?aS ?aL ?_; (case aP => exact rfl); (case aB => exact (by repeat (first | (with_reducible first | exact HB.out | apply below_alloc | apply pw_below_drewN | apply below_drew1) | exact HB.out))); (case aF => exact (fun _ _ => trivial)); (case aO => exact (by (with_reducible repeat (first | apply Kd.R_alloc | apply Kd.R_drewN | apply Kd.R_drew)); exact HO434.out)); (case aS => exact (below_size (by repeat (first | (with_reducible first | exact HB.out | apply below_alloc | apply pw_below_drewN | apply below_drew1) | exact HB.out)))); (case aL => have := LMc25.out; omega); intro v436 w31 ho hb hg hat; rw [← Ny435.out] at ho; have n0_ := Aside0.mk (Kd.S_after (ok := (fun _ => True)) (by (with_reducible repeat (first | apply Kd.S_alloc | apply Kd.S_drewN | apply Kd.S_drew)); exact HO_9.out) hg hat); have n1_ := Aside0.mk (Kd.R_after (ok := (fun k_ => some k_ ≠ (.slice (some ad431) x9_3.length co29 : Value).ownBlock)) (by (with_reducible repeat (first | apply Kd.R_alloc | apply Kd.R_drewN | apply Kd.R_drew)); exact HL431_0.out) hg hat); have n2_ := Aside0.mk (hb); have n3_ := Aside0.mk (ho); clear HO_9; clear HL431_0; clear HB; clear HO434; have HO_9 := n0_; have HL431_0 := n1_; have HB := n2_; have HO437 := n3_; clear n0_ n1_ n2_ n3_; clear ho hb hg hat; obtain ⟨A436, c436, e436⟩ := Kd.R_slice HO437.out; subst e436; have p26 : 0 ≤ ((rd (rd_L1 l0 x10_2) x11_3) : Int) := of_decide_eq_true (by first | (with_reducible assumption) | assumption); have q26 : ((rd (rd_L1 l0 x10_2) x11_3) : Int) < ((x9_3.length : Int) : Int) := of_decide_eq_true (by first | (with_reducible assumption) | assumption); obtain ⟨go26, co26, eo26, gb26, gl26, cl26, HG26⟩ := Kd.S_form HO_9.out (by omega); (first | cases eo26 | (injection eo26 with ea_ en_ ec_; (first | subst ea_ | (injection ea_ with ea_; subst ea_)); subst ec_; clear en_)); have GB26 := Aside0.mk gb26; have GG26 := Aside0.mk HG26; clear gb26 gl26 HG26; (first | simp only [add_plain] at hx431_0 | skip); obtain ⟨_, ce26, hcl26, hM26, hcc26, hfr26, _, _⟩ := Kd.S_elem HO_9.out [] ((rd (rd_L1 l0 x10_2) x11_3) : Int) p26 q26; obtain ⟨ve26_0, rfl, ge26_0⟩ := hM26; have hx26_0 := hcc26 0 _ rfl; have hf26_0 := hfr26 0; (try simp only [show ((Kd.slice 3 (Kd.int .i64))).sz = 1 from rfl, Nat.mul_one, Nat.add_zero] at hx26_0); (try simp only [show ((Kd.slice 3 (Kd.int .i64))).sz = 1 from rfl, Nat.mul_one, Nat.add_zero] at hf26_0); clear hcl26 hcc26 hfr26 ; (try clear hM26); replace p26 := eq_true p26; replace q26 := eq_true q26; have n_ := Aside0.mk (Kd.S_mono (ok' := (fun k_ => some k_ ≠ (.slice A436 y435.length c436 : Value).ownBlock)) HO_9.out (fun k_ hk => hk.2)); clear HO_9; have HO_9 := n_; clear n_; have HX32 := Aside0.mk (show Kd.S (Kd.slice 3 (Kd.int .i64)) 53 w31 w.heap.size (fun k_ => ((fun _ => True)) k_ ∧ ¬ ((fun k_ => some k_ = (.slice A436 y435.length c436 : Value).ownBlock)) k_) (.slice (some ⟨go26, 0, none⟩) x9_3.length co29) x9_3 from (by (with_reducible repeat (first | apply Kd.S_alloc | apply Kd.S_drewN | apply Kd.S_drew)); exact Kd.S_mono HO_9.out (fun k_ hk => ⟨trivial, fun e_ => hk e_⟩))); obtain ⟨oki32, ce32, hcl32, hM32, hcc32, hfr32, hoki32, hH32⟩ := Kd.S_elem HX32.out [] ((rd (rd_L1 l0 x10_2) x11_3) : Int) (of_decide_eq_true (by first | (with_reducible assumption) | assumption)) (by have h_ : ((rd (rd_L1 l0 x10_2) x11_3) : Int) < ((x9_3.length : Int) : Int) := of_decide_eq_true (by first | (with_reducible assumption) | assumption); first | exact h_ | (have e_ := (Kd.S_reads' HO_9.out).1; omega) | simpa using h_); obtain ⟨ve32_0, rfl, ge32_0⟩ := hM32; have HP32 := Kd.S_seg hH32 (of_decide_eq_true (by first | (with_reducible assumption) | assumption)) (by have h_ : ((rd (rd_L1 l0 x10_2) x11_3) : Int) < ((x9_3.length : Int) : Int) := of_decide_eq_true (by first | (with_reducible assumption) | assumption); first | exact h_ | (have e_ := (Kd.S_reads' HO_9.out).1; omega) | simpa using h_) (seg := [(.slice A436 y435.length c436 : Value)]) (j := 0) (show 1 ≤ 1 from by decide) (x' := y435) (Kd.M_row (Kd.R_mono (Kd.R_tight rfl (Kd.R_mono (ok' := fun k_ => ((fun _ => True)) k_ ∧ k_ ≠ go26) (Kd.R_apart' (HO437.out) (Kd.S_typed HO_9.out) (by decide)) (fun k_ hk => ⟨trivial, fun e_ => (hk.2) (by rw [e_]; rfl)⟩))) (fun _ h_ => Or.inr (h_)))) (fun _ hk => hk) (fun k_ hk_ => ((Kd.R_mono (ok' := fun k_ => ((fun _ => True)) k_ ∧ k_ ≠ go26) (Kd.R_apart' (HO437.out) (Kd.S_typed HO_9.out) (by decide)) (fun k_ hk => ⟨trivial, fun e_ => (hk.2) (by rw [e_]; rfl)⟩))).1 k_ hk_.symm); have hx32_0 := hcc32 0 _ rfl; (try simp only [show ((Kd.slice 3 (Kd.int .i64))).sz = 1 from rfl, Nat.mul_one, Nat.add_zero] at hx32_0); have hf32_0 := hfr32 0; (try simp only [show ((Kd.slice 3 (Kd.int .i64))).sz = 1 from rfl, Nat.mul_one, Nat.add_zero] at hf32_0); clear hcl32 hcc32 hfr32 hoki32 hH32; (try clear hM32); (try simp only [show ((Kd.slice 3 (Kd.int .i64))).sz = 1 from rfl, Nat.mul_one, Nat.add_zero] at HP32)) | ((with_reducible refine gate_store (t := 53) (p := 71) rfl ?_); (try (rw [drewN_self w31]; generalize hq_ : World.drewN w31 _ = w31; have n0_ := Aside0.mk (Kd.S_at hq_ HO_9.out); have n1_ := Aside0.mk (Kd.R_at hq_ HL431_0.out); have n2_ := Aside0.mk (below_at hq_ HB.out); clear hq_ HO_9 HL431_0 HB; have HO_9 := n0_; have HL431_0 := n1_; have HB := n2_; clear n0_ n1_ n2_; (try (have n_ := Aside0.mk (Kd.S_mono (ok' := (fun k_ => some k_ ≠ (.slice A436 y435.length c436 : Value).ownBlock)) HO_9.out (fun k_ hk => hk.2)); clear HO_9; have HO_9 := n_; clear n_)); (try (have HX32 := Aside0.mk (show Kd.S (Kd.slice 3 (Kd.int .i64)) 53 w31 w.heap.size (fun k_ => ((fun _ => True)) k_ ∧ ¬ ((fun k_ => some k_ = (.slice A436 y435.length c436 : Value).ownBlock)) k_) (.slice (some ⟨go26, 0, none⟩) x9_3.length co29) x9_3 from (by (with_reducible repeat (first | apply Kd.S_alloc | apply Kd.S_drewN | apply Kd.S_drew)); exact Kd.S_mono HO_9.out (fun k_ hk => ⟨trivial, fun e_ => hk e_⟩))))); (try (obtain ⟨oki32, ce32, hcl32, hM32, hcc32, hfr32, hoki32, hH32⟩ := Kd.S_elem HX32.out [] ((rd (rd_L1 l0 x10_2) x11_3) : Int) (of_decide_eq_true (by first | (with_reducible assumption) | assumption)) (by have h_ : ((rd (rd_L1 l0 x10_2) x11_3) : Int) < ((x9_3.length : Int) : Int) := of_decide_eq_true (by first | (with_reducible assumption) | assumption); first | exact h_ | (have e_ := (Kd.S_reads' HO_9.out).1; omega) | simpa using h_))); (try (obtain ⟨ve32_0, rfl, ge32_0⟩ := hM32)); (try (have HP32 := Kd.S_seg hH32 (of_decide_eq_true (by first | (with_reducible assumption) | assumption)) (by have h_ : ((rd (rd_L1 l0 x10_2) x11_3) : Int) < ((x9_3.length : Int) : Int) := of_decide_eq_true (by first | (with_reducible assumption) | assumption); first | exact h_ | (have e_ := (Kd.S_reads' HO_9.out).1; omega) | simpa using h_) (seg := [(.slice A436 y435.length c436 : Value)]) (j := 0) (show 1 ≤ 1 from by decide) (x' := y435) (Kd.M_row (Kd.R_mono (Kd.R_tight rfl (Kd.R_mono (ok' := fun k_ => ((fun _ => True)) k_ ∧ k_ ≠ go26) (Kd.R_apart' (HO437.out) (Kd.S_typed HO_9.out) (by decide)) (fun k_ hk => ⟨trivial, fun e_ => (hk.2) (by rw [e_]; rfl)⟩))) (fun _ h_ => Or.inr (h_)))) (fun _ hk => hk) (fun k_ hk_ => ((Kd.R_mono (ok' := fun k_ => ((fun _ => True)) k_ ∧ k_ ≠ go26) (Kd.R_apart' (HO437.out) (Kd.S_typed HO_9.out) (by decide)) (fun k_ hk => ⟨trivial, fun e_ => (hk.2) (by rw [e_]; rfl)⟩))).1 k_ hk_.symm))); (try (have hx32_0 := hcc32 0 _ rfl)); (try (try simp only [show ((Kd.slice 3 (Kd.int .i64))).sz = 1 from rfl, Nat.mul_one, Nat.add_zero] at hx32_0)); (try (have hf32_0 := hfr32 0)); (try (try simp only [show ((Kd.slice 3 (Kd.int .i64))).sz = 1 from rfl, Nat.mul_one, Nat.add_zero] at hf32_0)); (try (clear hcl32 hcc32 hfr32 hoki32 hH32; (try clear hM32))); (try (try simp only [show ((Kd.slice 3 (Kd.int .i64))).sz = 1 from rfl, Nat.mul_one, Nat.add_zero] at HP32)))); refine store_event (t := 53) (p := 71) (v := ?vo_w33) (w1 := (w31.setCell ⟨go26, ((rd (rd_L1 l0 x10_2) x11_3) : Int).toNat, none⟩ ((.slice A436 y435.length c436 : Value)))) ?hg ?ho ?hn ?hr ?_; (case ho => rfl); (case hg => rfl); (case hn => rfl); (case hr => first | (go_simp; done) | (go_simp; rfl)); intro w33 hw; have hg : w31.grownBy w33 (some go26) := (by rw [hw]; exact HP32.2); have hp_ : Kd.S (Kd.slice 3 (Kd.int .i64)) 53 w33 w.heap.size (fun _ => True) (.slice (some ⟨go26, 0, none⟩) x9_3.length co29) y438 := (by rw [hw, Ny438.out]; exact HP32.1); clear HP32; have n0_ := Aside0.mk (hp_); have n1_ := Aside0.mk (Kd.R_after (v := (.slice (some ⟨go26, 0, none⟩) x9_3.length co29)) (v1 := (.slice (some ⟨go26, 0, none⟩) x9_3.length co29)) (ok := (fun k_ => some k_ ≠ (.slice A436 y435.length c436 : Value).ownBlock)) (by (with_reducible repeat (first | apply Kd.R_alloc | apply Kd.R_drewN | apply Kd.R_drew)); exact Kd.R_mono HL431_0.out (fun _ hk => ⟨hk.2, hk.1⟩)) hg (.inl rfl)); have n2_ := Aside0.mk ((by rw [hw]; exact below_set (HB.out) GB26.out : Below w.heap.size w w33)); clear HO_9; clear HL431_0; clear HB; clear HO437; have HO_9 := n0_; have HL431_0 := n1_; have HB := n2_; clear n0_ n1_ n2_; clear hg hw hp_))
                                            go_roundg kj18
                                            case measure => have := HJ5.out; have := HK2.out; have := HK3.out; have := HJ18.out; omega
                                            case rel => exact ⟨(y438), (wrap64 (x11_3 + 1)), (by first | rfl | (simp; done) | (simp [*]; done)), H', ⟨by have := HJ5.out; have := HK2.out; have := HK3.out; have := HJ18.out; omega⟩, ⟨by (with_reducible repeat (first | apply Kd.S_alloc | apply Kd.S_drewN | apply Kd.S_drew)); exact HO_9.out⟩, ⟨by repeat (first | (with_reducible first | exact HB.out | apply below_alloc | apply pw_below_drewN | apply below_drew1) | exact HB.out)⟩⟩
                                          · rw [if_neg c25] at H
                                            exact absurd H (by simp)
                                        · rw [if_neg c24] at H
                                          exact absurd H (by simp)
                                      · rw [if_neg c23] at H
                                        exact absurd H (by simp)
                                    · rw [if_neg c22] at H
                                      exact absurd H (by simp)
                                  · replace c21 := Bool.eq_false_iff.mpr c21
                                    subst c21
                                    have H1 : (runnellaw13_CompBack.l1 kj18 l0 a1 a2 x9_3 x10_2 (wrap64 (x11_3 + 1))) = some r := by rw [if_neg (show ¬ (false = true) by decide)] at H; exact H
                                    clear H
                                    have H := H1
                                    clear H1
                                    have H' := Aside0.mk H
                                    clear H
                                    go_wp2
                                    repeat (go_quiet (fail); try go_wp2)
                                    go_roundg kj18
                                    case measure => have := HJ5.out; have := HK2.out; have := HK3.out; have := HJ18.out; omega
                                    case rel => exact ⟨(x9_3), (wrap64 (x11_3 + 1)), (by first | rfl | (simp; done) | (simp [*]; done)), H', ⟨by have := HJ5.out; have := HK2.out; have := HK3.out; have := HJ18.out; omega⟩, ⟨by (with_reducible repeat (first | apply Kd.S_alloc | apply Kd.S_drewN | apply Kd.S_drew)); exact HO_9.out⟩, ⟨by repeat (first | (with_reducible first | exact HB.out | apply below_alloc | apply pw_below_drewN | apply below_drew1) | exact HB.out)⟩⟩
                            · rw [if_neg c18] at H
                              exact absurd H (by simp)
                          · rw [if_neg c17] at H
                            have c17b0 : decide (x11_3 < ((rd_L1 l0 x10_2).length : Int)) = false := decide_eq_false c17
                            clear c17
                            have H' := Aside0.mk H
                            clear H
                            have p425 : 0 ≤ (x10_2 : Int) := of_decide_eq_true (by first | (with_reducible assumption) | assumption)
                            have q425 : x10_2 < (l0.length : Int) := of_decide_eq_true (by first | (with_reducible assumption) | assumption)
                            obtain ⟨ad425, A425_0, c425_0, e425, hx425_0, hl425_0, hi425_0⟩ := at_L1 HR0.out x10_2 p425 q425
                            cases e425
                            replace hx425_0 := (HB.out.cell (World.block_lt_of_cell? w _ hx425_0)).trans hx425_0
                            have HR425_0 := Aside0.mk hi425_0
                            have HC425_0 := Aside0.mk hl425_0
                            clear hi425_0 hl425_0
                            replace p425 := eq_true p425
                            replace q425 := eq_true q425
                            go_wp2
                            repeat (go_quiet (fail); try go_wp2)
                            go_roundg k3
                            case measure => have := HJ5.out; have := HK2.out; have := HK3.out; omega
                            case rel => exact ⟨(x9_3), (wrap64 (x10_2 + 1)), (by first | rfl | (simp; done) | (simp [*]; done)), H', ⟨by have := HJ5.out; have := HK2.out; have := HK3.out; omega⟩, ⟨by (with_reducible repeat (first | apply Kd.S_alloc | apply Kd.S_drewN | apply Kd.S_drew)); exact HO_9.out⟩, ⟨by repeat (first | (with_reducible first | exact HB.out | apply below_alloc | apply pw_below_drewN | apply below_drew1) | exact HB.out)⟩⟩
                        · rw [if_neg c16] at H
                          exact absurd H (by simp)
                      · rw [if_neg c15] at H
                        exact absurd H (by simp)
                · rw [if_neg c14] at H
                  have c14b0 : decide (x10_2 < (l0.length : Int)) = false := decide_eq_false c14
                  clear c14
                  replace H := Option.bind_eq_some_iff.mp H
                  obtain ⟨t439, A340, H⟩ := H
                  replace H : ((comp_Number.f k2 x9_2).bind fun t442 => (runnellaw13_CompBack.l2 k2 l0 a1 a2 x9_2 t439 t442 0)) = some r := H
                  have A34 := Aside0.mk A340
                  clear A340
                  replace H := Option.bind_eq_some_iff.mp H
                  obtain ⟨t442, A350, H⟩ := H
                  replace H : (runnellaw13_CompBack.l2 k2 l0 a1 a2 x9_2 t439 t442 0) = some r := H
                  have A35 := Aside0.mk A350
                  clear A350
                  have H' := Aside0.mk H
                  clear H
                  go_wp2_with (first | (go_at_call 45; (with_reducible refine (comp_Number.calls k2 _ _ l0 t439 _ ?side1 ?side2 A34.out).mono ?_); (case side1 => repeat (first | exact (Kd.C_below HR0.out HB.out) | (with_reducible refine Kd.C_alloc ?_ _) | (with_reducible refine Kd.C_drewN ?_ _) | (with_reducible refine Kd.C_drew ?_))); (case side2 => exact HC0.out); rintro e w36 ⟨v440, rfl, ho0, hb⟩; have n0_ := Aside0.mk (Kd.S_elder' (by (with_reducible repeat (first | apply Kd.S_alloc | apply Kd.S_drewN | apply Kd.S_drew)); exact HO_9.out) (Kd.R_base ho0) hb); have n1_ := Aside0.mk (Kd.R_lower ho0 (below_size (by repeat (first | (with_reducible first | exact HB.out | apply below_alloc | apply pw_below_drewN | apply below_drew1) | exact HB.out)))); have n2_ := Aside0.mk (below_step (by repeat (first | (with_reducible first | exact HB.out | apply below_alloc | apply pw_below_drewN | apply below_drew1) | exact HB.out)) hb); clear HO_9; clear HB; have HO_9 := n0_; have HO441 := n1_; have HB := n2_; clear n0_ n1_ n2_; (try clear hb); (try clear hb2); (try clear hk); (try clear hi); (try clear ho0); obtain ⟨Ao37, co37, eo37⟩ := Kd.S_slice HO_9.out; subst eo37) | (go_at_call 45; (with_reducible refine (comp_Number.calls k2 _ _ x9_2 t442 _ ?side1 ?side2 A35.out).mono ?_); (case side1 => repeat (first | exact (Kd.S_reads' HO_9.out).2.2 | (with_reducible refine Kd.C_alloc ?_ _) | (with_reducible refine Kd.C_drewN ?_ _) | (with_reducible refine Kd.C_drew ?_))); (case side2 => exact (Kd.S_reads' HO_9.out).2.1); rintro e w38 ⟨v443, rfl, ho0, hb⟩; have n0_ := Aside0.mk (Kd.S_elder' (by (with_reducible repeat (first | apply Kd.S_alloc | apply Kd.S_drewN | apply Kd.S_drew)); exact HO_9.out) (Kd.R_base ho0) hb); have n1_ := Aside0.mk (Kd.R_elder' (by (with_reducible repeat (first | apply Kd.R_alloc | apply Kd.R_drewN | apply Kd.R_drew)); exact HO441.out) (Kd.R_base ho0) hb); have n2_ := Aside0.mk (Kd.R_lower (Kd.R_new' ho0 (Kd.R_lt (by (with_reducible repeat (first | apply Kd.R_alloc | apply Kd.R_drewN | apply Kd.R_drew)); exact HO441.out))) (below_size (by repeat (first | (with_reducible first | exact HB.out | apply below_alloc | apply pw_below_drewN | apply below_drew1) | exact HB.out)))); have n3_ := Aside0.mk (below_step (by repeat (first | (with_reducible first | exact HB.out | apply below_alloc | apply pw_below_drewN | apply below_drew1) | exact HB.out)) hb); clear HO_9; clear HO441; clear HB; have HO_9 := n0_; have HO441 := n1_; have HO444 := n2_; have HB := n3_; clear n0_ n1_ n2_ n3_; (try clear hb); (try clear hb2); (try clear hk); (try clear hi); (try clear ho0)))
                  go_loopg [15] k2 (fun kq v15 w' => ∃ (x15_3 : Int), v15 = .int .i64 x15_3 ∧ Aside0 (runnellaw13_CompBack.l2 kq l0 a1 a2 x9_2 t439 t442 x15_3 = some r) ∧ Aside0 (kq ≤ k2) ∧ Aside0 (Kd.S (Kd.slice 3 (Kd.int .i64)) 53 w' w.heap.size (fun k_ => some k_ ≠ (v440 : Value).ownBlock ∧ some k_ ≠ (v443 : Value).ownBlock) (.slice Ao37 x9_2.length co37) x9_2) ∧ Aside0 (Kd.R (Kd.int .i64) 3 w' w.heap.size (fun k_ => some k_ ≠ (v443 : Value).ownBlock) v440 t439) ∧ Aside0 (Kd.R (Kd.int .i64) 3 w' w.heap.size (fun k_ => some k_ ≠ (v440 : Value).ownBlock) v443 t442) ∧ Aside0 (Below w.heap.size w w'))
                  case atStart => exact ⟨(0), (by first | rfl | (simp; done) | (simp [*]; done)), H', ⟨Nat.le_refl _⟩, ⟨by (with_reducible repeat (first | apply Kd.S_alloc | apply Kd.S_drewN | apply Kd.S_drew)); exact Kd.S_mono HO_9.out (fun _ hk => ⟨hk.1.2, hk.2⟩)⟩, ⟨by (with_reducible repeat (first | apply Kd.R_alloc | apply Kd.R_drewN | apply Kd.R_drew)); exact Kd.R_mono HO441.out (fun _ hk => hk.2)⟩, ⟨by (with_reducible repeat (first | apply Kd.R_alloc | apply Kd.R_drewN | apply Kd.R_drew)); exact Kd.R_mono HO444.out (fun _ hk => hk.2)⟩, ⟨by repeat (first | (with_reducible first | exact HB.out | apply below_alloc | apply pw_below_drewN | apply below_drew1) | exact HB.out)⟩⟩
                  case round =>
                    clear H'
                    try clear c1
                    try clear c2
                    try clear p2
                    try clear q2
                    try clear hx2
                    try clear c3
                    try clear hx3
                    try clear hf3
                    try clear c4
                    try clear p4
                    try clear q4
                    try clear hx4
                    try clear p6
                    try clear c8
                    try clear c9
                    try clear c10
                    try clear c10b0
                    try clear c10b1
                    try clear c11
                    try clear c11b0
                    try clear c11b1
                    try clear c13
                    try clear c14
                    try clear c14b0
                    try clear c15
                    try clear c15b0
                    try clear c16
                    try clear c16b0
                    try clear c17
                    try clear c17b0
                    try clear c18
                    try clear c18b0
                    try clear c20
                    try clear c20b0
                    try clear c21
                    try clear c22
                    try clear c22b0
                    try clear c23
                    try clear c23b0
                    try clear c24
                    try clear c25
                    try clear c26
                    try clear p26
                    try clear q26
                    try clear hx26
                    try clear hf26
                    try clear c32
                    try clear hx32
                    try clear hf32
                    try clear hx26_0
                    try clear hx32_0
                    try clear hx425_0
                    try clear hx426_0
                    try clear hx427_0
                    try clear hx431_0
                    try clear p2
                    try clear p26
                    try clear p4
                    try clear p425
                    try clear p426
                    try clear p427
                    try clear p431
                    try clear q26
                    try clear q4
                    try clear q425
                    try clear q426
                    try clear q427
                    try clear q431
                    obtain ⟨x15_3, rfl, HA, HK3, HO_9, HO_13, HO_14, HB⟩ := hrel
                    cases gk with
                    | zero => exact absurd HA.out (by simp [runnellaw13_CompBack.l2])
                    | succ k3 =>
                      have H := HA.out
                      clear HA
                      simp only [runnellaw13_CompBack.l2] at H
                      by_cases c39 : x15_3 < (l0.length : Int)
                      · rw [if_pos c39] at H
                        have c39b0 : decide (x15_3 < (l0.length : Int)) = true := decide_eq_true c39
                        clear c39
                        have H' := Aside0.mk H
                        clear H
                        go_wp2
                        repeat (go_quiet (fail); try go_wp2)
                        go_loopg [16] k3 (fun kq v16 w' => ∃ (x16_4 : Int), v16 = .int .i64 x16_4 ∧ Aside0 (runnellaw13_CompBack.l3 kq l0 a1 a2 x9_2 t439 t442 x15_3 x16_4 = some r) ∧ Aside0 (kq ≤ k3) ∧ Aside0 (Kd.S (Kd.slice 3 (Kd.int .i64)) 53 w' w.heap.size (fun k_ => some k_ ≠ (v440 : Value).ownBlock ∧ some k_ ≠ (v443 : Value).ownBlock) (.slice Ao37 x9_2.length co37) x9_2) ∧ Aside0 (Kd.R (Kd.int .i64) 3 w' w.heap.size (fun k_ => some k_ ≠ (v443 : Value).ownBlock) v440 t439) ∧ Aside0 (Kd.R (Kd.int .i64) 3 w' w.heap.size (fun k_ => some k_ ≠ (v440 : Value).ownBlock) v443 t442) ∧ Aside0 (Below w.heap.size w w'))
                        case atStart => exact ⟨(0), (by first | rfl | (simp; done) | (simp [*]; done)), H', ⟨Nat.le_refl _⟩, ⟨by (with_reducible repeat (first | apply Kd.S_alloc | apply Kd.S_drewN | apply Kd.S_drew)); exact HO_9.out⟩, ⟨by (with_reducible repeat (first | apply Kd.R_alloc | apply Kd.R_drewN | apply Kd.R_drew)); exact HO_13.out⟩, ⟨by (with_reducible repeat (first | apply Kd.R_alloc | apply Kd.R_drewN | apply Kd.R_drew)); exact HO_14.out⟩, ⟨by repeat (first | (with_reducible first | exact HB.out | apply below_alloc | apply pw_below_drewN | apply below_drew1) | exact HB.out)⟩⟩
                        case round =>
                          clear H'
                          try clear c1
                          try clear c2
                          try clear p2
                          try clear q2
                          try clear hx2
                          try clear c3
                          try clear hx3
                          try clear hf3
                          try clear c4
                          try clear p4
                          try clear q4
                          try clear hx4
                          try clear p6
                          try clear c8
                          try clear c9
                          try clear c10
                          try clear c10b0
                          try clear c10b1
                          try clear c11
                          try clear c11b0
                          try clear c11b1
                          try clear c13
                          try clear c14
                          try clear c14b0
                          try clear c15
                          try clear c15b0
                          try clear c16
                          try clear c16b0
                          try clear c17
                          try clear c17b0
                          try clear c18
                          try clear c18b0
                          try clear c20
                          try clear c20b0
                          try clear c21
                          try clear c22
                          try clear c22b0
                          try clear c23
                          try clear c23b0
                          try clear c24
                          try clear c25
                          try clear c26
                          try clear p26
                          try clear q26
                          try clear hx26
                          try clear hf26
                          try clear c32
                          try clear hx32
                          try clear hf32
                          try clear c39
                          try clear c39b0
                          try clear hx26_0
                          try clear hx32_0
                          try clear hx425_0
                          try clear hx426_0
                          try clear hx427_0
                          try clear hx431_0
                          try clear p2
                          try clear p26
                          try clear p4
                          try clear p425
                          try clear p426
                          try clear p427
                          try clear p431
                          try clear p6
                          try clear q2
                          try clear q26
                          try clear q4
                          try clear q425
                          try clear q426
                          try clear q427
                          try clear q431
                          obtain ⟨x16_4, rfl, HA, HK4, HO_9, HO_13, HO_14, HB⟩ := hrel
                          cases gk with
                          | zero => exact absurd HA.out (by simp [runnellaw13_CompBack.l3])
                          | succ k4 =>
                            have H := HA.out
                            clear HA
                            simp only [runnellaw13_CompBack.l3] at H
                            by_cases c40 : x16_4 < x15_3
                            · rw [if_pos c40] at H
                              have c40b0 : decide (x16_4 < x15_3) = true := decide_eq_true c40
                              clear c40
                              by_cases c41 : 0 ≤ x15_3
                              · rw [if_pos c41] at H
                                have c41b0 : decide (0 ≤ x15_3) = true := decide_eq_true c41
                                clear c41
                                by_cases c42 : x15_3 < (t439.length : Int)
                                · rw [if_pos c42] at H
                                  have c42b0 : decide (x15_3 < (t439.length : Int)) = true := decide_eq_true c42
                                  clear c42
                                  by_cases c43 : 0 ≤ x16_4
                                  · rw [if_pos c43] at H
                                    have c43b0 : decide (0 ≤ x16_4) = true := decide_eq_true c43
                                    clear c43
                                    by_cases c44 : x16_4 < (t439.length : Int)
                                    · rw [if_pos c44] at H
                                      have c44b0 : decide (x16_4 < (t439.length : Int)) = true := decide_eq_true c44
                                      clear c44
                                      by_cases c45 : x15_3 < (t442.length : Int)
                                      · rw [if_pos c45] at H
                                        have c45b0 : decide (x15_3 < (t442.length : Int)) = true := decide_eq_true c45
                                        clear c45
                                        by_cases c46 : x16_4 < (t442.length : Int)
                                        · rw [if_pos c46] at H
                                          have c46b0 : decide (x16_4 < (t442.length : Int)) = true := decide_eq_true c46
                                          clear c46
                                          by_cases c47 : (((rd t439 x15_3) == (rd t439 x16_4)) != ((rd t442 x15_3) == (rd t442 x16_4))) = true
                                          · rw [if_pos c47] at H
                                            have c47b0 : (((rd t439 x15_3) == (rd t439 x16_4)) != ((rd t442 x15_3) == (rd t442 x16_4))) = true := c47
                                            (try (have c47b1 : decide (((rd t439 x15_3) == (rd t439 x16_4)) = ((rd t442 x15_3) == (rd t442 x16_4))) = false := by simpa using c47))
                                            (try (have c47b2 : (((rd t439 x15_3) == (rd t439 x16_4)) == ((rd t442 x15_3) == (rd t442 x16_4))) = false := by simpa using c47))
                                            (try (have c47b3 : ¬ (((rd t439 x15_3) == (rd t439 x16_4)) = ((rd t442 x15_3) == (rd t442 x16_4))) := by simpa using c47))
                                            clear c47
                                            obtain rfl := Option.some.inj H
                                            obtain ⟨Ao48, co48, eo48⟩ := Kd.R_slice HO_13.out
                                            subst eo48
                                            have p445 : 0 ≤ (x15_3 : Int) := of_decide_eq_true (by first | (with_reducible assumption) | assumption)
                                            have q445 : x15_3 < (t439.length : Int) := of_decide_eq_true (by first | (with_reducible assumption) | assumption)
                                            obtain ⟨ad445, e445, hx445_0⟩ := Kd.at_int (Kd.R_reads' HO_13.out).2.2 x15_3 p445 q445
                                            cases e445
                                            replace p445 := eq_true p445
                                            replace q445 := eq_true q445
                                            have p446 : 0 ≤ (x16_4 : Int) := of_decide_eq_true (by first | (with_reducible assumption) | assumption)
                                            have q446 : x16_4 < (t439.length : Int) := of_decide_eq_true (by first | (with_reducible assumption) | assumption)
                                            obtain ⟨ad446, e446, hx446_0⟩ := Kd.at_int (Kd.R_reads' HO_13.out).2.2 x16_4 p446 q446
                                            obtain rfl : ad445 = ad446 := (by injection e446)
                                            replace p446 := eq_true p446
                                            replace q446 := eq_true q446
                                            obtain ⟨Ao49, co49, eo49⟩ := Kd.R_slice HO_14.out
                                            subst eo49
                                            have p447 : 0 ≤ (x15_3 : Int) := of_decide_eq_true (by first | (with_reducible assumption) | assumption)
                                            have q447 : x15_3 < (t442.length : Int) := of_decide_eq_true (by first | (with_reducible assumption) | assumption)
                                            obtain ⟨ad447, e447, hx447_0⟩ := Kd.at_int (Kd.R_reads' HO_14.out).2.2 x15_3 p447 q447
                                            cases e447
                                            replace p447 := eq_true p447
                                            replace q447 := eq_true q447
                                            have p448 : 0 ≤ (x16_4 : Int) := of_decide_eq_true (by first | (with_reducible assumption) | assumption)
                                            have q448 : x16_4 < (t442.length : Int) := of_decide_eq_true (by first | (with_reducible assumption) | assumption)
                                            obtain ⟨ad448, e448, hx448_0⟩ := Kd.at_int (Kd.R_reads' HO_14.out).2.2 x16_4 p448 q448
                                            obtain rfl : ad447 = ad448 := (by injection e448)
                                            replace p448 := eq_true p448
                                            replace q448 := eq_true q448
                                            go_wp2
                                            repeat (go_quiet (fail); try go_wp2)
                                            go_ret
                                            exact ⟨by first | rfl | (simp [errW_none, errW_some] <;> rfl) | (simp [*, errW_none, errW_some] <;> rfl), by repeat (first | (with_reducible first | exact HB.out | apply below_alloc | apply pw_below_drewN | apply below_drew1) | exact HB.out)⟩
                                          · rw [if_neg c47] at H
                                            have c47b0 : (((rd t439 x15_3) == (rd t439 x16_4)) != ((rd t442 x15_3) == (rd t442 x16_4))) = false := by simpa using c47
                                            (try (have c47b1 : decide (((rd t439 x15_3) == (rd t439 x16_4)) = ((rd t442 x15_3) == (rd t442 x16_4))) = true := by simpa using c47))
                                            (try (have c47b2 : (((rd t439 x15_3) == (rd t439 x16_4)) == ((rd t442 x15_3) == (rd t442 x16_4))) = true := by simpa using c47))
                                            clear c47
                                            have H' := Aside0.mk H
                                            clear H
                                            obtain ⟨Ao50, co50, eo50⟩ := Kd.R_slice HO_13.out
                                            subst eo50
                                            have p445 : 0 ≤ (x15_3 : Int) := of_decide_eq_true (by first | (with_reducible assumption) | assumption)
                                            have q445 : x15_3 < (t439.length : Int) := of_decide_eq_true (by first | (with_reducible assumption) | assumption)
                                            obtain ⟨ad445, e445, hx445_0⟩ := Kd.at_int (Kd.R_reads' HO_13.out).2.2 x15_3 p445 q445
                                            cases e445
                                            replace p445 := eq_true p445
                                            replace q445 := eq_true q445
                                            have p446 : 0 ≤ (x16_4 : Int) := of_decide_eq_true (by first | (with_reducible assumption) | assumption)
                                            have q446 : x16_4 < (t439.length : Int) := of_decide_eq_true (by first | (with_reducible assumption) | assumption)
                                            obtain ⟨ad446, e446, hx446_0⟩ := Kd.at_int (Kd.R_reads' HO_13.out).2.2 x16_4 p446 q446
                                            obtain rfl : ad445 = ad446 := (by injection e446)
                                            replace p446 := eq_true p446
                                            replace q446 := eq_true q446
                                            obtain ⟨Ao51, co51, eo51⟩ := Kd.R_slice HO_14.out
                                            subst eo51
                                            have p447 : 0 ≤ (x15_3 : Int) := of_decide_eq_true (by first | (with_reducible assumption) | assumption)
                                            have q447 : x15_3 < (t442.length : Int) := of_decide_eq_true (by first | (with_reducible assumption) | assumption)
                                            obtain ⟨ad447, e447, hx447_0⟩ := Kd.at_int (Kd.R_reads' HO_14.out).2.2 x15_3 p447 q447
                                            cases e447
                                            replace p447 := eq_true p447
                                            replace q447 := eq_true q447
                                            have p448 : 0 ≤ (x16_4 : Int) := of_decide_eq_true (by first | (with_reducible assumption) | assumption)
                                            have q448 : x16_4 < (t442.length : Int) := of_decide_eq_true (by first | (with_reducible assumption) | assumption)
                                            obtain ⟨ad448, e448, hx448_0⟩ := Kd.at_int (Kd.R_reads' HO_14.out).2.2 x16_4 p448 q448
                                            obtain rfl : ad447 = ad448 := (by injection e448)
                                            replace p448 := eq_true p448
                                            replace q448 := eq_true q448
                                            go_wp2
                                            repeat (go_quiet (fail); try go_wp2)
                                            go_roundg k4
                                            case measure => have := HJ5.out; have := HK2.out; have := HK3.out; have := HK4.out; omega
                                            case rel => exact ⟨(wrap64 (x16_4 + 1)), (by first | rfl | (simp; done) | (simp [*]; done)), H', ⟨by have := HJ5.out; have := HK2.out; have := HK3.out; have := HK4.out; omega⟩, ⟨by (with_reducible repeat (first | apply Kd.S_alloc | apply Kd.S_drewN | apply Kd.S_drew)); exact HO_9.out⟩, ⟨by (with_reducible repeat (first | apply Kd.R_alloc | apply Kd.R_drewN | apply Kd.R_drew)); exact HO_13.out⟩, ⟨by (with_reducible repeat (first | apply Kd.R_alloc | apply Kd.R_drewN | apply Kd.R_drew)); exact HO_14.out⟩, ⟨by repeat (first | (with_reducible first | exact HB.out | apply below_alloc | apply pw_below_drewN | apply below_drew1) | exact HB.out)⟩⟩
                                        · rw [if_neg c46] at H
                                          exact absurd H (by simp)
                                      · rw [if_neg c45] at H
                                        exact absurd H (by simp)
                                    · rw [if_neg c44] at H
                                      exact absurd H (by simp)
                                  · rw [if_neg c43] at H
                                    exact absurd H (by simp)
                                · rw [if_neg c42] at H
                                  exact absurd H (by simp)
                              · rw [if_neg c41] at H
                                exact absurd H (by simp)
                            · rw [if_neg c40] at H
                              have c40b0 : decide (x16_4 < x15_3) = false := decide_eq_false c40
                              clear c40
                              have H' := Aside0.mk H
                              clear H
                              go_wp2
                              repeat (go_quiet (fail); try go_wp2)
                              go_roundg k4
                              case measure => have := HJ5.out; have := HK2.out; have := HK3.out; have := HK4.out; omega
                              case rel => exact ⟨(wrap64 (x15_3 + 1)), (by first | rfl | (simp; done) | (simp [*]; done)), H', ⟨by have := HJ5.out; have := HK2.out; have := HK3.out; have := HK4.out; omega⟩, ⟨by (with_reducible repeat (first | apply Kd.S_alloc | apply Kd.S_drewN | apply Kd.S_drew)); exact HO_9.out⟩, ⟨by (with_reducible repeat (first | apply Kd.R_alloc | apply Kd.R_drewN | apply Kd.R_drew)); exact HO_13.out⟩, ⟨by (with_reducible repeat (first | apply Kd.R_alloc | apply Kd.R_drewN | apply Kd.R_drew)); exact HO_14.out⟩, ⟨by repeat (first | (with_reducible first | exact HB.out | apply below_alloc | apply pw_below_drewN | apply below_drew1) | exact HB.out)⟩⟩
                      · rw [if_neg c39] at H
                        have c39b0 : decide (x15_3 < (l0.length : Int)) = false := decide_eq_false c39
                        clear c39
                        replace H := Option.bind_eq_some_iff.mp H
                        obtain ⟨t449, A520, H⟩ := H
                        replace H : ((comp_Both.f k3 x9_2 a1 a2).bind fun t450 => (if (t449 == t450) = true then ((comp_Reach.f k3 l0 a1).bind fun t451 => ((runnellaw13_among.f k3 t451 a2).bind fun t454 => ((comp_Reach.f k3 x9_2 a2).bind fun t455 => ((runnellaw13_among.f k3 t455 a1).bind fun t458 => (if (t454 == t458) = true then ((comp_Cyclic.f k3 l0 a1).bind fun t459 => ((comp_Cyclic.f k3 x9_2 a1).bind fun t460 => (some (t459 == t460)))) else (some false)))))) else (some false))) = some r := H
                        have A52 := Aside0.mk A520
                        clear A520
                        replace H := Option.bind_eq_some_iff.mp H
                        obtain ⟨t450, A530, H⟩ := H
                        replace H : (if (t449 == t450) = true then ((comp_Reach.f k3 l0 a1).bind fun t451 => ((runnellaw13_among.f k3 t451 a2).bind fun t454 => ((comp_Reach.f k3 x9_2 a2).bind fun t455 => ((runnellaw13_among.f k3 t455 a1).bind fun t458 => (if (t454 == t458) = true then ((comp_Cyclic.f k3 l0 a1).bind fun t459 => ((comp_Cyclic.f k3 x9_2 a1).bind fun t460 => (some (t459 == t460)))) else (some false)))))) else (some false)) = some r := H
                        have A53 := Aside0.mk A530
                        clear A530
                        by_cases c54 : (t449 == t450) = true
                        · rw [if_pos c54] at H
                          have c54b0 : (t449 == t450) = true := c54
                          (try (have c54b1 : decide (t449 = t450) = true := by simpa using c54))
                          (try (have c54b2 : (t449 == t450) = true := by simpa using c54))
                          clear c54
                          replace H := Option.bind_eq_some_iff.mp H
                          obtain ⟨t451, A550, H⟩ := H
                          replace H : ((runnellaw13_among.f k3 t451 a2).bind fun t454 => ((comp_Reach.f k3 x9_2 a2).bind fun t455 => ((runnellaw13_among.f k3 t455 a1).bind fun t458 => (if (t454 == t458) = true then ((comp_Cyclic.f k3 l0 a1).bind fun t459 => ((comp_Cyclic.f k3 x9_2 a1).bind fun t460 => (some (t459 == t460)))) else (some false))))) = some r := H
                          have A55 := Aside0.mk A550
                          clear A550
                          replace H := Option.bind_eq_some_iff.mp H
                          obtain ⟨t454, A560, H⟩ := H
                          replace H : ((comp_Reach.f k3 x9_2 a2).bind fun t455 => ((runnellaw13_among.f k3 t455 a1).bind fun t458 => (if (t454 == t458) = true then ((comp_Cyclic.f k3 l0 a1).bind fun t459 => ((comp_Cyclic.f k3 x9_2 a1).bind fun t460 => (some (t459 == t460)))) else (some false)))) = some r := H
                          have A56 := Aside0.mk A560
                          clear A560
                          replace H := Option.bind_eq_some_iff.mp H
                          obtain ⟨t455, A570, H⟩ := H
                          replace H : ((runnellaw13_among.f k3 t455 a1).bind fun t458 => (if (t454 == t458) = true then ((comp_Cyclic.f k3 l0 a1).bind fun t459 => ((comp_Cyclic.f k3 x9_2 a1).bind fun t460 => (some (t459 == t460)))) else (some false))) = some r := H
                          have A57 := Aside0.mk A570
                          clear A570
                          replace H := Option.bind_eq_some_iff.mp H
                          obtain ⟨t458, A580, H⟩ := H
                          replace H : (if (t454 == t458) = true then ((comp_Cyclic.f k3 l0 a1).bind fun t459 => ((comp_Cyclic.f k3 x9_2 a1).bind fun t460 => (some (t459 == t460)))) else (some false)) = some r := H
                          have A58 := Aside0.mk A580
                          clear A580
                          by_cases c59 : (t454 == t458) = true
                          · rw [if_pos c59] at H
                            have c59b0 : (t454 == t458) = true := c59
                            (try (have c59b1 : decide (t454 = t458) = true := by simpa using c59))
                            (try (have c59b2 : (t454 == t458) = true := by simpa using c59))
                            clear c59
                            replace H := Option.bind_eq_some_iff.mp H
                            obtain ⟨t459, A600, H⟩ := H
                            replace H : ((comp_Cyclic.f k3 x9_2 a1).bind fun t460 => (some (t459 == t460))) = some r := H
                            have A60 := Aside0.mk A600
                            clear A600
                            replace H := Option.bind_eq_some_iff.mp H
                            obtain ⟨t460, A610, H⟩ := H
                            replace H : (some (t459 == t460)) = some r := H
                            have A61 := Aside0.mk A610
                            clear A610
                            obtain rfl := Option.some.inj H
                            go_wp2_with (first | (go_at_call 51; (with_reducible refine (comp_Both.calls k3 _ _ l0 a1 a2 t449 _ ?side1 ?side2 A52.out).mono ?_); (case side1 => repeat (first | exact (Kd.C_below HR0.out HB.out) | (with_reducible refine Kd.C_alloc ?_ _) | (with_reducible refine Kd.C_drewN ?_ _) | (with_reducible refine Kd.C_drew ?_))); (case side2 => exact HC0.out); rintro e w62 ⟨rfl, hb⟩; have n0_ := Aside0.mk (Kd.S_below (by (with_reducible repeat (first | apply Kd.S_alloc | apply Kd.S_drewN | apply Kd.S_drew)); exact HO_9.out) hb); have n1_ := Aside0.mk (Kd.R_below (by (with_reducible repeat (first | apply Kd.R_alloc | apply Kd.R_drewN | apply Kd.R_drew)); exact HO_13.out) hb); have n2_ := Aside0.mk (Kd.R_below (by (with_reducible repeat (first | apply Kd.R_alloc | apply Kd.R_drewN | apply Kd.R_drew)); exact HO_14.out) hb); have n3_ := Aside0.mk (below_step (by repeat (first | (with_reducible first | exact HB.out | apply below_alloc | apply pw_below_drewN | apply below_drew1) | exact HB.out)) hb); clear HO_9; clear HO_13; clear HO_14; clear HB; have HO_9 := n0_; have HO_13 := n1_; have HO_14 := n2_; have HB := n3_; clear n0_ n1_ n2_ n3_; (try clear hb); (try clear hb2); (try clear hk); (try clear hi)) | (go_at_call 51; (with_reducible refine (comp_Both.calls k3 _ _ x9_2 a1 a2 t450 _ ?side1 ?side2 A53.out).mono ?_); (case side1 => repeat (first | exact (Kd.S_reads' HO_9.out).2.2 | (with_reducible refine Kd.C_alloc ?_ _) | (with_reducible refine Kd.C_drewN ?_ _) | (with_reducible refine Kd.C_drew ?_))); (case side2 => exact (Kd.S_reads' HO_9.out).2.1); rintro e w63 ⟨rfl, hb⟩; have n0_ := Aside0.mk (Kd.S_below (by (with_reducible repeat (first | apply Kd.S_alloc | apply Kd.S_drewN | apply Kd.S_drew)); exact HO_9.out) hb); have n1_ := Aside0.mk (Kd.R_below (by (with_reducible repeat (first | apply Kd.R_alloc | apply Kd.R_drewN | apply Kd.R_drew)); exact HO_13.out) hb); have n2_ := Aside0.mk (Kd.R_below (by (with_reducible repeat (first | apply Kd.R_alloc | apply Kd.R_drewN | apply Kd.R_drew)); exact HO_14.out) hb); have n3_ := Aside0.mk (below_step (by repeat (first | (with_reducible first | exact HB.out | apply below_alloc | apply pw_below_drewN | apply below_drew1) | exact HB.out)) hb); clear HO_9; clear HO_13; clear HO_14; clear HB; have HO_9 := n0_; have HO_13 := n1_; have HO_14 := n2_; have HB := n3_; clear n0_ n1_ n2_ n3_; (try clear hb); (try clear hb2); (try clear hk); (try clear hi)) | (go_at_call 52; (with_reducible refine (comp_Reach.calls k3 _ _ l0 a1 t451 _ ?side1 ?side2 A55.out).mono ?_); (case side1 => repeat (first | exact (Kd.C_below HR0.out HB.out) | (with_reducible refine Kd.C_alloc ?_ _) | (with_reducible refine Kd.C_drewN ?_ _) | (with_reducible refine Kd.C_drew ?_))); (case side2 => exact HC0.out); rintro e w64 ⟨v452, rfl, ho0, hb⟩; have n0_ := Aside0.mk (Kd.S_elder' (by (with_reducible repeat (first | apply Kd.S_alloc | apply Kd.S_drewN | apply Kd.S_drew)); exact HO_9.out) (Kd.R_base ho0) hb); have n1_ := Aside0.mk (Kd.R_elder' (by (with_reducible repeat (first | apply Kd.R_alloc | apply Kd.R_drewN | apply Kd.R_drew)); exact HO_13.out) (Kd.R_base ho0) hb); have n2_ := Aside0.mk (Kd.R_elder' (by (with_reducible repeat (first | apply Kd.R_alloc | apply Kd.R_drewN | apply Kd.R_drew)); exact HO_14.out) (Kd.R_base ho0) hb); have n3_ := Aside0.mk (Kd.R_lower (Kd.R_new' (Kd.R_new' ho0 (Kd.R_lt (by (with_reducible repeat (first | apply Kd.R_alloc | apply Kd.R_drewN | apply Kd.R_drew)); exact HO_13.out))) (Kd.R_lt (by (with_reducible repeat (first | apply Kd.R_alloc | apply Kd.R_drewN | apply Kd.R_drew)); exact HO_14.out))) (below_size (by repeat (first | (with_reducible first | exact HB.out | apply below_alloc | apply pw_below_drewN | apply below_drew1) | exact HB.out)))); have n4_ := Aside0.mk (below_step (by repeat (first | (with_reducible first | exact HB.out | apply below_alloc | apply pw_below_drewN | apply below_drew1) | exact HB.out)) hb); clear HO_9; clear HO_13; clear HO_14; clear HB; have HO_9 := n0_; have HO_13 := n1_; have HO_14 := n2_; have HO453 := n3_; have HB := n4_; clear n0_ n1_ n2_ n3_ n4_; (try clear hb); (try clear hb2); (try clear hk); (try clear hi); (try clear ho0); obtain ⟨Ao65, co65, eo65⟩ := Kd.R_slice HO453.out; subst eo65) | (go_at_call 50; (with_reducible refine (runnellaw13_among.calls k3 _ _ t451 a2 t454 _ ?side1 ?side2 A56.out).mono ?_); (case side1 => repeat (first | exact (Kd.R_reads' HO453.out).2.2 | (with_reducible refine Kd.C_alloc ?_ _) | (with_reducible refine Kd.C_drewN ?_ _) | (with_reducible refine Kd.C_drew ?_))); (case side2 => exact (Kd.R_reads' HO453.out).2.1); rintro e w' ⟨rfl, ⟨nd, rfl⟩⟩; (try first | exact ⟨rfl, _, World.drewN_drewN _ _ _⟩ | exact ⟨rfl, _, Eq.trans (World.drewN_drewN _ _ _) (congrArg (World.drewN _) (Nat.add_assoc _ _ _))⟩)) | (go_at_call 52; (with_reducible refine (comp_Reach.calls k3 _ _ x9_2 a2 t455 _ ?side1 ?side2 A57.out).mono ?_); (case side1 => repeat (first | exact (Kd.S_reads' HO_9.out).2.2 | (with_reducible refine Kd.C_alloc ?_ _) | (with_reducible refine Kd.C_drewN ?_ _) | (with_reducible refine Kd.C_drew ?_))); (case side2 => exact (Kd.S_reads' HO_9.out).2.1); rintro e w66 ⟨v456, rfl, ho0, hb⟩; have n0_ := Aside0.mk (Kd.S_elder' (by (with_reducible repeat (first | apply Kd.S_alloc | apply Kd.S_drewN | apply Kd.S_drew)); exact HO_9.out) (Kd.R_base ho0) hb); have n1_ := Aside0.mk (Kd.R_elder' (by (with_reducible repeat (first | apply Kd.R_alloc | apply Kd.R_drewN | apply Kd.R_drew)); exact HO_13.out) (Kd.R_base ho0) hb); have n2_ := Aside0.mk (Kd.R_elder' (by (with_reducible repeat (first | apply Kd.R_alloc | apply Kd.R_drewN | apply Kd.R_drew)); exact HO_14.out) (Kd.R_base ho0) hb); have n3_ := Aside0.mk (Kd.R_elder' (by (with_reducible repeat (first | apply Kd.R_alloc | apply Kd.R_drewN | apply Kd.R_drew)); exact HO453.out) (Kd.R_base ho0) hb); have n4_ := Aside0.mk (Kd.R_lower (Kd.R_new' (Kd.R_new' (Kd.R_new' ho0 (Kd.R_lt (by (with_reducible repeat (first | apply Kd.R_alloc | apply Kd.R_drewN | apply Kd.R_drew)); exact HO_13.out))) (Kd.R_lt (by (with_reducible repeat (first | apply Kd.R_alloc | apply Kd.R_drewN | apply Kd.R_drew)); exact HO_14.out))) (Kd.R_lt (by (with_reducible repeat (first | apply Kd.R_alloc | apply Kd.R_drewN | apply Kd.R_drew)); exact HO453.out))) (below_size (by repeat (first | (with_reducible first | exact HB.out | apply below_alloc | apply pw_below_drewN | apply below_drew1) | exact HB.out)))); have n5_ := Aside0.mk (below_step (by repeat (first | (with_reducible first | exact HB.out | apply below_alloc | apply pw_below_drewN | apply below_drew1) | exact HB.out)) hb); clear HO_9; clear HO_13; clear HO_14; clear HO453; clear HB; have HO_9 := n0_; have HO_13 := n1_; have HO_14 := n2_; have HO453 := n3_; have HO457 := n4_; have HB := n5_; clear n0_ n1_ n2_ n3_ n4_ n5_; (try clear hb); (try clear hb2); (try clear hk); (try clear hi); (try clear ho0); obtain ⟨Ao67, co67, eo67⟩ := Kd.R_slice HO457.out; subst eo67) | (go_at_call 50; (with_reducible refine (runnellaw13_among.calls k3 _ _ t455 a1 t458 _ ?side1 ?side2 A58.out).mono ?_); (case side1 => repeat (first | exact (Kd.R_reads' HO457.out).2.2 | (with_reducible refine Kd.C_alloc ?_ _) | (with_reducible refine Kd.C_drewN ?_ _) | (with_reducible refine Kd.C_drew ?_))); (case side2 => exact (Kd.R_reads' HO457.out).2.1); rintro e w' ⟨rfl, ⟨nd, rfl⟩⟩; (try first | exact ⟨rfl, _, World.drewN_drewN _ _ _⟩ | exact ⟨rfl, _, Eq.trans (World.drewN_drewN _ _ _) (congrArg (World.drewN _) (Nat.add_assoc _ _ _))⟩)) | (go_at_call 49; (with_reducible refine (comp_Cyclic.calls k3 _ _ l0 a1 t459 _ ?side1 ?side2 A60.out).mono ?_); (case side1 => repeat (first | exact (Kd.C_below HR0.out (by repeat (first | (with_reducible first | exact HB.out | apply below_alloc | apply pw_below_drewN | apply below_drew1) | exact HB.out))) | (with_reducible refine Kd.C_alloc ?_ _) | (with_reducible refine Kd.C_drewN ?_ _) | (with_reducible refine Kd.C_drew ?_))); (case side2 => exact HC0.out); rintro e w68 ⟨rfl, hb⟩; have n0_ := Aside0.mk (Kd.S_below (by (with_reducible repeat (first | apply Kd.S_alloc | apply Kd.S_drewN | apply Kd.S_drew)); exact HO_9.out) hb); have n1_ := Aside0.mk (Kd.R_below (by (with_reducible repeat (first | apply Kd.R_alloc | apply Kd.R_drewN | apply Kd.R_drew)); exact HO_13.out) hb); have n2_ := Aside0.mk (Kd.R_below (by (with_reducible repeat (first | apply Kd.R_alloc | apply Kd.R_drewN | apply Kd.R_drew)); exact HO_14.out) hb); have n3_ := Aside0.mk (Kd.R_below (by (with_reducible repeat (first | apply Kd.R_alloc | apply Kd.R_drewN | apply Kd.R_drew)); exact HO453.out) hb); have n4_ := Aside0.mk (Kd.R_below (by (with_reducible repeat (first | apply Kd.R_alloc | apply Kd.R_drewN | apply Kd.R_drew)); exact HO457.out) hb); have n5_ := Aside0.mk (below_step (by repeat (first | (with_reducible first | exact HB.out | apply below_alloc | apply pw_below_drewN | apply below_drew1) | exact HB.out)) hb); clear HO_9; clear HO_13; clear HO_14; clear HO453; clear HO457; clear HB; have HO_9 := n0_; have HO_13 := n1_; have HO_14 := n2_; have HO453 := n3_; have HO457 := n4_; have HB := n5_; clear n0_ n1_ n2_ n3_ n4_ n5_; (try clear hb); (try clear hb2); (try clear hk); (try clear hi)) | (go_at_call 49; (with_reducible refine (comp_Cyclic.calls k3 _ _ x9_2 a1 t460 _ ?side1 ?side2 A61.out).mono ?_); (case side1 => repeat (first | exact (Kd.S_reads' HO_9.out).2.2 | (with_reducible refine Kd.C_alloc ?_ _) | (with_reducible refine Kd.C_drewN ?_ _) | (with_reducible refine Kd.C_drew ?_))); (case side2 => exact (Kd.S_reads' HO_9.out).2.1); rintro e w69 ⟨rfl, hb⟩; have n0_ := Aside0.mk (Kd.S_below (by (with_reducible repeat (first | apply Kd.S_alloc | apply Kd.S_drewN | apply Kd.S_drew)); exact HO_9.out) hb); have n1_ := Aside0.mk (Kd.R_below (by (with_reducible repeat (first | apply Kd.R_alloc | apply Kd.R_drewN | apply Kd.R_drew)); exact HO_13.out) hb); have n2_ := Aside0.mk (Kd.R_below (by (with_reducible repeat (first | apply Kd.R_alloc | apply Kd.R_drewN | apply Kd.R_drew)); exact HO_14.out) hb); have n3_ := Aside0.mk (Kd.R_below (by (with_reducible repeat (first | apply Kd.R_alloc | apply Kd.R_drewN | apply Kd.R_drew)); exact HO453.out) hb); have n4_ := Aside0.mk (Kd.R_below (by (with_reducible repeat (first | apply Kd.R_alloc | apply Kd.R_drewN | apply Kd.R_drew)); exact HO457.out) hb); have n5_ := Aside0.mk (below_step (by repeat (first | (with_reducible first | exact HB.out | apply below_alloc | apply pw_below_drewN | apply below_drew1) | exact HB.out)) hb); clear HO_9; clear HO_13; clear HO_14; clear HO453; clear HO457; clear HB; have HO_9 := n0_; have HO_13 := n1_; have HO_14 := n2_; have HO453 := n3_; have HO457 := n4_; have HB := n5_; clear n0_ n1_ n2_ n3_ n4_ n5_; (try clear hb); (try clear hb2); (try clear hk); (try clear hi)))
                            go_ret
                            exact ⟨by first | rfl | (simp [errW_none, errW_some] <;> rfl) | (simp [*, errW_none, errW_some] <;> rfl), by repeat (first | (with_reducible first | exact HB.out | apply below_alloc | apply pw_below_drewN | apply below_drew1) | exact HB.out)⟩
                          · rw [if_neg c59] at H
                            have c59b0 : (t454 == t458) = false := by simpa using c59
                            (try (have c59b1 : decide (t454 = t458) = false := by simpa using c59))
                            (try (have c59b2 : (t454 == t458) = false := by simpa using c59))
                            (try (have c59b3 : ¬ (t454 = t458) := by simpa using c59))
                            clear c59
                            obtain rfl := Option.some.inj H
                            go_wp2_with (first | (go_at_call 51; (with_reducible refine (comp_Both.calls k3 _ _ l0 a1 a2 t449 _ ?side1 ?side2 A52.out).mono ?_); (case side1 => repeat (first | exact (Kd.C_below HR0.out HB.out) | (with_reducible refine Kd.C_alloc ?_ _) | (with_reducible refine Kd.C_drewN ?_ _) | (with_reducible refine Kd.C_drew ?_))); (case side2 => exact HC0.out); rintro e w70 ⟨rfl, hb⟩; have n0_ := Aside0.mk (Kd.S_below (by (with_reducible repeat (first | apply Kd.S_alloc | apply Kd.S_drewN | apply Kd.S_drew)); exact HO_9.out) hb); have n1_ := Aside0.mk (Kd.R_below (by (with_reducible repeat (first | apply Kd.R_alloc | apply Kd.R_drewN | apply Kd.R_drew)); exact HO_13.out) hb); have n2_ := Aside0.mk (Kd.R_below (by (with_reducible repeat (first | apply Kd.R_alloc | apply Kd.R_drewN | apply Kd.R_drew)); exact HO_14.out) hb); have n3_ := Aside0.mk (below_step (by repeat (first | (with_reducible first | exact HB.out | apply below_alloc | apply pw_below_drewN | apply below_drew1) | exact HB.out)) hb); clear HO_9; clear HO_13; clear HO_14; clear HB; have HO_9 := n0_; have HO_13 := n1_; have HO_14 := n2_; have HB := n3_; clear n0_ n1_ n2_ n3_; (try clear hb); (try clear hb2); (try clear hk); (try clear hi)) | (go_at_call 51; (with_reducible refine (comp_Both.calls k3 _ _ x9_2 a1 a2 t450 _ ?side1 ?side2 A53.out).mono ?_); (case side1 => repeat (first | exact (Kd.S_reads' HO_9.out).2.2 | (with_reducible refine Kd.C_alloc ?_ _) | (with_reducible refine Kd.C_drewN ?_ _) | (with_reducible refine Kd.C_drew ?_))); (case side2 => exact (Kd.S_reads' HO_9.out).2.1); rintro e w71 ⟨rfl, hb⟩; have n0_ := Aside0.mk (Kd.S_below (by (with_reducible repeat (first | apply Kd.S_alloc | apply Kd.S_drewN | apply Kd.S_drew)); exact HO_9.out) hb); have n1_ := Aside0.mk (Kd.R_below (by (with_reducible repeat (first | apply Kd.R_alloc | apply Kd.R_drewN | apply Kd.R_drew)); exact HO_13.out) hb); have n2_ := Aside0.mk (Kd.R_below (by (with_reducible repeat (first | apply Kd.R_alloc | apply Kd.R_drewN | apply Kd.R_drew)); exact HO_14.out) hb); have n3_ := Aside0.mk (below_step (by repeat (first | (with_reducible first | exact HB.out | apply below_alloc | apply pw_below_drewN | apply below_drew1) | exact HB.out)) hb); clear HO_9; clear HO_13; clear HO_14; clear HB; have HO_9 := n0_; have HO_13 := n1_; have HO_14 := n2_; have HB := n3_; clear n0_ n1_ n2_ n3_; (try clear hb); (try clear hb2); (try clear hk); (try clear hi)) | (go_at_call 52; (with_reducible refine (comp_Reach.calls k3 _ _ l0 a1 t451 _ ?side1 ?side2 A55.out).mono ?_); (case side1 => repeat (first | exact (Kd.C_below HR0.out HB.out) | (with_reducible refine Kd.C_alloc ?_ _) | (with_reducible refine Kd.C_drewN ?_ _) | (with_reducible refine Kd.C_drew ?_))); (case side2 => exact HC0.out); rintro e w72 ⟨v452, rfl, ho0, hb⟩; have n0_ := Aside0.mk (Kd.S_elder' (by (with_reducible repeat (first | apply Kd.S_alloc | apply Kd.S_drewN | apply Kd.S_drew)); exact HO_9.out) (Kd.R_base ho0) hb); have n1_ := Aside0.mk (Kd.R_elder' (by (with_reducible repeat (first | apply Kd.R_alloc | apply Kd.R_drewN | apply Kd.R_drew)); exact HO_13.out) (Kd.R_base ho0) hb); have n2_ := Aside0.mk (Kd.R_elder' (by (with_reducible repeat (first | apply Kd.R_alloc | apply Kd.R_drewN | apply Kd.R_drew)); exact HO_14.out) (Kd.R_base ho0) hb); have n3_ := Aside0.mk (Kd.R_lower (Kd.R_new' (Kd.R_new' ho0 (Kd.R_lt (by (with_reducible repeat (first | apply Kd.R_alloc | apply Kd.R_drewN | apply Kd.R_drew)); exact HO_13.out))) (Kd.R_lt (by (with_reducible repeat (first | apply Kd.R_alloc | apply Kd.R_drewN | apply Kd.R_drew)); exact HO_14.out))) (below_size (by repeat (first | (with_reducible first | exact HB.out | apply below_alloc | apply pw_below_drewN | apply below_drew1) | exact HB.out)))); have n4_ := Aside0.mk (below_step (by repeat (first | (with_reducible first | exact HB.out | apply below_alloc | apply pw_below_drewN | apply below_drew1) | exact HB.out)) hb); clear HO_9; clear HO_13; clear HO_14; clear HB; have HO_9 := n0_; have HO_13 := n1_; have HO_14 := n2_; have HO453 := n3_; have HB := n4_; clear n0_ n1_ n2_ n3_ n4_; (try clear hb); (try clear hb2); (try clear hk); (try clear hi); (try clear ho0); obtain ⟨Ao73, co73, eo73⟩ := Kd.R_slice HO453.out; subst eo73) | (go_at_call 50; (with_reducible refine (runnellaw13_among.calls k3 _ _ t451 a2 t454 _ ?side1 ?side2 A56.out).mono ?_); (case side1 => repeat (first | exact (Kd.R_reads' HO453.out).2.2 | (with_reducible refine Kd.C_alloc ?_ _) | (with_reducible refine Kd.C_drewN ?_ _) | (with_reducible refine Kd.C_drew ?_))); (case side2 => exact (Kd.R_reads' HO453.out).2.1); rintro e w' ⟨rfl, ⟨nd, rfl⟩⟩; (try first | exact ⟨rfl, _, World.drewN_drewN _ _ _⟩ | exact ⟨rfl, _, Eq.trans (World.drewN_drewN _ _ _) (congrArg (World.drewN _) (Nat.add_assoc _ _ _))⟩)) | (go_at_call 52; (with_reducible refine (comp_Reach.calls k3 _ _ x9_2 a2 t455 _ ?side1 ?side2 A57.out).mono ?_); (case side1 => repeat (first | exact (Kd.S_reads' HO_9.out).2.2 | (with_reducible refine Kd.C_alloc ?_ _) | (with_reducible refine Kd.C_drewN ?_ _) | (with_reducible refine Kd.C_drew ?_))); (case side2 => exact (Kd.S_reads' HO_9.out).2.1); rintro e w74 ⟨v456, rfl, ho0, hb⟩; have n0_ := Aside0.mk (Kd.S_elder' (by (with_reducible repeat (first | apply Kd.S_alloc | apply Kd.S_drewN | apply Kd.S_drew)); exact HO_9.out) (Kd.R_base ho0) hb); have n1_ := Aside0.mk (Kd.R_elder' (by (with_reducible repeat (first | apply Kd.R_alloc | apply Kd.R_drewN | apply Kd.R_drew)); exact HO_13.out) (Kd.R_base ho0) hb); have n2_ := Aside0.mk (Kd.R_elder' (by (with_reducible repeat (first | apply Kd.R_alloc | apply Kd.R_drewN | apply Kd.R_drew)); exact HO_14.out) (Kd.R_base ho0) hb); have n3_ := Aside0.mk (Kd.R_elder' (by (with_reducible repeat (first | apply Kd.R_alloc | apply Kd.R_drewN | apply Kd.R_drew)); exact HO453.out) (Kd.R_base ho0) hb); have n4_ := Aside0.mk (Kd.R_lower (Kd.R_new' (Kd.R_new' (Kd.R_new' ho0 (Kd.R_lt (by (with_reducible repeat (first | apply Kd.R_alloc | apply Kd.R_drewN | apply Kd.R_drew)); exact HO_13.out))) (Kd.R_lt (by (with_reducible repeat (first | apply Kd.R_alloc | apply Kd.R_drewN | apply Kd.R_drew)); exact HO_14.out))) (Kd.R_lt (by (with_reducible repeat (first | apply Kd.R_alloc | apply Kd.R_drewN | apply Kd.R_drew)); exact HO453.out))) (below_size (by repeat (first | (with_reducible first | exact HB.out | apply below_alloc | apply pw_below_drewN | apply below_drew1) | exact HB.out)))); have n5_ := Aside0.mk (below_step (by repeat (first | (with_reducible first | exact HB.out | apply below_alloc | apply pw_below_drewN | apply below_drew1) | exact HB.out)) hb); clear HO_9; clear HO_13; clear HO_14; clear HO453; clear HB; have HO_9 := n0_; have HO_13 := n1_; have HO_14 := n2_; have HO453 := n3_; have HO457 := n4_; have HB := n5_; clear n0_ n1_ n2_ n3_ n4_ n5_; (try clear hb); (try clear hb2); (try clear hk); (try clear hi); (try clear ho0); obtain ⟨Ao75, co75, eo75⟩ := Kd.R_slice HO457.out; subst eo75) | (go_at_call 50; (with_reducible refine (runnellaw13_among.calls k3 _ _ t455 a1 t458 _ ?side1 ?side2 A58.out).mono ?_); (case side1 => repeat (first | exact (Kd.R_reads' HO457.out).2.2 | (with_reducible refine Kd.C_alloc ?_ _) | (with_reducible refine Kd.C_drewN ?_ _) | (with_reducible refine Kd.C_drew ?_))); (case side2 => exact (Kd.R_reads' HO457.out).2.1); rintro e w' ⟨rfl, ⟨nd, rfl⟩⟩; (try first | exact ⟨rfl, _, World.drewN_drewN _ _ _⟩ | exact ⟨rfl, _, Eq.trans (World.drewN_drewN _ _ _) (congrArg (World.drewN _) (Nat.add_assoc _ _ _))⟩)))
                            go_ret
                            exact ⟨by first | rfl | (simp [errW_none, errW_some] <;> rfl) | (simp [*, errW_none, errW_some] <;> rfl), by repeat (first | (with_reducible first | exact HB.out | apply below_alloc | apply pw_below_drewN | apply below_drew1) | exact HB.out)⟩
                        · rw [if_neg c54] at H
                          have c54b0 : (t449 == t450) = false := by simpa using c54
                          (try (have c54b1 : decide (t449 = t450) = false := by simpa using c54))
                          (try (have c54b2 : (t449 == t450) = false := by simpa using c54))
                          (try (have c54b3 : ¬ (t449 = t450) := by simpa using c54))
                          clear c54
                          obtain rfl := Option.some.inj H
                          go_wp2_with (first | (go_at_call 51; (with_reducible refine (comp_Both.calls k3 _ _ l0 a1 a2 t449 _ ?side1 ?side2 A52.out).mono ?_); (case side1 => repeat (first | exact (Kd.C_below HR0.out HB.out) | (with_reducible refine Kd.C_alloc ?_ _) | (with_reducible refine Kd.C_drewN ?_ _) | (with_reducible refine Kd.C_drew ?_))); (case side2 => exact HC0.out); rintro e w76 ⟨rfl, hb⟩; have n0_ := Aside0.mk (Kd.S_below (by (with_reducible repeat (first | apply Kd.S_alloc | apply Kd.S_drewN | apply Kd.S_drew)); exact HO_9.out) hb); have n1_ := Aside0.mk (Kd.R_below (by (with_reducible repeat (first | apply Kd.R_alloc | apply Kd.R_drewN | apply Kd.R_drew)); exact HO_13.out) hb); have n2_ := Aside0.mk (Kd.R_below (by (with_reducible repeat (first | apply Kd.R_alloc | apply Kd.R_drewN | apply Kd.R_drew)); exact HO_14.out) hb); have n3_ := Aside0.mk (below_step (by repeat (first | (with_reducible first | exact HB.out | apply below_alloc | apply pw_below_drewN | apply below_drew1) | exact HB.out)) hb); clear HO_9; clear HO_13; clear HO_14; clear HB; have HO_9 := n0_; have HO_13 := n1_; have HO_14 := n2_; have HB := n3_; clear n0_ n1_ n2_ n3_; (try clear hb); (try clear hb2); (try clear hk); (try clear hi)) | (go_at_call 51; (with_reducible refine (comp_Both.calls k3 _ _ x9_2 a1 a2 t450 _ ?side1 ?side2 A53.out).mono ?_); (case side1 => repeat (first | exact (Kd.S_reads' HO_9.out).2.2 | (with_reducible refine Kd.C_alloc ?_ _) | (with_reducible refine Kd.C_drewN ?_ _) | (with_reducible refine Kd.C_drew ?_))); (case side2 => exact (Kd.S_reads' HO_9.out).2.1); rintro e w77 ⟨rfl, hb⟩; have n0_ := Aside0.mk (Kd.S_below (by (with_reducible repeat (first | apply Kd.S_alloc | apply Kd.S_drewN | apply Kd.S_drew)); exact HO_9.out) hb); have n1_ := Aside0.mk (Kd.R_below (by (with_reducible repeat (first | apply Kd.R_alloc | apply Kd.R_drewN | apply Kd.R_drew)); exact HO_13.out) hb); have n2_ := Aside0.mk (Kd.R_below (by (with_reducible repeat (first | apply Kd.R_alloc | apply Kd.R_drewN | apply Kd.R_drew)); exact HO_14.out) hb); have n3_ := Aside0.mk (below_step (by repeat (first | (with_reducible first | exact HB.out | apply below_alloc | apply pw_below_drewN | apply below_drew1) | exact HB.out)) hb); clear HO_9; clear HO_13; clear HO_14; clear HB; have HO_9 := n0_; have HO_13 := n1_; have HO_14 := n2_; have HB := n3_; clear n0_ n1_ n2_ n3_; (try clear hb); (try clear hb2); (try clear hk); (try clear hi)))
                          go_ret
                          exact ⟨by first | rfl | (simp [errW_none, errW_some] <;> rfl) | (simp [*, errW_none, errW_some] <;> rfl), by repeat (first | (with_reducible first | exact HB.out | apply below_alloc | apply pw_below_drewN | apply below_drew1) | exact HB.out)⟩
          · rw [if_neg c11] at H
            exact absurd H (by simp)
        · rw [if_neg c10] at H
          exact absurd H (by simp)

end Go.Proofs.Ytkgkhakjodlpgaa.C
