/- Functions of the program as plain Lean functions, and that each call comes to what they say; printed by a program. -/
import Derived.Test.YtkgkhakjodlpgaaC0
import Derived.Test.YtkgkhakjodlpgaaC1
import Derived.Test.YtkgkhakjodlpgaaC5
import Derived.Test.YtkgkhakjodlpgaaC13
import Derived.Test.YtkgkhakjodlpgaaGrowWords
namespace Go.Proofs.Ytkgkhakjodlpgaa.C
open Go.RowKit Go.Proofs.YtkgkhakjodlpgaaW.PrintWords Go.Proofs.YtkgkhakjodlpgaaW.PrintLast Go.Proofs.YtkgkhakjodlpgaaW.PrintMore Go.Proofs.Ytkgkhakjodlpgaa.Ext Go.Proofs.Ytkgkhakjodlpgaa.Ca Go.Proofs.Ytkgkhakjodlpgaa.Cv
attribute [local go_sem] max2_int min2_int max_two min_two max_three min_three max_four min_four   -- for this text's walks alone
set_option linter.unusedVariables false
set_option linter.unusedSimpArgs false

/-! ### runnellaw13_CompGrows: function 11 -/
mutual
def runnellaw13_CompGrows.j0 : Nat → List (List Int) → Int → Int → Int → List (List Int) → Bool → Bool → Option (Bool)
  | 0, _, _, _, _, _, _, _ => none
  | k + 1, x0, x1, x2, x3, x4, x9, x33 => if x33 = true then (some x9) else (if 0 ≤ x1 then (if x1 < (x0.length : Int) then (if x0.length < 5864062014805 then (if (rd_L1 x0 x1).length < 17592186044416 then ((comp_Reach.f k x0 x3).bind fun t103 => ((comp_Reach.f k x4 x3).bind fun t106 => (runnellaw13_CompGrows.l0 k x0 x1 x2 x4 t103 t106 0))) else none) else none) else none) else none)
def runnellaw13_CompGrows.l0 : Nat → List (List Int) → Int → Int → List (List Int) → List Int → List Int → Int → Option (Bool)
  | 0, _, _, _, _, _, _, _ => none
  | k + 1, x0, x1, x2, x11, x12, x13, x14 => if x14 < (x12.length : Int) then (if 0 ≤ x14 then ((runnellaw13_among.f k x13 (rd x12 x14)).bind fun t110 => (if t110 = true then (runnellaw13_CompGrows.l0 k x0 x1 x2 x11 x12 x13 (wrap64 (x14 + 1))) else (some false))) else (none)) else (if x2 ≥ 0 then (if x2 < (x0.length : Int) then ((comp_Reach.f k x11 x1).bind fun t111 => ((runnellaw13_among.f k t111 x2).bind fun t114 => (runnellaw13_CompGrows.j2 k x0 x11 (!t114)))) else (runnellaw13_CompGrows.j2 k x0 x11 false)) else (runnellaw13_CompGrows.j2 k x0 x11 false))
def runnellaw13_CompGrows.j2 : Nat → List (List Int) → List (List Int) → Bool → Option (Bool)
  | 0, _, _, _ => none
  | k + 1, x0, x11, x84 => if x84 = true then (some false) else ((comp_Components.f k x11).bind fun t115 => ((comp_Components.f k x0).bind fun t118 => (some (decide ((t115.length : Int) ≤ (t118.length : Int))))))
end
def runnellaw13_CompGrows.f (k : Nat) (l0 : List (List Int)) (a1 : Int) (a2 : Int) (a3 : Int) (l4 : List (List Int)) : Option (Bool) := (runnellaw13_shown.f k).bind fun t101 => ((runnellaw13_small.f k l0).bind fun t102 => (if t101 = true then (if t102 = true then (if a1 < 0 then (runnellaw13_CompGrows.j0 k l0 a1 a2 a3 l4 t101 true) else (runnellaw13_CompGrows.j0 k l0 a1 a2 a3 l4 t101 (decide (a1 ≥ (l0.length : Int))))) else (runnellaw13_CompGrows.j0 k l0 a1 a2 a3 l4 t101 true)) else (runnellaw13_CompGrows.j0 k l0 a1 a2 a3 l4 t101 true)))
theorem runnellaw13_CompGrows.mono_l : ∀ k, (∀ y0 y1 y2 y3 y4 y5 y6, LeO (runnellaw13_CompGrows.j0 k y0 y1 y2 y3 y4 y5 y6) (runnellaw13_CompGrows.j0 (k + 1) y0 y1 y2 y3 y4 y5 y6)) ∧ (∀ y0 y1 y2 y3 y4 y5 y6, LeO (runnellaw13_CompGrows.l0 k y0 y1 y2 y3 y4 y5 y6) (runnellaw13_CompGrows.l0 (k + 1) y0 y1 y2 y3 y4 y5 y6)) ∧ (∀ y0 y1 y2, LeO (runnellaw13_CompGrows.j2 k y0 y1 y2) (runnellaw13_CompGrows.j2 (k + 1) y0 y1 y2))
  | 0 => ⟨fun _ _ _ _ _ _ _ r h => by simp [runnellaw13_CompGrows.j0] at h, fun _ _ _ _ _ _ _ r h => by simp [runnellaw13_CompGrows.l0] at h, fun _ _ _ r h => by simp [runnellaw13_CompGrows.j2] at h⟩
  | k + 1 => by
    obtain ⟨ih0, ih1, ih2⟩ := runnellaw13_CompGrows.mono_l k
    refine ⟨?_, ?_, ?_⟩
    · intro y0 y1 y2 y3 y4 y5 y6
      unfold runnellaw13_CompGrows.j0
      repeat' first
      | (with_reducible exact ih0 _ _ _ _ _ _ _)
      | (with_reducible exact ih1 _ _ _ _ _ _ _)
      | (with_reducible exact ih2 _ _ _)
      | (with_reducible exact comp_Components.mono _ _)
      | (with_reducible exact comp_Reach.mono _ _ _)
      | (with_reducible exact runnellaw13_among.mono _ _ _)
      | (with_reducible exact runnellaw13_shown.mono _)
      | (with_reducible exact runnellaw13_small.mono _ _)
      | (with_reducible exact LeO.refl _)
      | (with_reducible exact LeO.none _)
      | (with_reducible refine LeO.ite ?_ ?_)
      | (with_reducible refine LeO.bind ?_ (fun _ => ?_))
      | exact ih0 _ _ _ _ _ _ _
      | exact ih1 _ _ _ _ _ _ _
      | exact ih2 _ _ _
      | exact comp_Components.mono _ _
      | exact comp_Reach.mono _ _ _
      | exact runnellaw13_among.mono _ _ _
      | exact runnellaw13_shown.mono _
      | exact runnellaw13_small.mono _ _
      | exact LeO.none _
      | refine LeO.ite ?_ ?_
      | refine LeO.bind ?_ (fun _ => ?_)
    · intro y0 y1 y2 y3 y4 y5 y6
      unfold runnellaw13_CompGrows.l0
      repeat' first
      | (with_reducible exact ih0 _ _ _ _ _ _ _)
      | (with_reducible exact ih1 _ _ _ _ _ _ _)
      | (with_reducible exact ih2 _ _ _)
      | (with_reducible exact comp_Components.mono _ _)
      | (with_reducible exact comp_Reach.mono _ _ _)
      | (with_reducible exact runnellaw13_among.mono _ _ _)
      | (with_reducible exact runnellaw13_shown.mono _)
      | (with_reducible exact runnellaw13_small.mono _ _)
      | (with_reducible exact LeO.refl _)
      | (with_reducible exact LeO.none _)
      | (with_reducible refine LeO.ite ?_ ?_)
      | (with_reducible refine LeO.bind ?_ (fun _ => ?_))
      | exact ih0 _ _ _ _ _ _ _
      | exact ih1 _ _ _ _ _ _ _
      | exact ih2 _ _ _
      | exact comp_Components.mono _ _
      | exact comp_Reach.mono _ _ _
      | exact runnellaw13_among.mono _ _ _
      | exact runnellaw13_shown.mono _
      | exact runnellaw13_small.mono _ _
      | exact LeO.none _
      | refine LeO.ite ?_ ?_
      | refine LeO.bind ?_ (fun _ => ?_)
    · intro y0 y1 y2
      unfold runnellaw13_CompGrows.j2
      repeat' first
      | (with_reducible exact ih0 _ _ _ _ _ _ _)
      | (with_reducible exact ih1 _ _ _ _ _ _ _)
      | (with_reducible exact ih2 _ _ _)
      | (with_reducible exact comp_Components.mono _ _)
      | (with_reducible exact comp_Reach.mono _ _ _)
      | (with_reducible exact runnellaw13_among.mono _ _ _)
      | (with_reducible exact runnellaw13_shown.mono _)
      | (with_reducible exact runnellaw13_small.mono _ _)
      | (with_reducible exact LeO.refl _)
      | (with_reducible exact LeO.none _)
      | (with_reducible refine LeO.ite ?_ ?_)
      | (with_reducible refine LeO.bind ?_ (fun _ => ?_))
      | exact ih0 _ _ _ _ _ _ _
      | exact ih1 _ _ _ _ _ _ _
      | exact ih2 _ _ _
      | exact comp_Components.mono _ _
      | exact comp_Reach.mono _ _ _
      | exact runnellaw13_among.mono _ _ _
      | exact runnellaw13_shown.mono _
      | exact runnellaw13_small.mono _ _
      | exact LeO.none _
      | refine LeO.ite ?_ ?_
      | refine LeO.bind ?_ (fun _ => ?_)
theorem runnellaw13_CompGrows.mono : ∀ a0 a1 a2 a3 a4 k, LeO (runnellaw13_CompGrows.f k a0 a1 a2 a3 a4) (runnellaw13_CompGrows.f (k + 1) a0 a1 a2 a3 a4) := by
  intro a0 a1 a2 a3 a4 k
  obtain ⟨ih0, ih1, ih2⟩ := runnellaw13_CompGrows.mono_l k
  unfold runnellaw13_CompGrows.f
  repeat' first
      | (with_reducible exact ih0 _ _ _ _ _ _ _)
      | (with_reducible exact ih1 _ _ _ _ _ _ _)
      | (with_reducible exact ih2 _ _ _)
      | (with_reducible exact comp_Components.mono _ _)
      | (with_reducible exact comp_Reach.mono _ _ _)
      | (with_reducible exact runnellaw13_among.mono _ _ _)
      | (with_reducible exact runnellaw13_shown.mono _)
      | (with_reducible exact runnellaw13_small.mono _ _)
      | (with_reducible exact LeO.refl _)
      | (with_reducible exact LeO.none _)
      | (with_reducible refine LeO.ite ?_ ?_)
      | (with_reducible refine LeO.bind ?_ (fun _ => ?_))
      | exact ih0 _ _ _ _ _ _ _
      | exact ih1 _ _ _ _ _ _ _
      | exact ih2 _ _ _
      | exact comp_Components.mono _ _
      | exact comp_Reach.mono _ _ _
      | exact runnellaw13_among.mono _ _ _
      | exact runnellaw13_shown.mono _
      | exact runnellaw13_small.mono _ _
      | exact LeO.none _
      | refine LeO.ite ?_ ?_
      | refine LeO.bind ?_ (fun _ => ?_)
set_option maxHeartbeats 8000000 in
set_option maxRecDepth 100000 in
theorem runnellaw13_CompGrows.calls (k : Nat) (A0 : Option Addr) (c0 : Nat) (l0 : List (List Int)) (a1 : Int) (a2 : Int) (a3 : Int) (r : Bool) (w : World) (hr0 : Kd.C (Kd.slice 3 (Kd.int .i64)) w A0 l0.length l0) (hc0 : l0.length ≤ c0) (h : runnellaw13_CompGrows.f k l0 a1 a2 a3 (l0.set a1.toNat (rd_L1 l0 a1 ++ [a2])) = some r) :
    Calls Try.prog 11 #[.slice A0 l0.length c0, .int .i64 a1, .int .i64 a2, .int .i64 a3] w fun e w' => e = .returned (.bool r) ∧ Below w.heap.size w w' := by
  obtain ⟨l4, hl4⟩ : ∃ l4, l4 = l0.set a1.toNat (rd_L1 l0 a1 ++ [a2]) := ⟨_, rfl⟩
  rw [← hl4] at h
  have HL4 := Aside0.mk hl4
  clear hl4
  have HR0 := Aside0.mk hr0
  have HC0 := Aside0.mk hc0
  clear hr0 hc0
  have HB := Aside0.mk (Below.refl w.heap.size w)
  have H : ((runnellaw13_shown.f k).bind fun t101 => ((runnellaw13_small.f k l0).bind fun t102 => (if t101 = true then (if t102 = true then (if a1 < 0 then (runnellaw13_CompGrows.j0 k l0 a1 a2 a3 l4 t101 true) else (runnellaw13_CompGrows.j0 k l0 a1 a2 a3 l4 t101 (decide (a1 ≥ (l0.length : Int))))) else (runnellaw13_CompGrows.j0 k l0 a1 a2 a3 l4 t101 true)) else (runnellaw13_CompGrows.j0 k l0 a1 a2 a3 l4 t101 true)))) = some r := h
  clear h
  replace H := Option.bind_eq_some_iff.mp H
  obtain ⟨t101, A60, H⟩ := H
  replace H : ((runnellaw13_small.f k l0).bind fun t102 => (if t101 = true then (if t102 = true then (if a1 < 0 then (runnellaw13_CompGrows.j0 k l0 a1 a2 a3 l4 t101 true) else (runnellaw13_CompGrows.j0 k l0 a1 a2 a3 l4 t101 (decide (a1 ≥ (l0.length : Int))))) else (runnellaw13_CompGrows.j0 k l0 a1 a2 a3 l4 t101 true)) else (runnellaw13_CompGrows.j0 k l0 a1 a2 a3 l4 t101 true))) = some r := H
  have A6 := Aside0.mk A60
  clear A60
  replace H := Option.bind_eq_some_iff.mp H
  obtain ⟨t102, A70, H⟩ := H
  replace H : (if t101 = true then (if t102 = true then (if a1 < 0 then (runnellaw13_CompGrows.j0 k l0 a1 a2 a3 l4 t101 true) else (runnellaw13_CompGrows.j0 k l0 a1 a2 a3 l4 t101 (decide (a1 ≥ (l0.length : Int))))) else (runnellaw13_CompGrows.j0 k l0 a1 a2 a3 l4 t101 true)) else (runnellaw13_CompGrows.j0 k l0 a1 a2 a3 l4 t101 true)) = some r := H
  have A7 := Aside0.mk A70
  clear A70
  have HC8 := Aside0.mk H
  clear H
  go_enter Try.func11, Try.ntmps11
  go_upto_region 3 with (first | ((with_reducible refine gate_callee (f := 39) rfl ?_); refine goesL_ (some 15) rfl rfl Try.func39 (by kernel_rfl) rfl #[] rfl (by (try simp only [List.map_toArray, List.map_cons, List.map_nil]); first | done | rfl | (simp only [List.length_drop, List.length_take]; rfl)) ?_; (with_reducible refine (runnellaw13_shown.calls k  t101 _ A6.out).mono ?_); rintro e w9 ⟨rfl, hb⟩; refine ⟨_, rfl, ?_⟩; have n0_ := Aside0.mk (below_step (by repeat (first | (with_reducible first | exact HB.out | apply below_alloc | apply pw_below_drewN | apply below_drew1) | exact HB.out)) hb); clear HB; have HB := n0_; clear n0_; (try clear hb); (try clear hb2); (try clear hk); (try clear hi)) | ((with_reducible refine gate_callee (f := 40) rfl ?_); refine goesL_ (some 17) rfl rfl Try.func40 (by kernel_rfl) rfl #[.slice A0 l0.length c0] rfl (by (try simp only [List.map_toArray, List.map_cons, List.map_nil]); first | done | rfl | (simp only [List.length_drop, List.length_take]; rfl)) ?_; (with_reducible refine (runnellaw13_small.calls k _ _ l0 t102 _ ?side1 ?side2 A7.out).mono ?_); (case side1 => repeat (first | exact (Kd.C_below HR0.out HB.out) | (with_reducible refine Kd.C_alloc ?_ _) | (with_reducible refine Kd.C_drewN ?_ _) | (with_reducible refine Kd.C_drew ?_))); (case side2 => exact HC0.out); rintro e w' ⟨rfl, ⟨nd, rfl⟩⟩; refine ⟨_, rfl, ?_⟩))
  (try simp only [Act.put, List.setIfInBounds_toArray, List.set_cons_zero, List.set_cons_succ])
  go_cut [33] (fun v33 wc => ∃ (kq : Nat) (x33_7 : Bool), v33 = .bool x33_7 ∧ Aside0 (runnellaw13_CompGrows.j0 kq l0 a1 a2 a3 l4 t101 x33_7 = some r) ∧ Aside0 (kq ≤ k) ∧ Aside0 (Below w.heap.size w wc))
  case first =>
    have H := HC8.out
    clear HC8
    by_cases c10 : t101 = true
    · subst c10
      have H1 : (if t102 = true then (if a1 < 0 then (runnellaw13_CompGrows.j0 k l0 a1 a2 a3 l4 true true) else (runnellaw13_CompGrows.j0 k l0 a1 a2 a3 l4 true (decide (a1 ≥ (l0.length : Int))))) else (runnellaw13_CompGrows.j0 k l0 a1 a2 a3 l4 true true)) = some r := by rw [if_pos rfl] at H; exact H
      clear H
      have H := H1
      clear H1
      by_cases c11 : t102 = true
      · subst c11
        have H1 : (if a1 < 0 then (runnellaw13_CompGrows.j0 k l0 a1 a2 a3 l4 true true) else (runnellaw13_CompGrows.j0 k l0 a1 a2 a3 l4 true (decide (a1 ≥ (l0.length : Int))))) = some r := by rw [if_pos rfl] at H; exact H
        clear H
        have H := H1
        clear H1
        by_cases c12 : a1 < 0
        · rw [if_pos c12] at H
          have c12b0 : decide (a1 < 0) = true := decide_eq_true c12
          clear c12
          (first | rw [c12b0] | (simp only [i64_w, i32_w]; rw [c12b0]) | skip)
          have H' := Aside0.mk H
          clear H
          go_wp2
          go_meet
          case rel => exact ⟨_, (true), (by first | rfl | (simp; done) | (simp [*]; done)), H', ⟨by first | omega | exact Nat.le_refl _⟩, ⟨by repeat (first | (with_reducible first | exact HB.out | apply below_alloc | apply pw_below_drewN | apply below_drew1) | exact HB.out)⟩⟩
        · rw [if_neg c12] at H
          have c12b0 : decide (a1 < 0) = false := decide_eq_false c12
          clear c12
          (first | rw [c12b0] | (simp only [i64_w, i32_w]; rw [c12b0]) | skip)
          have H' := Aside0.mk H
          clear H
          go_wp2
          go_meet
          case rel => exact ⟨_, (decide (a1 ≥ (l0.length : Int))), (by first | rfl | (simp; done) | (simp [*]; done)), H', ⟨by first | omega | exact Nat.le_refl _⟩, ⟨by repeat (first | (with_reducible first | exact HB.out | apply below_alloc | apply pw_below_drewN | apply below_drew1) | exact HB.out)⟩⟩
      · replace c11 := Bool.eq_false_iff.mpr c11
        subst c11
        have H1 : (runnellaw13_CompGrows.j0 k l0 a1 a2 a3 l4 true true) = some r := by rw [if_neg (show ¬ (false = true) by decide)] at H; exact H
        clear H
        have H := H1
        clear H1
        have H' := Aside0.mk H
        clear H
        go_wp2
        go_meet
        case rel => exact ⟨_, (true), (by first | rfl | (simp; done) | (simp [*]; done)), H', ⟨by first | omega | exact Nat.le_refl _⟩, ⟨by repeat (first | (with_reducible first | exact HB.out | apply below_alloc | apply pw_below_drewN | apply below_drew1) | exact HB.out)⟩⟩
    · replace c10 := Bool.eq_false_iff.mpr c10
      subst c10
      have H1 : (runnellaw13_CompGrows.j0 k l0 a1 a2 a3 l4 false true) = some r := by rw [if_neg (show ¬ (false = true) by decide)] at H; exact H
      clear H
      have H := H1
      clear H1
      have H' := Aside0.mk H
      clear H
      go_wp2
      go_meet
      case rel => exact ⟨_, (true), (by first | rfl | (simp; done) | (simp [*]; done)), H', ⟨by first | omega | exact Nat.le_refl _⟩, ⟨by repeat (first | (with_reducible first | exact HB.out | apply below_alloc | apply pw_below_drewN | apply below_drew1) | exact HB.out)⟩⟩
  case rest =>
    clear HC8
    try clear c1
    try clear p2
    try clear c3
    try clear c4
    try clear c10
    try clear c11
    try clear c12
    try clear c12b0
    obtain ⟨kq, x33_7, rfl, HA, HJ7, HB⟩ := hcut
    cases kq with
    | zero => exact absurd HA.out (by simp [runnellaw13_CompGrows.j0])
    | succ kj7 =>
      have H := HA.out
      clear HA
      simp only [runnellaw13_CompGrows.j0] at H
      by_cases c13 : x33_7 = true
      · subst c13
        have H1 : (some t101) = some r := by rw [if_pos rfl] at H; exact H
        clear H
        have H := H1
        clear H1
        obtain rfl := Option.some.inj H
        go_wp2
        go_ret
        exact ⟨by first | rfl | (simp [errW_none, errW_some] <;> rfl) | (simp [*, errW_none, errW_some] <;> rfl), by repeat (first | (with_reducible first | exact HB.out | apply below_alloc | apply pw_below_drewN | apply below_drew1) | exact HB.out)⟩
      · replace c13 := Bool.eq_false_iff.mpr c13
        subst c13
        have H1 : (if 0 ≤ a1 then (if a1 < (l0.length : Int) then (if l0.length < 5864062014805 then (if (rd_L1 l0 a1).length < 17592186044416 then ((comp_Reach.f kj7 l0 a3).bind fun t103 => ((comp_Reach.f kj7 l4 a3).bind fun t106 => (runnellaw13_CompGrows.l0 kj7 l0 a1 a2 l4 t103 t106 0))) else none) else none) else none) else none) = some r := by rw [if_neg (show ¬ (false = true) by decide)] at H; exact H
        clear H
        have g0 : 0 ≤ a1 := by
          by_cases h_ : 0 ≤ a1
          · exact h_
          · rw [if_neg h_] at H1; cases H1
        rw [if_pos g0] at H1
        have g1 : a1 < (l0.length : Int) := by
          by_cases h_ : a1 < (l0.length : Int)
          · exact h_
          · rw [if_neg h_] at H1; cases H1
        rw [if_pos g1] at H1
        have g2 : l0.length < 5864062014805 := by
          by_cases h_ : l0.length < 5864062014805
          · exact h_
          · rw [if_neg h_] at H1; cases H1
        rw [if_pos g2] at H1
        have g3 : (rd_L1 l0 a1).length < 17592186044416 := by
          by_cases h_ : (rd_L1 l0 a1).length < 17592186044416
          · exact h_
          · rw [if_neg h_] at H1; cases H1
        rw [if_pos g3] at H1
        have LM1 := Aside0.mk g2
        have LM2 := Aside0.mk g3
        clear g2 g3
        have H := H1
        clear H1
        replace H := Option.bind_eq_some_iff.mp H
        obtain ⟨t103, A140, H⟩ := H
        replace H : ((comp_Reach.f kj7 l4 a3).bind fun t106 => (runnellaw13_CompGrows.l0 kj7 l0 a1 a2 l4 t103 t106 0)) = some r := H
        have A14 := Aside0.mk A140
        clear A140
        replace H := Option.bind_eq_some_iff.mp H
        obtain ⟨t106, A150, H⟩ := H
        replace H : (runnellaw13_CompGrows.l0 kj7 l0 a1 a2 l4 t103 t106 0) = some r := H
        have A15 := Aside0.mk A150
        clear A150
        have H' := Aside0.mk H
        clear H
        go_upto_region 6 with (first | ((with_reducible refine gate_dst (N := 35) rfl ?_); (try (refine gate_guard (by rfl) ?_; dsimp only)); refine Kd.R_lit (Kd.fixed rowK w) _ 53 ?hg (N := 35) ?hd (xs := ([] : List (List Int))) (inner := []) (ok := fun _ => True) (okp := fun _ => True) ?hr ?hp (fun _ hk => hk) trivial (Below.refl _ _) (Nat.le_refl _) (by simp) ?_; (case hd => rfl); (case hg => rfl); (case hr => first | (go_simp; done) | (go_simp; rfl)); (case hp => exact (Reps.none _ _)); intro v35 w35 ho_ hb hg_ hnew_; clear hg_ hnew_; have n1_ := Aside0.mk (Kd.R_lower ho_ (below_size (by repeat (first | (with_reducible first | exact HB.out | apply below_alloc | apply pw_below_drewN | apply below_drew1) | exact HB.out)))); have n2_ := Aside0.mk (below_step (by repeat (first | (with_reducible first | exact HB.out | apply below_alloc | apply pw_below_drewN | apply below_drew1) | exact HB.out)) hb); clear HB; have HO35 := n1_; have HB := n2_; clear n1_ n2_; clear hb ho_) | ((with_reducible refine gate_builtin (b := .append) (xs := #[.tmp 35, .tmp 36]) rfl ?_); (try (refine gate_guard (by rfl) ?_; dsimp only)); at_builtin; refine Kd.R_append_rows (Kd.fixed rowK w) (w0 := w) w.heap.size rfl (.tmp 35) (.tmp 36) 48 53 (.slice none 0 0) 24 rfl Try.underlying48 info_rows rfl Nat.zero_lt_one (by omega) v35 ([] : List (List Int)) l0 _ _ _ (fun _ => True) (fun _ => False) rfl rfl ?aO ?aR (fun _ _ h => h) (fun _ h => h.elim) ?aF ?aB ?aS ?aL ?_; (case aR => exact ReadsRow.imp_ HR0.out (by repeat (first | (with_reducible first | exact HB.out | apply below_alloc | apply pw_below_drewN | apply below_drew1) | exact HB.out)) (fun _ _ h => h)); (case aB => exact (by repeat (first | (with_reducible first | exact HB.out | apply below_alloc | apply pw_below_drewN | apply below_drew1) | exact HB.out))); (case aF => exact (fun _ _ => trivial)); (case aO => exact (by (with_reducible repeat (first | apply Kd.R_alloc | apply Kd.R_drewN | apply Kd.R_drew)); exact HO35.out)); (case aS => exact (below_size (by repeat (first | (with_reducible first | exact HB.out | apply below_alloc | apply pw_below_drewN | apply below_drew1) | exact HB.out)))); (case aL => have := LM1.out; simp only [List.length_nil]; omega); intro v37 w37 ho hb hg hat; rw [List.nil_append] at ho; clear HB HO35; have HB := Aside0.mk hb; have HM := Aside0.mk ho; clear ho hb hg hat))
        obtain ⟨gm, cm, em, hgm1, hgm2, cellm, hcm⟩ := Kd.R_form HM.out (by omega)
        subst em
        clear hgm1 hgm2 hcm
        obtain ⟨adr, Ar, cr, er, hxr, hlr, hir⟩ := at_L1 HR0.out a1 g0 g1
        cases er
        replace hxr := (HB.out.cell (World.block_lt_of_cell? w _ hxr)).trans hxr
        have HIR := Aside0.mk hir
        have HLR := Aside0.mk hlr
        clear hir hlr
        have HG0 := Aside0.mk g0
        have HG1 := Aside0.mk g1
        replace g0 := eq_true g0
        replace g1 := eq_true g1
        go_upto_region 7 with (first | ((with_reducible refine gate_dst (N := 40) rfl ?_); (try (refine gate_guard (by rfl) ?_; dsimp only)); refine Kd.R_lit (Kd.int .i64) _ 3 ?hg (N := 40) ?hd (xs := ([] : List Int)) (inner := []) (ok := fun _ => True) (okp := fun _ => True) ?hr ?hp (fun _ hk => hk) trivial (Below.refl _ _) (Nat.le_refl _) (by simp) ?_; (case hd => rfl); (case hg => rfl); (case hr => first | (go_simp; done) | (go_simp; rfl)); (case hp => exact (Reps.none _ _)); intro v40 w40 ho_ hb hg_ hnew_; clear hg_ hnew_; have n0_ := Aside0.mk (Kd.R_elder' (by (with_reducible repeat (first | apply Kd.R_alloc | apply Kd.R_drewN | apply Kd.R_drew)); exact HM.out) (Kd.R_base ho_) hb); have n1_ := Aside0.mk (Kd.R_lower ho_ (below_size (by repeat (first | (with_reducible first | exact HB.out | apply below_alloc | apply pw_below_drewN | apply below_drew1) | exact HB.out)))); have n2_ := Aside0.mk (below_step (by repeat (first | (with_reducible first | exact HB.out | apply below_alloc | apply pw_below_drewN | apply below_drew1) | exact HB.out)) hb); replace hxr := (hb.cell (World.block_lt_of_cell? _ _ hxr)).trans hxr; clear HM HB; have HM := n0_; have HO40 := n1_; have HB := n2_; clear n0_ n1_ n2_; clear hb ho_) | ((with_reducible refine gate_builtin (b := .append) (xs := #[.tmp 40, .tmp 44]) rfl ?_); (try (refine gate_guard (by rfl) ?_; dsimp only)); at_builtin; refine Kd.R_append_rows (Kd.int .i64) (w0 := w) w.heap.size rfl (.tmp 40) (.tmp 44) 53 3 (.int .i64 0) 8 rfl Try.underlying53 info3 rfl (by decide) (by omega) v40 ([] : List Int) (rd_L1 l0 a1) _ _ _ (fun _ => True) (fun _ => False) rfl rfl ?aO ?aR (fun _ _ h => h) (fun _ h => h.elim) ?aF ?aB ?aS ?aL ?_; (case aR => exact Kd.C_below HIR.out (by repeat (first | (with_reducible first | exact HB.out | apply below_alloc | apply pw_below_drewN | apply below_drew1) | exact HB.out))); (case aB => exact (by repeat (first | (with_reducible first | exact HB.out | apply below_alloc | apply pw_below_drewN | apply below_drew1) | exact HB.out))); (case aF => exact (fun _ _ => trivial)); (case aO => exact (by (with_reducible repeat (first | apply Kd.R_alloc | apply Kd.R_drewN | apply Kd.R_drew)); exact HO40.out)); (case aS => exact (below_size (by repeat (first | (with_reducible first | exact HB.out | apply below_alloc | apply pw_below_drewN | apply below_drew1) | exact HB.out)))); (case aL => have := LM2.out; simp only [List.length_nil]; omega); intro v45 w45 ho hb hg hat; rw [List.nil_append] at ho; have n0_ := Aside0.mk (Kd.R_after (ok := (fun _ => True)) (by (with_reducible repeat (first | apply Kd.R_alloc | apply Kd.R_drewN | apply Kd.R_drew)); exact HM.out) hg hat); clear HM HB HO40; have HM := n0_; have HB := Aside0.mk hb; have HO45 := Aside0.mk ho; clear n0_; clear ho hb hg hat) | ((with_reducible refine gate_builtin (b := .append) (xs := #[.tmp 45, .tmp 47]) rfl ?_); (try (refine gate_guard (by rfl) ?_; dsimp only)); at_builtin; refine Kd.R_append (Kd.int .i64) (w0 := w) w.heap.size rfl (.tmp 45) (.tmp 47) 53 3 (.int .i64 0) 8 rfl Try.underlying53 info3 rfl (by decide) (by omega) v45 (rd_L1 l0 a1) a2 [.int .i64 a2] (fun _ => True) (fun _ => False) rfl rfl ?aP (fun _ hk => hk.elim) ?aF ?aO ?aB ?aS ?aL ?_; (case aP => exact rfl); (case aB => exact (by repeat (first | (with_reducible first | exact HB.out | apply below_alloc | apply pw_below_drewN | apply below_drew1) | exact HB.out))); (case aF => exact (fun _ _ => trivial)); (case aO => exact (by (with_reducible repeat (first | apply Kd.R_alloc | apply Kd.R_drewN | apply Kd.R_drew)); exact HO45.out)); (case aS => exact (below_size (by repeat (first | (with_reducible first | exact HB.out | apply below_alloc | apply pw_below_drewN | apply below_drew1) | exact HB.out)))); (case aL => have := LM2.out; omega); intro v48 w48 ho hb hg hat; have n0_ := Aside0.mk (Kd.R_after (ok := (fun _ => True)) (by (with_reducible repeat (first | apply Kd.R_alloc | apply Kd.R_drewN | apply Kd.R_drew)); exact HM.out) hg hat); clear HM HB HO45; have HM := n0_; have HB := Aside0.mk hb; have HO48 := Aside0.mk ho; clear n0_; clear ho hb hg hat; obtain ⟨A48, c48, e48⟩ := Kd.R_slice HO48.out; subst e48; obtain ⟨cs_, hcl_, _, hcs_, hfs_⟩ := Kd.R_elem HM.out [] a1 HG0.out HG1.out; obtain ⟨xs_, hxs_⟩ : ∃ x, cs_[0]? = some x := ⟨_, List.getElem?_eq_getElem (by rw [hcl_]; exact Nat.zero_lt_one)⟩; have hxs := hcs_ 0 xs_ hxs_; have hfs := hfs_ 0; rw [show (Kd.fixed rowK w).sz = 1 from rfl, Nat.mul_one, Nat.add_zero] at hxs hfs; clear hcl_ hcs_ hfs_ hxs_; have HP := Aside0.mk (more_set (i := a1) (row := rd_L1 l0 a1 ++ [a2]) (v := (.slice A48 (rd_L1 l0 a1 ++ [a2]).length c48)) (Kd.R_mono HM.out (fun _ _ => trivial : ∀ k, _ → (fun _ => True) k)) (Kd.R_apart' HO48.out (Kd.R_typed HM.out) (by decide)) (fun k hk => ⟨trivial, fun e_ => hk.2 (by rw [e_]; rfl)⟩) HG0.out HG1.out HB.out)) | ((with_reducible refine gate_store (t := 53) (p := 49) rfl ?_); (try (rw [drewN_self w48]; generalize hq_ : World.drewN w48 _ = w48; subst hq_)); refine store_event (t := 53) (p := 49) (v := ?vo_) (w1 := (w48.setCell ⟨gm, a1.toNat, none⟩ (.slice A48 (rd_L1 l0 a1 ++ [a2]).length c48))) ?hg ?ho ?hn ?hr ?_; (case ho => rfl); (case hg => rfl); (case hn => rfl); (case hr => first | (go_simp; done) | (go_simp; rfl)); intro w6 hw; have HW6 := Aside0.mk hw; clear hw))
        obtain ⟨hC4, hn4, hc4, hB6⟩ := HP.out
        rw [← HL4.out, ← HW6.out] at hC4
        rw [← HL4.out] at hn4
        rw [← HW6.out] at hB6
        rw [show (Value.slice (some ⟨gm, 0, none⟩) l0.length cm) = .slice (some ⟨gm, 0, none⟩) l4.length cm from by rw [hn4]]
        rw [hn4] at hc4
        have HR4 := Aside0.mk hC4
        have HC4 := Aside0.mk hc4
        have HBW := Aside0.mk hB6
        have HR0' := Aside0.mk (Kd.C_below HR0.out hB6)
        clear hC4 hn4 hc4 hB6 HP HM HB HO48 hxs hfs hxr HIR HLR HR0 HW6
        have HR0 := HR0'
        clear HR0'
        have HB := Aside0.mk (Below.refl w6.heap.size w6)
        go_wp2_with (first | ((with_reducible refine gate_callee (f := 52) rfl ?_); refine goesL_ (some 52) rfl rfl Try.func52 (by kernel_rfl) rfl #[.slice (some adr) l0.length c0, .int .i64 a3] rfl (by (try simp only [List.map_toArray, List.map_cons, List.map_nil]); first | done | rfl | (simp only [List.length_drop, List.length_take]; rfl)) ?_; (with_reducible refine (comp_Reach.calls kj7 _ _ l0 a3 t103 _ ?side1 ?side2 A14.out).mono ?_); (case side1 => repeat (first | exact (Kd.C_below HR0.out HB.out) | (with_reducible refine Kd.C_alloc ?_ _) | (with_reducible refine Kd.C_drewN ?_ _) | (with_reducible refine Kd.C_drew ?_))); (case side2 => exact HC0.out); rintro e w16 ⟨v104, rfl, ho0, hb⟩; refine ⟨_, rfl, ?_⟩; have n0_ := Aside0.mk (Kd.R_lower ho0 (below_size (by repeat (first | (with_reducible first | exact HB.out | apply below_alloc | apply pw_below_drewN | apply below_drew1) | exact HB.out)))); have n1_ := Aside0.mk (below_step (by repeat (first | (with_reducible first | exact HB.out | apply below_alloc | apply pw_below_drewN | apply below_drew1) | exact HB.out)) hb); clear HB; have HO105 := n0_; have HB := n1_; clear n0_ n1_; (try clear hb); (try clear hb2); (try clear hk); (try clear hi); (try clear ho0)) | ((with_reducible refine gate_callee (f := 52) rfl ?_); refine goesL_ (some 55) rfl rfl Try.func52 (by kernel_rfl) rfl #[.slice (some ⟨gm, 0, none⟩) l4.length cm, .int .i64 a3] rfl (by (try simp only [List.map_toArray, List.map_cons, List.map_nil]); first | done | rfl | (simp only [List.length_drop, List.length_take]; rfl)) ?_; (with_reducible refine (comp_Reach.calls kj7 _ _ l4 a3 t106 _ ?side1 ?side2 A15.out).mono ?_); (case side1 => repeat (first | exact (Kd.C_below HR4.out HB.out) | (with_reducible refine Kd.C_alloc ?_ _) | (with_reducible refine Kd.C_drewN ?_ _) | (with_reducible refine Kd.C_drew ?_))); (case side2 => exact HC4.out); rintro e w17 ⟨v107, rfl, ho0, hb⟩; refine ⟨_, rfl, ?_⟩; have n0_ := Aside0.mk (Kd.R_elder' (by (with_reducible repeat (first | apply Kd.R_alloc | apply Kd.R_drewN | apply Kd.R_drew)); exact HO105.out) (Kd.R_base ho0) hb); have n1_ := Aside0.mk (Kd.R_lower (Kd.R_new' ho0 (Kd.R_lt (by (with_reducible repeat (first | apply Kd.R_alloc | apply Kd.R_drewN | apply Kd.R_drew)); exact HO105.out))) (below_size (by repeat (first | (with_reducible first | exact HB.out | apply below_alloc | apply pw_below_drewN | apply below_drew1) | exact HB.out)))); have n2_ := Aside0.mk (below_step (by repeat (first | (with_reducible first | exact HB.out | apply below_alloc | apply pw_below_drewN | apply below_drew1) | exact HB.out)) hb); clear HO105; clear HB; have HO105 := n0_; have HO108 := n1_; have HB := n2_; clear n0_ n1_ n2_; (try clear hb); (try clear hb2); (try clear hk); (try clear hi); (try clear ho0)))
        go_loopg [14] kj7 (fun kq v14 w' => ∃ (x14_2 : Int), v14 = .int .i64 x14_2 ∧ Aside0 (runnellaw13_CompGrows.l0 kq l0 a1 a2 l4 t103 t106 x14_2 = some r) ∧ Aside0 (kq ≤ kj7) ∧ Aside0 (Kd.R (Kd.int .i64) 3 w' w6.heap.size (fun k_ => some k_ ≠ (v107 : Value).ownBlock) v104 t103) ∧ Aside0 (Kd.R (Kd.int .i64) 3 w' w6.heap.size (fun k_ => some k_ ≠ (v104 : Value).ownBlock) v107 t106) ∧ Aside0 (Below w6.heap.size w6 w'))
        case atStart => exact ⟨(0), (by first | rfl | (simp; done) | (simp [*]; done)), H', ⟨Nat.le_refl _⟩, ⟨by (with_reducible repeat (first | apply Kd.R_alloc | apply Kd.R_drewN | apply Kd.R_drew)); exact Kd.R_mono HO105.out (fun _ hk => hk.2)⟩, ⟨by (with_reducible repeat (first | apply Kd.R_alloc | apply Kd.R_drewN | apply Kd.R_drew)); exact Kd.R_mono HO108.out (fun _ hk => hk.2)⟩, ⟨by repeat (first | (with_reducible first | exact HB.out | apply below_alloc | apply pw_below_drewN | apply below_drew1) | exact HB.out)⟩⟩
        case round =>
          clear H'
          try clear c1
          try clear p2
          try clear c3
          try clear c4
          try clear c5
          try clear c10
          try clear c11
          try clear c12
          try clear c12b0
          try clear c13
          try clear p2
          obtain ⟨x14_2, rfl, HA, HK2, HO_12, HO_13, HB⟩ := hrel
          cases gk with
          | zero => exact absurd HA.out (by simp [runnellaw13_CompGrows.l0])
          | succ k2 =>
            have H := HA.out
            clear HA
            simp only [runnellaw13_CompGrows.l0] at H
            by_cases c18 : x14_2 < (t103.length : Int)
            · rw [if_pos c18] at H
              have c18b0 : decide (x14_2 < (t103.length : Int)) = true := decide_eq_true c18
              clear c18
              by_cases c19 : 0 ≤ x14_2
              · rw [if_pos c19] at H
                have c19b0 : decide (0 ≤ x14_2) = true := decide_eq_true c19
                clear c19
                replace H := Option.bind_eq_some_iff.mp H
                obtain ⟨t110, A200, H⟩ := H
                replace H : (if t110 = true then (runnellaw13_CompGrows.l0 k2 l0 a1 a2 l4 t103 t106 (wrap64 (x14_2 + 1))) else (some false)) = some r := H
                have A20 := Aside0.mk A200
                clear A200
                by_cases c21 : t110 = true
                · subst c21
                  have H1 : (runnellaw13_CompGrows.l0 k2 l0 a1 a2 l4 t103 t106 (wrap64 (x14_2 + 1))) = some r := by rw [if_pos rfl] at H; exact H
                  clear H
                  have H := H1
                  clear H1
                  have H' := Aside0.mk H
                  clear H
                  obtain ⟨Ao22, co22, eo22⟩ := Kd.R_slice HO_12.out
                  subst eo22
                  have p109 : 0 ≤ (x14_2 : Int) := of_decide_eq_true (by first | (with_reducible assumption) | assumption)
                  have q109 : x14_2 < (t103.length : Int) := of_decide_eq_true (by first | (with_reducible assumption) | assumption)
                  obtain ⟨ad109, e109, hx109_0⟩ := Kd.at_int (Kd.R_reads' HO_12.out).2.2 x14_2 p109 q109
                  cases e109
                  replace p109 := eq_true p109
                  replace q109 := eq_true q109
                  obtain ⟨Ao23, co23, eo23⟩ := Kd.R_slice HO_13.out
                  subst eo23
                  go_wp2_with (first | ((with_reducible refine gate_callee (f := 50) rfl ?_); refine goesL_ (some 67) rfl rfl Try.func50 (by kernel_rfl) rfl #[.slice Ao23 t106.length co23, .int .i64 (rd t103 x14_2)] rfl (by (try simp only [List.map_toArray, List.map_cons, List.map_nil]); first | done | rfl | (simp only [List.length_drop, List.length_take]; rfl)) ?_; (with_reducible refine (runnellaw13_among.calls k2 _ _ t106 (rd t103 x14_2) true _ ?side1 ?side2 A20.out).mono ?_); (case side1 => repeat (first | exact (Kd.R_reads' HO_13.out).2.2 | (with_reducible refine Kd.C_alloc ?_ _) | (with_reducible refine Kd.C_drewN ?_ _) | (with_reducible refine Kd.C_drew ?_))); (case side2 => exact (Kd.R_reads' HO_13.out).2.1); rintro e w' ⟨rfl, ⟨nd, rfl⟩⟩; refine ⟨_, rfl, ?_⟩))
                  go_roundg k2
                  case measure => have := HJ7.out; have := HK2.out; omega
                  case rel => exact ⟨(wrap64 (x14_2 + 1)), (by first | rfl | (simp; done) | (simp [*]; done)), H', ⟨by have := HJ7.out; have := HK2.out; omega⟩, ⟨by (with_reducible repeat (first | apply Kd.R_alloc | apply Kd.R_drewN | apply Kd.R_drew)); exact HO_12.out⟩, ⟨by (with_reducible repeat (first | apply Kd.R_alloc | apply Kd.R_drewN | apply Kd.R_drew)); exact HO_13.out⟩, ⟨by repeat (first | (with_reducible first | exact HB.out | apply below_alloc | apply pw_below_drewN | apply below_drew1) | exact HB.out)⟩⟩
                · replace c21 := Bool.eq_false_iff.mpr c21
                  subst c21
                  have H1 : (some false) = some r := by rw [if_neg (show ¬ (false = true) by decide)] at H; exact H
                  clear H
                  have H := H1
                  clear H1
                  obtain rfl := Option.some.inj H
                  obtain ⟨Ao24, co24, eo24⟩ := Kd.R_slice HO_12.out
                  subst eo24
                  have p109 : 0 ≤ (x14_2 : Int) := of_decide_eq_true (by first | (with_reducible assumption) | assumption)
                  have q109 : x14_2 < (t103.length : Int) := of_decide_eq_true (by first | (with_reducible assumption) | assumption)
                  obtain ⟨ad109, e109, hx109_0⟩ := Kd.at_int (Kd.R_reads' HO_12.out).2.2 x14_2 p109 q109
                  cases e109
                  replace p109 := eq_true p109
                  replace q109 := eq_true q109
                  obtain ⟨Ao25, co25, eo25⟩ := Kd.R_slice HO_13.out
                  subst eo25
                  go_wp2_with (first | ((with_reducible refine gate_callee (f := 50) rfl ?_); refine goesL_ (some 67) rfl rfl Try.func50 (by kernel_rfl) rfl #[.slice Ao25 t106.length co25, .int .i64 (rd t103 x14_2)] rfl (by (try simp only [List.map_toArray, List.map_cons, List.map_nil]); first | done | rfl | (simp only [List.length_drop, List.length_take]; rfl)) ?_; (with_reducible refine (runnellaw13_among.calls k2 _ _ t106 (rd t103 x14_2) false _ ?side1 ?side2 A20.out).mono ?_); (case side1 => repeat (first | exact (Kd.R_reads' HO_13.out).2.2 | (with_reducible refine Kd.C_alloc ?_ _) | (with_reducible refine Kd.C_drewN ?_ _) | (with_reducible refine Kd.C_drew ?_))); (case side2 => exact (Kd.R_reads' HO_13.out).2.1); rintro e w' ⟨rfl, ⟨nd, rfl⟩⟩; refine ⟨_, rfl, ?_⟩))
                  go_ret
                  exact ⟨by first | rfl | (simp [errW_none, errW_some] <;> rfl) | (simp [*, errW_none, errW_some] <;> rfl), below_step HBW.out (by repeat (first | (with_reducible first | exact HB.out | apply below_alloc | apply pw_below_drewN | apply below_drew1) | exact HB.out))⟩
              · rw [if_neg c19] at H
                exact absurd H (by simp)
            · rw [if_neg c18] at H
              have c18b0 : decide (x14_2 < (t103.length : Int)) = false := decide_eq_false c18
              clear c18
              have HC26 := Aside0.mk H
              clear H
              obtain ⟨Ao27, co27, eo27⟩ := Kd.R_slice HO_12.out
              subst eo27
              go_upto_region 14 with (fail)
              go_cut [84] (fun v84 wc => ∃ (kq : Nat) (x84_25 : Bool), v84 = .bool x84_25 ∧ Aside0 (runnellaw13_CompGrows.j2 kq l0 l4 x84_25 = some r) ∧ Aside0 (kq ≤ k2) ∧ Aside0 (Below w6.heap.size w6 wc))
              case first =>
                have H := HC26.out
                clear HC26
                by_cases c28 : a2 ≥ 0
                · rw [if_pos c28] at H
                  have c28b0 : decide (0 ≤ a2) = true := decide_eq_true c28
                  clear c28
                  (first | rw [c28b0] | (simp only [i64_w, i32_w]; rw [c28b0]) | skip)
                  by_cases c29 : a2 < (l0.length : Int)
                  · rw [if_pos c29] at H
                    have c29b0 : decide (a2 < (l0.length : Int)) = true := decide_eq_true c29
                    clear c29
                    replace H := Option.bind_eq_some_iff.mp H
                    obtain ⟨t111, A300, H⟩ := H
                    replace H : ((runnellaw13_among.f k2 t111 a2).bind fun t114 => (runnellaw13_CompGrows.j2 k2 l0 l4 (!t114))) = some r := H
                    have A30 := Aside0.mk A300
                    clear A300
                    replace H := Option.bind_eq_some_iff.mp H
                    obtain ⟨t114, A310, H⟩ := H
                    replace H : (runnellaw13_CompGrows.j2 k2 l0 l4 (!t114)) = some r := H
                    have A31 := Aside0.mk A310
                    clear A310
                    have H' := Aside0.mk H
                    clear H
                    go_wp2_with (first | (go_at_call 52; (with_reducible refine (comp_Reach.calls k2 _ _ l4 a1 t111 _ ?side1 ?side2 A30.out).mono ?_); (case side1 => repeat (first | exact (Kd.C_below HR4.out HB.out) | (with_reducible refine Kd.C_alloc ?_ _) | (with_reducible refine Kd.C_drewN ?_ _) | (with_reducible refine Kd.C_drew ?_))); (case side2 => exact HC4.out); rintro e w32 ⟨v112, rfl, ho0, hb⟩; have n0_ := Aside0.mk (Kd.R_elder' (by (with_reducible repeat (first | apply Kd.R_alloc | apply Kd.R_drewN | apply Kd.R_drew)); exact HO_12.out) (Kd.R_base ho0) hb); have n1_ := Aside0.mk (Kd.R_elder' (by (with_reducible repeat (first | apply Kd.R_alloc | apply Kd.R_drewN | apply Kd.R_drew)); exact HO_13.out) (Kd.R_base ho0) hb); have n2_ := Aside0.mk (Kd.R_lower (Kd.R_new' (Kd.R_new' ho0 (Kd.R_lt (by (with_reducible repeat (first | apply Kd.R_alloc | apply Kd.R_drewN | apply Kd.R_drew)); exact HO_12.out))) (Kd.R_lt (by (with_reducible repeat (first | apply Kd.R_alloc | apply Kd.R_drewN | apply Kd.R_drew)); exact HO_13.out))) (below_size (by repeat (first | (with_reducible first | exact HB.out | apply below_alloc | apply pw_below_drewN | apply below_drew1) | exact HB.out)))); have n3_ := Aside0.mk (below_step (by repeat (first | (with_reducible first | exact HB.out | apply below_alloc | apply pw_below_drewN | apply below_drew1) | exact HB.out)) hb); clear HO_12; clear HO_13; clear HB; have HO_12 := n0_; have HO_13 := n1_; have HO113 := n2_; have HB := n3_; clear n0_ n1_ n2_ n3_; (try clear hb); (try clear hb2); (try clear hk); (try clear hi); (try clear ho0); obtain ⟨Ao33, co33, eo33⟩ := Kd.R_slice HO113.out; subst eo33) | (go_at_call 50; (with_reducible refine (runnellaw13_among.calls k2 _ _ t111 a2 t114 _ ?side1 ?side2 A31.out).mono ?_); (case side1 => repeat (first | exact (Kd.R_reads' HO113.out).2.2 | (with_reducible refine Kd.C_alloc ?_ _) | (with_reducible refine Kd.C_drewN ?_ _) | (with_reducible refine Kd.C_drew ?_))); (case side2 => exact (Kd.R_reads' HO113.out).2.1); rintro e w' ⟨rfl, ⟨nd, rfl⟩⟩))
                    go_meet
                    case rel => exact ⟨_, (!t114), (by first | rfl | (simp; done) | (simp [*]; done)), H', ⟨by have := HJ7.out; have := HK2.out; first | omega | exact Nat.le_refl _⟩, ⟨by repeat (first | (with_reducible first | exact HB.out | apply below_alloc | apply pw_below_drewN | apply below_drew1) | exact HB.out)⟩⟩
                  · rw [if_neg c29] at H
                    have c29b0 : decide (a2 < (l0.length : Int)) = false := decide_eq_false c29
                    clear c29
                    have H' := Aside0.mk H
                    clear H
                    go_wp2
                    go_meet
                    case rel => exact ⟨_, (false), (by first | rfl | (simp; done) | (simp [*]; done)), H', ⟨by have := HJ7.out; have := HK2.out; first | omega | exact Nat.le_refl _⟩, ⟨by repeat (first | (with_reducible first | exact HB.out | apply below_alloc | apply pw_below_drewN | apply below_drew1) | exact HB.out)⟩⟩
                · rw [if_neg c28] at H
                  have c28b0 : decide (0 ≤ a2) = false := decide_eq_false c28
                  clear c28
                  (first | rw [c28b0] | (simp only [i64_w, i32_w]; rw [c28b0]) | skip)
                  have H' := Aside0.mk H
                  clear H
                  go_wp2
                  go_meet
                  case rel => exact ⟨_, (false), (by first | rfl | (simp; done) | (simp [*]; done)), H', ⟨by have := HJ7.out; have := HK2.out; first | omega | exact Nat.le_refl _⟩, ⟨by repeat (first | (with_reducible first | exact HB.out | apply below_alloc | apply pw_below_drewN | apply below_drew1) | exact HB.out)⟩⟩
              case rest =>
                clear HC26
                try clear c1
                try clear p1
                try clear q1
                try clear hx1
                try clear c2
                try clear p2
                try clear c3
                try clear c4
                try clear c5
                try clear p6
                try clear c10
                try clear p10
                try clear q10
                try clear hx10
                try clear c11
                try clear c12
                try clear c12b0
                try clear c13
                try clear c18
                try clear c18b0
                try clear c19
                try clear c19b0
                try clear c21
                try clear c28
                try clear c28b0
                try clear c29
                try clear c29b0
                try clear hx109_0
                try clear p109
                try clear p2
                try clear q109
                obtain ⟨kq, x84_25, rfl, HA, HJ25, HB⟩ := hcut
                cases kq with
                | zero => exact absurd HA.out (by simp [runnellaw13_CompGrows.j2])
                | succ kj25 =>
                  have H := HA.out
                  clear HA
                  simp only [runnellaw13_CompGrows.j2] at H
                  by_cases c34 : x84_25 = true
                  · subst c34
                    have H1 : (some false) = some r := by rw [if_pos rfl] at H; exact H
                    clear H
                    have H := H1
                    clear H1
                    obtain rfl := Option.some.inj H
                    go_wp2
                    go_ret
                    exact ⟨by first | rfl | (simp [errW_none, errW_some] <;> rfl) | (simp [*, errW_none, errW_some] <;> rfl), below_step HBW.out (by repeat (first | (with_reducible first | exact HB.out | apply below_alloc | apply pw_below_drewN | apply below_drew1) | exact HB.out))⟩
                  · replace c34 := Bool.eq_false_iff.mpr c34
                    subst c34
                    have H1 : ((comp_Components.f kj25 l4).bind fun t115 => ((comp_Components.f kj25 l0).bind fun t118 => (some (decide ((t115.length : Int) ≤ (t118.length : Int)))))) = some r := by rw [if_neg (show ¬ (false = true) by decide)] at H; exact H
                    clear H
                    have H := H1
                    clear H1
                    replace H := Option.bind_eq_some_iff.mp H
                    obtain ⟨t115, A350, H⟩ := H
                    replace H : ((comp_Components.f kj25 l0).bind fun t118 => (some (decide ((t115.length : Int) ≤ (t118.length : Int))))) = some r := H
                    have A35 := Aside0.mk A350
                    clear A350
                    replace H := Option.bind_eq_some_iff.mp H
                    obtain ⟨t118, A360, H⟩ := H
                    replace H : (some (decide ((t115.length : Int) ≤ (t118.length : Int)))) = some r := H
                    have A36 := Aside0.mk A360
                    clear A360
                    obtain rfl := Option.some.inj H
                    go_wp2_with (first | ((with_reducible refine gate_callee (f := 42) rfl ?_); refine goesL_ (some 86) rfl rfl Try.func42 (by kernel_rfl) rfl #[.slice (some ⟨gm, 0, none⟩) l4.length cm] rfl (by (try simp only [List.map_toArray, List.map_cons, List.map_nil]); first | done | rfl | (simp only [List.length_drop, List.length_take]; rfl)) ?_; (with_reducible refine (comp_Components.calls kj25 _ _ l4 t115 _ ?side1 ?side2 A35.out).mono ?_); (case side1 => repeat (first | exact (Kd.C_below HR4.out HB.out) | (with_reducible refine Kd.C_alloc ?_ _) | (with_reducible refine Kd.C_drewN ?_ _) | (with_reducible refine Kd.C_drew ?_))); (case side2 => exact HC4.out); rintro e w37 ⟨v116, rfl, ho0, hb⟩; refine ⟨_, rfl, ?_⟩; have n0_ := Aside0.mk (Kd.S_lower ho0 (below_size (by repeat (first | (with_reducible first | exact HB.out | apply below_alloc | apply pw_below_drewN | apply below_drew1) | exact HB.out)))); have n1_ := Aside0.mk (below_step (by repeat (first | (with_reducible first | exact HB.out | apply below_alloc | apply pw_below_drewN | apply below_drew1) | exact HB.out)) hb); clear HB; have HO117 := n0_; have HB := n1_; clear n0_ n1_; (try clear hb); (try clear hb2); (try clear hk); (try clear hi); (try clear ho0); obtain ⟨Ao38, co38, eo38⟩ := Kd.S_slice HO117.out; subst eo38) | ((with_reducible refine gate_callee (f := 42) rfl ?_); refine goesL_ (some 89) rfl rfl Try.func42 (by kernel_rfl) rfl #[.slice (some adr) l0.length c0] rfl (by (try simp only [List.map_toArray, List.map_cons, List.map_nil]); first | done | rfl | (simp only [List.length_drop, List.length_take]; rfl)) ?_; (with_reducible refine (comp_Components.calls kj25 _ _ l0 t118 _ ?side1 ?side2 A36.out).mono ?_); (case side1 => repeat (first | exact (Kd.C_below HR0.out HB.out) | (with_reducible refine Kd.C_alloc ?_ _) | (with_reducible refine Kd.C_drewN ?_ _) | (with_reducible refine Kd.C_drew ?_))); (case side2 => exact HC0.out); rintro e w39 ⟨v119, rfl, ho0, hb⟩; refine ⟨_, rfl, ?_⟩; have n0_ := Aside0.mk (Kd.S_elder' (by (with_reducible repeat (first | apply Kd.S_alloc | apply Kd.S_drewN | apply Kd.S_drew)); exact HO117.out) (Kd.S_base ho0) hb); have n1_ := Aside0.mk (Kd.S_lower (Kd.S_new' ho0 (Kd.S_lt (by (with_reducible repeat (first | apply Kd.S_alloc | apply Kd.S_drewN | apply Kd.S_drew)); exact HO117.out))) (below_size (by repeat (first | (with_reducible first | exact HB.out | apply below_alloc | apply pw_below_drewN | apply below_drew1) | exact HB.out)))); have n2_ := Aside0.mk (below_step (by repeat (first | (with_reducible first | exact HB.out | apply below_alloc | apply pw_below_drewN | apply below_drew1) | exact HB.out)) hb); clear HO117; clear HB; have HO117 := n0_; have HO120 := n1_; have HB := n2_; clear n0_ n1_ n2_; (try clear hb); (try clear hb2); (try clear hk); (try clear hi); (try clear ho0); obtain ⟨Ao40, co40, eo40⟩ := Kd.S_slice HO120.out; subst eo40))
                    go_ret
                    exact ⟨by first | rfl | (simp [errW_none, errW_some] <;> rfl) | (simp [*, errW_none, errW_some] <;> rfl), below_step HBW.out (by repeat (first | (with_reducible first | exact HB.out | apply below_alloc | apply pw_below_drewN | apply below_drew1) | exact HB.out))⟩

end Go.Proofs.Ytkgkhakjodlpgaa.C
