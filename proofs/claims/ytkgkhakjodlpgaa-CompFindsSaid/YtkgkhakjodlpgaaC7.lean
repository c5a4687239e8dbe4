/- Functions of the program as plain Lean functions, and that each call comes to what they say; printed by a program. -/
import Derived.Test.YtkgkhakjodlpgaaC0
namespace Go.Proofs.Ytkgkhakjodlpgaa.C
open Go.RowKit Go.Proofs.YtkgkhakjodlpgaaW.PrintWords Go.Proofs.YtkgkhakjodlpgaaW.PrintLast Go.Proofs.YtkgkhakjodlpgaaW.PrintMore Go.Proofs.Ytkgkhakjodlpgaa.Ext Go.Proofs.Ytkgkhakjodlpgaa.Ca Go.Proofs.Ytkgkhakjodlpgaa.Cv
attribute [local go_sem] max2_int min2_int max_two min_two max_three min_three max_four min_four   -- for this text's walks alone
set_option linter.unusedVariables false
set_option linter.unusedSimpArgs false

/-! ### runnelref13_marks: function 75 -/
mutual
def runnelref13_marks.l0 : Nat → List (List Int) → List Int → List Bool → Int → Option (List Bool)
 | 0, _, _, _, _ => none
 | k + 1, x0, x1, x5, x6 => if x6 < (x1.length : Int) then (if 0 ≤ x6 then (if (rd x1 x6) ≥ 0 then (runnelref13_marks.j1 k x0 x1 x5 x6 (decide ((rd x1 x6) < (x5.length : Int)))) else (runnelref13_marks.j1 k x0 x1 x5 x6 false)) else (none)) else (runnelref13_marks.l1 k x0 x5 true)
def runnelref13_marks.j1 : Nat → List (List Int) → List Int → List Bool → Int → Bool → Option (List Bool)
 | 0, _, _, _, _, _ => none
 | k + 1, x0, x1, x5, x6, x33 => if x33 = true then (if 0 ≤ x6 then (if x6 < (x1.length : Int) then (if 0 ≤ (rd x1 x6) then (if (rd x1 x6) < (x5.length : Int) then (runnelref13_marks.l0 k x0 x1 (x5.set ((rd x1 x6) : Int).toNat true) (wrap64 (x6 + 1))) else (none)) else (none)) else (none)) else (none)) else (runnelref13_marks.l0 k x0 x1 x5 (wrap64 (x6 + 1)))
def runnelref13_marks.l1 : Nat → List (List Int) → List Bool → Bool → Option (List Bool)
 | 0, _, _, _ => none
 | k + 1, x0, x5, x7 => if x7 = true then (runnelref13_marks.l2 k x0 x5 false 0) else (some x5)
def runnelref13_marks.l2 : Nat → List (List Int) → List Bool → Bool → Int → Option (List Bool)
 | 0, _, _, _, _ => none
 | k + 1, x0, x5, x7, x8 => if x8 < (x5.length : Int) then (runnelref13_marks.l3 k x0 x5 x7 x8 0) else (runnelref13_marks.l1 k x0 x5 x7)
def runnelref13_marks.l3 : Nat → List (List Int) → List Bool → Bool → Int → Int → Option (List Bool)
 | 0, _, _, _, _, _ => none
 | k + 1, x0, x5, x7, x8, x9 => if 0 ≤ x8 then (if x8 < (x0.length : Int) then (if x9 < ((rd_L1 x0 x8).length : Int) then (if x8 < (x5.length : Int) then (runnelref13_marks.j5 k x0 x5 x7 x8 x9 (rdOf false x5 x8)) else (none)) else (runnelref13_marks.j5 k x0 x5 x7 x8 x9 false)) else (none)) else (none)
def runnelref13_marks.j5 : Nat → List (List Int) → List Bool → Bool → Int → Int → Bool → Option (List Bool)
 | 0, _, _, _, _, _, _ => none
 | k + 1, x0, x5, x7, x8, x9, x59 => if x59 = true then (if 0 ≤ x8 then (if x8 < (x0.length : Int) then (if 0 ≤ x9 then (if x9 < ((rd_L1 x0 x8).length : Int) then (if (rd (rd_L1 x0 x8) x9) ≥ 0 then (if (rd (rd_L1 x0 x8) x9) < (x5.length : Int) then (if 0 ≤ (rd (rd_L1 x0 x8) x9) then (runnelref13_marks.j6 k x0 x5 x7 x8 x9 (rd (rd_L1 x0 x8) x9) (!(rdOf false x5 (rd (rd_L1 x0 x8) x9)))) else (none)) else (runnelref13_marks.j6 k x0 x5 x7 x8 x9 (rd (rd_L1 x0 x8) x9) false)) else (runnelref13_marks.j6 k x0 x5 x7 x8 x9 (rd (rd_L1 x0 x8) x9) false)) else (none)) else (none)) else (none)) else (none)) else (runnelref13_marks.l2 k x0 x5 x7 (wrap64 (x8 + 1)))
def runnelref13_marks.j6 : Nat → List (List Int) → List Bool → Bool → Int → Int → Int → Bool → Option (List Bool)
 | 0, _, _, _, _, _, _, _ => none
 | k + 1, x0, x5, x7, x8, x9, x10, x83 => if x83 = true then (if 0 ≤ x10 then (if x10 < (x5.length : Int) then (runnelref13_marks.l3 k x0 (x5.set (x10 : Int).toNat true) true x8 (wrap64 (x9 + 1))) else (none)) else (none)) else (runnelref13_marks.l3 k x0 x5 x7 x8 (wrap64 (x9 + 1)))
end
def runnelref13_marks.f (k : Nat) (l0 : List (List Int)) (l1 : List Int) : Option (List Bool) := if 0 ≤ (l0.length : Int) then (if ((l0.length : Int) : Int).toNat ≤ 281474976710656 then (runnelref13_marks.l0 k l0 l1 (List.replicate ((l0.length : Int) : Int).toNat false) 0) else (none)) else (none)
theorem runnelref13_marks.mono_l : ∀ k, (∀ y0 y1 y2 y3, LeO (runnelref13_marks.l0 k y0 y1 y2 y3) (runnelref13_marks.l0 (k + 1) y0 y1 y2 y3)) ∧ (∀ y0 y1 y2 y3 y4, LeO (runnelref13_marks.j1 k y0 y1 y2 y3 y4) (runnelref13_marks.j1 (k + 1) y0 y1 y2 y3 y4)) ∧ (∀ y0 y1 y2, LeO (runnelref13_marks.l1 k y0 y1 y2) (runnelref13_marks.l1 (k + 1) y0 y1 y2)) ∧ (∀ y0 y1 y2 y3, LeO (runnelref13_marks.l2 k y0 y1 y2 y3) (runnelref13_marks.l2 (k + 1) y0 y1 y2 y3)) ∧ (∀ y0 y1 y2 y3 y4, LeO (runnelref13_marks.l3 k y0 y1 y2 y3 y4) (runnelref13_marks.l3 (k + 1) y0 y1 y2 y3 y4)) ∧ (∀ y0 y1 y2 y3 y4 y5, LeO (runnelref13_marks.j5 k y0 y1 y2 y3 y4 y5) (runnelref13_marks.j5 (k + 1) y0 y1 y2 y3 y4 y5)) ∧ (∀ y0 y1 y2 y3 y4 y5 y6, LeO (runnelref13_marks.j6 k y0 y1 y2 y3 y4 y5 y6) (runnelref13_marks.j6 (k + 1) y0 y1 y2 y3 y4 y5 y6))
 | 0 => ⟨fun _ _ _ _ r h => by simp [runnelref13_marks.l0] at h, fun _ _ _ _ _ r h => by simp [runnelref13_marks.j1] at h, fun _ _ _ r h => by simp [runnelref13_marks.l1] at h, fun _ _ _ _ r h => by simp [runnelref13_marks.l2] at h, fun _ _ _ _ _ r h => by simp [runnelref13_marks.l3] at h, fun _ _ _ _ _ _ r h => by simp [runnelref13_marks.j5] at h, fun _ _ _ _ _ _ _ r h => by simp [runnelref13_marks.j6] at h⟩
 | k + 1 => by
  obtain ⟨ih0, ih1, ih2, ih3, ih4, ih5, ih6⟩ := runnelref13_marks.mono_l k
  refine ⟨?_, ?_, ?_, ?_, ?_, ?_, ?_⟩
  ·intro y0 y1 y2 y3
   unfold runnelref13_marks.l0
   repeat' first
   | (with_reducible exact ih0 _ _ _ _)
   | (with_reducible exact ih1 _ _ _ _ _)
   | (with_reducible exact ih2 _ _ _)
   | (with_reducible exact ih3 _ _ _ _)
   | (with_reducible exact ih4 _ _ _ _ _)
   | (with_reducible exact ih5 _ _ _ _ _ _)
   | (with_reducible exact ih6 _ _ _ _ _ _ _)
   | (with_reducible exact LeO.refl _)
   | (with_reducible exact LeO.none _)
   | (with_reducible refine LeO.ite ?_ ?_)
   | (with_reducible refine LeO.bind ?_ (fun _ => ?_))
   | exact ih0 _ _ _ _
   | exact ih1 _ _ _ _ _
   | exact ih2 _ _ _
   | exact ih3 _ _ _ _
   | exact ih4 _ _ _ _ _
   | exact ih5 _ _ _ _ _ _
   | exact ih6 _ _ _ _ _ _ _
   | exact LeO.none _
   | refine LeO.ite ?_ ?_
   | refine LeO.bind ?_ (fun _ => ?_)
  ·intro y0 y1 y2 y3 y4
   unfold runnelref13_marks.j1
   repeat' first
   | (with_reducible exact ih0 _ _ _ _)
   | (with_reducible exact ih1 _ _ _ _ _)
   | (with_reducible exact ih2 _ _ _)
   | (with_reducible exact ih3 _ _ _ _)
   | (with_reducible exact ih4 _ _ _ _ _)
   | (with_reducible exact ih5 _ _ _ _ _ _)
   | (with_reducible exact ih6 _ _ _ _ _ _ _)
   | (with_reducible exact LeO.refl _)
   | (with_reducible exact LeO.none _)
   | (with_reducible refine LeO.ite ?_ ?_)
   | (with_reducible refine LeO.bind ?_ (fun _ => ?_))
   | exact ih0 _ _ _ _
   | exact ih1 _ _ _ _ _
   | exact ih2 _ _ _
   | exact ih3 _ _ _ _
   | exact ih4 _ _ _ _ _
   | exact ih5 _ _ _ _ _ _
   | exact ih6 _ _ _ _ _ _ _
   | exact LeO.none _
   | refine LeO.ite ?_ ?_
   | refine LeO.bind ?_ (fun _ => ?_)
  ·intro y0 y1 y2
   unfold runnelref13_marks.l1
   repeat' first
   | (with_reducible exact ih0 _ _ _ _)
   | (with_reducible exact ih1 _ _ _ _ _)
   | (with_reducible exact ih2 _ _ _)
   | (with_reducible exact ih3 _ _ _ _)
   | (with_reducible exact ih4 _ _ _ _ _)
   | (with_reducible exact ih5 _ _ _ _ _ _)
   | (with_reducible exact ih6 _ _ _ _ _ _ _)
   | (with_reducible exact LeO.refl _)
   | (with_reducible exact LeO.none _)
   | (with_reducible refine LeO.ite ?_ ?_)
   | (with_reducible refine LeO.bind ?_ (fun _ => ?_))
   | exact ih0 _ _ _ _
   | exact ih1 _ _ _ _ _
   | exact ih2 _ _ _
   | exact ih3 _ _ _ _
   | exact ih4 _ _ _ _ _
   | exact ih5 _ _ _ _ _ _
   | exact ih6 _ _ _ _ _ _ _
   | exact LeO.none _
   | refine LeO.ite ?_ ?_
   | refine LeO.bind ?_ (fun _ => ?_)
  ·intro y0 y1 y2 y3
   unfold runnelref13_marks.l2
   repeat' first
   | (with_reducible exact ih0 _ _ _ _)
   | (with_reducible exact ih1 _ _ _ _ _)
   | (with_reducible exact ih2 _ _ _)
   | (with_reducible exact ih3 _ _ _ _)
   | (with_reducible exact ih4 _ _ _ _ _)
   | (with_reducible exact ih5 _ _ _ _ _ _)
   | (with_reducible exact ih6 _ _ _ _ _ _ _)
   | (with_reducible exact LeO.refl _)
   | (with_reducible exact LeO.none _)
   | (with_reducible refine LeO.ite ?_ ?_)
   | (with_reducible refine LeO.bind ?_ (fun _ => ?_))
   | exact ih0 _ _ _ _
   | exact ih1 _ _ _ _ _
   | exact ih2 _ _ _
   | exact ih3 _ _ _ _
   | exact ih4 _ _ _ _ _
   | exact ih5 _ _ _ _ _ _
   | exact ih6 _ _ _ _ _ _ _
   | exact LeO.none _
   | refine LeO.ite ?_ ?_
   | refine LeO.bind ?_ (fun _ => ?_)
  ·intro y0 y1 y2 y3 y4
   unfold runnelref13_marks.l3
   repeat' first
   | (with_reducible exact ih0 _ _ _ _)
   | (with_reducible exact ih1 _ _ _ _ _)
   | (with_reducible exact ih2 _ _ _)
   | (with_reducible exact ih3 _ _ _ _)
   | (with_reducible exact ih4 _ _ _ _ _)
   | (with_reducible exact ih5 _ _ _ _ _ _)
   | (with_reducible exact ih6 _ _ _ _ _ _ _)
   | (with_reducible exact LeO.refl _)
   | (with_reducible exact LeO.none _)
   | (with_reducible refine LeO.ite ?_ ?_)
   | (with_reducible refine LeO.bind ?_ (fun _ => ?_))
   | exact ih0 _ _ _ _
   | exact ih1 _ _ _ _ _
   | exact ih2 _ _ _
   | exact ih3 _ _ _ _
   | exact ih4 _ _ _ _ _
   | exact ih5 _ _ _ _ _ _
   | exact ih6 _ _ _ _ _ _ _
   | exact LeO.none _
   | refine LeO.ite ?_ ?_
   | refine LeO.bind ?_ (fun _ => ?_)
  ·intro y0 y1 y2 y3 y4 y5
   unfold runnelref13_marks.j5
   repeat' first
   | (with_reducible exact ih0 _ _ _ _)
   | (with_reducible exact ih1 _ _ _ _ _)
   | (with_reducible exact ih2 _ _ _)
   | (with_reducible exact ih3 _ _ _ _)
   | (with_reducible exact ih4 _ _ _ _ _)
   | (with_reducible exact ih5 _ _ _ _ _ _)
   | (with_reducible exact ih6 _ _ _ _ _ _ _)
   | (with_reducible exact LeO.refl _)
   | (with_reducible exact LeO.none _)
   | (with_reducible refine LeO.ite ?_ ?_)
   | (with_reducible refine LeO.bind ?_ (fun _ => ?_))
   | exact ih0 _ _ _ _
   | exact ih1 _ _ _ _ _
   | exact ih2 _ _ _
   | exact ih3 _ _ _ _
   | exact ih4 _ _ _ _ _
   | exact ih5 _ _ _ _ _ _
   | exact ih6 _ _ _ _ _ _ _
   | exact LeO.none _
   | refine LeO.ite ?_ ?_
   | refine LeO.bind ?_ (fun _ => ?_)
  ·intro y0 y1 y2 y3 y4 y5 y6
   unfold runnelref13_marks.j6
   repeat' first
   | (with_reducible exact ih0 _ _ _ _)
   | (with_reducible exact ih1 _ _ _ _ _)
   | (with_reducible exact ih2 _ _ _)
   | (with_reducible exact ih3 _ _ _ _)
   | (with_reducible exact ih4 _ _ _ _ _)
   | (with_reducible exact ih5 _ _ _ _ _ _)
   | (with_reducible exact ih6 _ _ _ _ _ _ _)
   | (with_reducible exact LeO.refl _)
   | (with_reducible exact LeO.none _)
   | (with_reducible refine LeO.ite ?_ ?_)
   | (with_reducible refine LeO.bind ?_ (fun _ => ?_))
   | exact ih0 _ _ _ _
   | exact ih1 _ _ _ _ _
   | exact ih2 _ _ _
   | exact ih3 _ _ _ _
   | exact ih4 _ _ _ _ _
   | exact ih5 _ _ _ _ _ _
   | exact ih6 _ _ _ _ _ _ _
   | exact LeO.none _
   | refine LeO.ite ?_ ?_
   | refine LeO.bind ?_ (fun _ => ?_)
theorem runnelref13_marks.mono : ∀ a0 a1 k, LeO (runnelref13_marks.f k a0 a1) (runnelref13_marks.f (k + 1) a0 a1) := by
 intro a0 a1 k
 obtain ⟨ih0, ih1, ih2, ih3, ih4, ih5, ih6⟩ := runnelref13_marks.mono_l k
 unfold runnelref13_marks.f
 repeat' first
   | (with_reducible exact ih0 _ _ _ _)
   | (with_reducible exact ih1 _ _ _ _ _)
   | (with_reducible exact ih2 _ _ _)
   | (with_reducible exact ih3 _ _ _ _)
   | (with_reducible exact ih4 _ _ _ _ _)
   | (with_reducible exact ih5 _ _ _ _ _ _)
   | (with_reducible exact ih6 _ _ _ _ _ _ _)
   | (with_reducible exact LeO.refl _)
   | (with_reducible exact LeO.none _)
   | (with_reducible refine LeO.ite ?_ ?_)
   | (with_reducible refine LeO.bind ?_ (fun _ => ?_))
   | exact ih0 _ _ _ _
   | exact ih1 _ _ _ _ _
   | exact ih2 _ _ _
   | exact ih3 _ _ _ _
   | exact ih4 _ _ _ _ _
   | exact ih5 _ _ _ _ _ _
   | exact ih6 _ _ _ _ _ _ _
   | exact LeO.none _
   | refine LeO.ite ?_ ?_
   | refine LeO.bind ?_ (fun _ => ?_)
set_option maxHeartbeats 8000000 in
set_option maxRecDepth 100000 in
theorem runnelref13_marks.calls (k : Nat) (A0 : Option Addr) (c0 : Nat) (l0 : List (List Int)) (A1 : Option Addr) (c1 : Nat) (l1 : List Int) (r : List Bool) (w : World) (hr0 : Kd.C (Kd.slice 3 (Kd.int .i64)) w A0 l0.length l0) (hc0 : l0.length ≤ c0) (hr1 : Kd.C (Kd.int .i64) w A1 l1.length l1) (hc1 : l1.length ≤ c1) (h : runnelref13_marks.f k l0 l1 = some r) :
  Calls Try.prog 75 #[.slice A0 l0.length c0, .slice A1 l1.length c1] w fun e w' => ∃ v0_ : Value, e = .returned (v0_) ∧ Kd.R Kd.bool 4 w' w.heap.size (fun _ => True) v0_ r ∧ Below w.heap.size w w' := by
 have HR0 := Aside0.mk hr0
 have HC0 := Aside0.mk hc0
 clear hr0 hc0
 have HR1 := Aside0.mk hr1
 have HC1 := Aside0.mk hc1
 clear hr1 hc1
 have HB := Aside0.mk (Below.refl w.heap.size w)
 have H : (if 0 ≤ (l0.length : Int) then (if ((l0.length : Int) : Int).toNat ≤ 281474976710656 then (runnelref13_marks.l0 k l0 l1 (List.replicate ((l0.length : Int) : Int).toNat false) 0) else (none)) else (none)) = some r := h
 clear h
 by_cases c3 : 0 ≤ (l0.length : Int)
 ·rw [if_pos c3] at H
  have c3b0 := eq_true c3
  have c3b1 : decide (0 ≤ (l0.length : Int)) = true := decide_eq_true c3
  clear c3
  by_cases c4 : ((l0.length : Int) : Int).toNat ≤ 281474976710656
  ·rw [if_pos c4] at H
   have c4b0 := eq_true c4
   have c4b1 : decide (((l0.length : Int) : Int).toNat ≤ 281474976710656) = true := decide_eq_true c4
   clear c4
   obtain ⟨y182, hy182⟩ : ∃ y_ : List Bool, y_ = (List.replicate ((l0.length : Int) : Int).toNat false) := ⟨_, rfl⟩
   replace H : (runnelref13_marks.l0 k l0 l1 y182 0) = some r := by first | (rw [hy182]; with_reducible exact H) | (have H2_ := (Option.bind_some _ _).symm.trans H; rw [hy182]; with_reducible exact H2_) | (have H2_ := (Option.bind_some _ _).symm.trans H; with_reducible exact H2_) | with_reducible exact H | (rw [hy182]; exact H) | exact H
   have Ny182 := Aside0.mk hy182
   clear hy182
   have H' := Aside0.mk H
   clear H
   go_enter Try.func75, Try.ntmps75
   go_wp2_with (first | ((with_reducible refine gate_dst (N := 13) rfl ?_); (try (refine gate_guard (by rfl) ?_; dsimp only)); refine Kd.R_make Kd.bool _ 4 rfl (N := 13) rfl 85 _ _ rfl (l0.length : Int) rfl rfl Try.underlying85 (.bool false) 1 info4 rfl (by decide) (by omega) false (ok := fun _ => True) (okp := fun _ => True) rfl (fun _ hk => hk) trivial (of_decide_eq_true (by first | (with_reducible assumption) | assumption)) (Nat.le_trans (Nat.mul_le_mul_right _ (of_decide_eq_true (by first | (with_reducible assumption) | assumption) : (l0.length : Int).toNat ≤ 281474976710656)) (by omega)) (Below.refl _ _) (Nat.le_refl _) ?_; intro v183 w5 ho6 hb hg_ hnew_; clear hg_ hnew_; (first | rw [← Ny182.out] at ho6 | (simp only [Int.reduceToNat] at ho6; rw [← Ny182.out] at ho6)); have n0_ := Aside0.mk (Kd.R_lower ho6 (below_size (by repeat (first | (with_reducible first | exact HB.out | apply below_alloc | apply pw_below_drewN | apply below_drew1) | exact HB.out)))); have n1_ := Aside0.mk (below_step (by repeat (first | (with_reducible first | exact HB.out | apply below_alloc | apply pw_below_drewN | apply below_drew1) | exact HB.out)) hb); clear HB; have HO184 := n0_; have HB := n1_; clear n0_ n1_; clear hb ho6))
   go_loopg [6] k (fun kq v6 w' => ∃ (x5_1 : List Bool) (x6_1 : Int), v6 = .int .i64 x6_1 ∧ Aside0 (runnelref13_marks.l0 kq l0 l1 x5_1 x6_1 = some r) ∧ Aside0 (kq ≤ k) ∧ Aside0 (Kd.R Kd.bool 4 w' w.heap.size (fun _ => True) v183 x5_1) ∧ Aside0 (Below w.heap.size w w'))
   case atStart => exact ⟨(y182), (0), (by first | rfl | (simp; done) | (simp [*]; done)), H', ⟨Nat.le_refl _⟩, ⟨by (with_reducible repeat (first | apply Kd.R_alloc | apply Kd.R_drewN | apply Kd.R_drew)); exact HO184.out⟩, ⟨by repeat (first | (with_reducible first | exact HB.out | apply below_alloc | apply pw_below_drewN | apply below_drew1) | exact HB.out)⟩⟩
   case round =>
    clear H'
    try clear c1
    try clear p2
    try clear c3
    try clear c3b0
    try clear c3b1
    try clear c4
    try clear c4b0
    try clear c4b1
    obtain ⟨x5_1, x6_1, rfl, HA, HK1, HO_5, HB⟩ := hrel
    cases gk with
    | zero => exact absurd HA.out (by simp [runnelref13_marks.l0])
    | succ k1 =>
     have H := HA.out
     clear HA
     simp only [runnelref13_marks.l0] at H
     by_cases c7 : x6_1 < (l1.length : Int)
     ·rw [if_pos c7] at H
      have c7b0 : decide (x6_1 < (l1.length : Int)) = true := decide_eq_true c7
      clear c7
      have HC8 := Aside0.mk H
      clear H
      go_upto_region 5 with (fail)
      go_cut [33] (fun v33 wc => ∃ (kq : Nat) (x33_7 : Bool), v33 = .bool x33_7 ∧ Aside0 (runnelref13_marks.j1 kq l0 l1 x5_1 x6_1 x33_7 = some r) ∧ Aside0 (kq ≤ k1) ∧ Aside0 (Kd.R Kd.bool 4 wc w.heap.size (fun _ => True) v183 x5_1) ∧ Aside0 (Below w.heap.size w wc))
      case first =>
       have H := HC8.out
       clear HC8
       by_cases c9 : 0 ≤ x6_1
       ·rw [if_pos c9] at H
        have c9b0 : decide (0 ≤ x6_1) = true := decide_eq_true c9
        clear c9
        (first | rw [c9b0] | (simp only [i64_w, i32_w]; rw [c9b0]) | skip)
        by_cases c10 : (rd l1 x6_1) ≥ 0
        ·rw [if_pos c10] at H
         have c10b0 : decide (0 ≤ (rd l1 x6_1)) = true := decide_eq_true c10
         clear c10
         have H' := Aside0.mk H
         clear H
         have p185 : 0 ≤ (x6_1 : Int) := of_decide_eq_true (by first | (with_reducible assumption) | assumption)
         have q185 : x6_1 < (l1.length : Int) := of_decide_eq_true (by first | (with_reducible assumption) | assumption)
         obtain ⟨ad185, e185, hx185_0⟩ := Kd.at_int HR1.out x6_1 p185 q185
         cases e185
         replace hx185_0 := (HB.out.cell (World.block_lt_of_cell? w _ hx185_0)).trans hx185_0
         replace p185 := eq_true p185
         replace q185 := eq_true q185
         have p186 : 0 ≤ (x6_1 : Int) := of_decide_eq_true (by first | (with_reducible assumption) | assumption)
         have q186 : x6_1 < (l1.length : Int) := of_decide_eq_true (by first | (with_reducible assumption) | assumption)
         obtain ⟨ad186, e186, hx186_0⟩ := Kd.at_int HR1.out x6_1 p186 q186
         obtain rfl : ad185 = ad186 := (by injection e186)
         replace hx186_0 := (HB.out.cell (World.block_lt_of_cell? w _ hx186_0)).trans hx186_0
         replace p186 := eq_true p186
         replace q186 := eq_true q186
         obtain ⟨Ao11, co11, eo11⟩ := Kd.R_slice HO_5.out
         subst eo11
         go_wp2
         go_meet
         case rel => exact ⟨_, (decide ((rd l1 x6_1) < (x5_1.length : Int))), (by first | rfl | (simp; done) | (simp [*]; done)), H', ⟨by have := HK1.out; first | omega | exact Nat.le_refl _⟩, ⟨by (with_reducible repeat (first | apply Kd.R_alloc | apply Kd.R_drewN | apply Kd.R_drew)); exact HO_5.out⟩, ⟨by repeat (first | (with_reducible first | exact HB.out | apply below_alloc | apply pw_below_drewN | apply below_drew1) | exact HB.out)⟩⟩
        ·rw [if_neg c10] at H
         have c10b0 : decide (0 ≤ (rd l1 x6_1)) = false := decide_eq_false c10
         clear c10
         have H' := Aside0.mk H
         clear H
         have p185 : 0 ≤ (x6_1 : Int) := of_decide_eq_true (by first | (with_reducible assumption) | assumption)
         have q185 : x6_1 < (l1.length : Int) := of_decide_eq_true (by first | (with_reducible assumption) | assumption)
         obtain ⟨ad185, e185, hx185_0⟩ := Kd.at_int HR1.out x6_1 p185 q185
         cases e185
         replace hx185_0 := (HB.out.cell (World.block_lt_of_cell? w _ hx185_0)).trans hx185_0
         replace p185 := eq_true p185
         replace q185 := eq_true q185
         go_wp2
         go_meet
         case rel => exact ⟨_, (false), (by first | rfl | (simp; done) | (simp [*]; done)), H', ⟨by have := HK1.out; first | omega | exact Nat.le_refl _⟩, ⟨by (with_reducible repeat (first | apply Kd.R_alloc | apply Kd.R_drewN | apply Kd.R_drew)); exact HO_5.out⟩, ⟨by repeat (first | (with_reducible first | exact HB.out | apply below_alloc | apply pw_below_drewN | apply below_drew1) | exact HB.out)⟩⟩
       ·rw [if_neg c9] at H
        exact absurd H (by simp)
      case rest =>
       clear HC8
       try clear c1
       try clear p1
       try clear q1
       try clear hx1
       try clear p2
       try clear c3
       try clear c3b0
       try clear c3b1
       try clear c4
       try clear c4b0
       try clear c4b1
       try clear c7
       try clear c7b0
       try clear c9
       try clear c9b0
       try clear c10
       try clear c10b0
       try clear hx185_0
       try clear hx186_0
       try clear p185
       try clear p186
       try clear p2
       try clear q185
       try clear q186
       obtain ⟨kq, x33_7, rfl, HA, HJ7, HO_5, HB⟩ := hcut
       cases kq with
       | zero => exact absurd HA.out (by simp [runnelref13_marks.j1])
       | succ kj7 =>
        have H := HA.out
        clear HA
        simp only [runnelref13_marks.j1] at H
        by_cases c12 : x33_7 = true
        ·subst c12
         have H1 : (if 0 ≤ x6_1 then (if x6_1 < (l1.length : Int) then (if 0 ≤ (rd l1 x6_1) then (if (rd l1 x6_1) < (x5_1.length : Int) then (runnelref13_marks.l0 kj7 l0 l1 (x5_1.set ((rd l1 x6_1) : Int).toNat true) (wrap64 (x6_1 + 1))) else (none)) else (none)) else (none)) else (none)) = some r := by rw [if_pos rfl] at H; exact H
         clear H
         have H := H1
         clear H1
         by_cases c13 : 0 ≤ x6_1
         ·rw [if_pos c13] at H
          have c13b0 : decide (0 ≤ x6_1) = true := decide_eq_true c13
          clear c13
          by_cases c14 : x6_1 < (l1.length : Int)
          ·rw [if_pos c14] at H
           have c14b0 : decide (x6_1 < (l1.length : Int)) = true := decide_eq_true c14
           clear c14
           by_cases c15 : 0 ≤ (rd l1 x6_1)
           ·rw [if_pos c15] at H
            have c15b0 : decide (0 ≤ (rd l1 x6_1)) = true := decide_eq_true c15
            clear c15
            by_cases c16 : (rd l1 x6_1) < (x5_1.length : Int)
            ·rw [if_pos c16] at H
             have c16b0 : decide ((rd l1 x6_1) < (x5_1.length : Int)) = true := decide_eq_true c16
             clear c16
             obtain ⟨y188, hy188⟩ : ∃ y_ : List Bool, y_ = (x5_1.set ((rd l1 x6_1) : Int).toNat true) := ⟨_, rfl⟩
             replace H : (runnelref13_marks.l0 kj7 l0 l1 y188 (wrap64 (x6_1 + 1))) = some r := by first | (rw [hy188]; with_reducible exact H) | (have H2_ := (Option.bind_some _ _).symm.trans H; rw [hy188]; with_reducible exact H2_) | (have H2_ := (Option.bind_some _ _).symm.trans H; with_reducible exact H2_) | with_reducible exact H | (rw [hy188]; exact H) | exact H
             have Ny188 := Aside0.mk hy188
             clear hy188
             have H' := Aside0.mk H
             clear H
             have p187 : 0 ≤ (x6_1 : Int) := of_decide_eq_true (by first | (with_reducible assumption) | assumption)
             have q187 : x6_1 < (l1.length : Int) := of_decide_eq_true (by first | (with_reducible assumption) | assumption)
             obtain ⟨ad187, e187, hx187_0⟩ := Kd.at_int HR1.out x6_1 p187 q187
             cases e187
             replace hx187_0 := (HB.out.cell (World.block_lt_of_cell? w _ hx187_0)).trans hx187_0
             replace p187 := eq_true p187
             replace q187 := eq_true q187
             have p17 : 0 ≤ ((rd l1 x6_1) : Int) := of_decide_eq_true (by first | (with_reducible assumption) | assumption)
             have q17 : ((rd l1 x6_1) : Int) < ((x5_1.length : Int) : Int) := of_decide_eq_true (by first | (with_reducible assumption) | assumption)
             obtain ⟨go17, co17, eo17, gb17, gl17, cl17, HG17⟩ := Kd.R_form HO_5.out (by omega)
             (first | cases eo17 | (injection eo17 with ea_ en_ ec_; (first | subst ea_ | (injection ea_ with ea_; subst ea_)); subst ec_; clear en_))
             have GB17 := Aside0.mk gb17
             have GG17 := Aside0.mk HG17
             clear gb17 gl17 HG17
             obtain ⟨hx17_0, hf17_0⟩ := Kd.R_celln false HO_5.out ((rd l1 x6_1) : Int) p17 q17
             replace p17 := eq_true p17
             replace q17 := eq_true q17
             have HP18 := Kd.R_putg HO_5.out ((rd l1 x6_1) : Int) true
             go_wp2_with (first | ((with_reducible refine gate_store (t := 4) (p := 39) rfl ?_); refine store_event (t := 4) (p := 39) (v := ?vo_w19) (w1 := (wc.setCell ⟨go17, ((rd l1 x6_1) : Int).toNat, none⟩ (.bool true))) ?hg ?ho ?hn ?hr ?_; (case ho => rfl); (case hg => rfl); (case hn => rfl); (case hr => first | (go_simp; done) | (go_simp; rfl)); intro w19 hw; have hg : wc.grownBy w19 (some go17) := (by rw [hw]; exact HP18.2); have hp_ : Kd.R Kd.bool 4 w19 w.heap.size (fun _ => True) (.slice (some ⟨go17, 0, none⟩) x5_1.length co17) y188 := (by rw [hw, Ny188.out]; exact HP18.1); clear HP18; have n0_ := Aside0.mk (hp_); have n1_ := Aside0.mk ((by rw [hw]; exact below_set (HB.out) GB17.out : Below w.heap.size w w19)); clear HO_5; clear HB; have HO_5 := n0_; have HB := n1_; clear n0_ n1_; clear hg hw hp_))
             go_roundg kj7
             case measure => have := HK1.out; have := HJ7.out; omega
             case rel => exact ⟨(y188), (wrap64 (x6_1 + 1)), (by first | rfl | (simp; done) | (simp [*]; done)), H', ⟨by have := HK1.out; have := HJ7.out; omega⟩, ⟨by (with_reducible repeat (first | apply Kd.R_alloc | apply Kd.R_drewN | apply Kd.R_drew)); exact HO_5.out⟩, ⟨by repeat (first | (with_reducible first | exact HB.out | apply below_alloc | apply pw_below_drewN | apply below_drew1) | exact HB.out)⟩⟩
            ·rw [if_neg c16] at H
             exact absurd H (by simp)
           ·rw [if_neg c15] at H
            exact absurd H (by simp)
          ·rw [if_neg c14] at H
           exact absurd H (by simp)
         ·rw [if_neg c13] at H
          exact absurd H (by simp)
        ·replace c12 := Bool.eq_false_iff.mpr c12
         subst c12
         have H1 : (runnelref13_marks.l0 kj7 l0 l1 x5_1 (wrap64 (x6_1 + 1))) = some r := by rw [if_neg (show ¬ (false = true) by decide)] at H; exact H
         clear H
         have H := H1
         clear H1
         have H' := Aside0.mk H
         clear H
         go_wp2
         go_roundg kj7
         case measure => have := HK1.out; have := HJ7.out; omega
         case rel => exact ⟨(x5_1), (wrap64 (x6_1 + 1)), (by first | rfl | (simp; done) | (simp [*]; done)), H', ⟨by have := HK1.out; have := HJ7.out; omega⟩, ⟨by (with_reducible repeat (first | apply Kd.R_alloc | apply Kd.R_drewN | apply Kd.R_drew)); exact HO_5.out⟩, ⟨by repeat (first | (with_reducible first | exact HB.out | apply below_alloc | apply pw_below_drewN | apply below_drew1) | exact HB.out)⟩⟩
     ·rw [if_neg c7] at H
      have c7b0 : decide (x6_1 < (l1.length : Int)) = false := decide_eq_false c7
      clear c7
      have H' := Aside0.mk H
      clear H
      go_wp2
      go_loopg [7] k1 (fun kq v7 w' => ∃ (x5_2 : List Bool) (x7_2 : Bool), v7 = .bool x7_2 ∧ Aside0 (runnelref13_marks.l1 kq l0 x5_2 x7_2 = some r) ∧ Aside0 (kq ≤ k1) ∧ Aside0 (Kd.R Kd.bool 4 w' w.heap.size (fun _ => True) v183 x5_2) ∧ Aside0 (Below w.heap.size w w'))
      case atStart => exact ⟨(x5_1), (true), (by first | rfl | (simp; done) | (simp [*]; done)), H', ⟨Nat.le_refl _⟩, ⟨by (with_reducible repeat (first | apply Kd.R_alloc | apply Kd.R_drewN | apply Kd.R_drew)); exact HO_5.out⟩, ⟨by repeat (first | (with_reducible first | exact HB.out | apply below_alloc | apply pw_below_drewN | apply below_drew1) | exact HB.out)⟩⟩
      case round =>
       clear H'
       try clear c1
       try clear p1
       try clear q1
       try clear hx1
       try clear p2
       try clear c3
       try clear c3b0
       try clear c3b1
       try clear c4
       try clear c4b0
       try clear c4b1
       try clear p6
       try clear c7
       try clear c7b0
       try clear c9
       try clear c9b0
       try clear c10
       try clear c10b0
       try clear c12
       try clear c13
       try clear c13b0
       try clear c14
       try clear c14b0
       try clear c15
       try clear c15b0
       try clear c16
       try clear c16b0
       try clear p17
       try clear q17
       try clear hx17
       try clear hf17
       try clear p18
       try clear q18
       try clear hx18
       try clear hx17_0
       try clear hx185_0
       try clear hx186_0
       try clear hx187_0
       try clear p1
       try clear p17
       try clear p185
       try clear p186
       try clear p187
       try clear p2
       try clear q1
       try clear q17
       try clear q185
       try clear q186
       try clear q187
       obtain ⟨x5_2, x7_2, rfl, HA, HK2, HO_5, HB⟩ := hrel
       cases gk with
       | zero => exact absurd HA.out (by simp [runnelref13_marks.l1])
       | succ k2 =>
        have H := HA.out
        clear HA
        simp only [runnelref13_marks.l1] at H
        by_cases c20 : x7_2 = true
        ·subst c20
         have H1 : (runnelref13_marks.l2 k2 l0 x5_2 false 0) = some r := by rw [if_pos rfl] at H; exact H
         clear H
         have H := H1
         clear H1
         have H' := Aside0.mk H
         clear H
         go_wp2
         go_loopg [7, 8] k2 (fun kq v7 v8 w' => ∃ (x5_3 : List Bool) (x7_3 : Bool) (x8_3 : Int), v7 = .bool x7_3 ∧ v8 = .int .i64 x8_3 ∧ Aside0 (runnelref13_marks.l2 kq l0 x5_3 x7_3 x8_3 = some r) ∧ Aside0 (kq ≤ k2) ∧ Aside0 (Kd.R Kd.bool 4 w' w.heap.size (fun _ => True) v183 x5_3) ∧ Aside0 (Below w.heap.size w w'))
         case atStart => exact ⟨(x5_2), (false), (0), (by first | rfl | (simp; done) | (simp [*]; done)), (by first | rfl | (simp; done) | (simp [*]; done)), H', ⟨Nat.le_refl _⟩, ⟨by (with_reducible repeat (first | apply Kd.R_alloc | apply Kd.R_drewN | apply Kd.R_drew)); exact HO_5.out⟩, ⟨by repeat (first | (with_reducible first | exact HB.out | apply below_alloc | apply pw_below_drewN | apply below_drew1) | exact HB.out)⟩⟩
         case round =>
          clear H'
          try clear c1
          try clear p1
          try clear q1
          try clear hx1
          try clear c2
          try clear p2
          try clear c3
          try clear c3b0
          try clear c3b1
          try clear c4
          try clear c4b0
          try clear c4b1
          try clear p6
          try clear c7
          try clear c7b0
          try clear c9
          try clear c9b0
          try clear c10
          try clear c10b0
          try clear c12
          try clear c13
          try clear c13b0
          try clear c14
          try clear c14b0
          try clear c15
          try clear c15b0
          try clear c16
          try clear c16b0
          try clear p17
          try clear q17
          try clear hx17
          try clear hf17
          try clear p18
          try clear q18
          try clear hx18
          try clear c20
          try clear hx17_0
          try clear hx185_0
          try clear hx186_0
          try clear hx187_0
          try clear p1
          try clear p17
          try clear p18
          try clear p185
          try clear p186
          try clear p187
          try clear p2
          try clear p6
          try clear q1
          try clear q17
          try clear q18
          try clear q185
          try clear q186
          try clear q187
          obtain ⟨x5_3, x7_3, x8_3, rfl, rfl, HA, HK3, HO_5, HB⟩ := hrel
          cases gk with
          | zero => exact absurd HA.out (by simp [runnelref13_marks.l2])
          | succ k3 =>
           have H := HA.out
           clear HA
           simp only [runnelref13_marks.l2] at H
           by_cases c21 : x8_3 < (x5_3.length : Int)
           ·rw [if_pos c21] at H
            have c21b0 : decide (x8_3 < (x5_3.length : Int)) = true := decide_eq_true c21
            clear c21
            have H' := Aside0.mk H
            clear H
            obtain ⟨Ao22, co22, eo22⟩ := Kd.R_slice HO_5.out
            subst eo22
            go_wp2
            go_loopg [7, 9] k3 (fun kq v7 v9 w' => ∃ (x5_4 : List Bool) (x7_4 : Bool) (x9_4 : Int), v7 = .bool x7_4 ∧ v9 = .int .i64 x9_4 ∧ Aside0 (runnelref13_marks.l3 kq l0 x5_4 x7_4 x8_3 x9_4 = some r) ∧ Aside0 (kq ≤ k3) ∧ Aside0 (Kd.R Kd.bool 4 w' w.heap.size (fun _ => True) (.slice Ao22 x5_3.length co22) x5_4) ∧ Aside0 (Below w.heap.size w w'))
            case atStart => exact ⟨(x5_3), (x7_3), (0), (by first | rfl | (simp; done) | (simp [*]; done)), (by first | rfl | (simp; done) | (simp [*]; done)), H', ⟨Nat.le_refl _⟩, ⟨by (with_reducible repeat (first | apply Kd.R_alloc | apply Kd.R_drewN | apply Kd.R_drew)); exact HO_5.out⟩, ⟨by repeat (first | (with_reducible first | exact HB.out | apply below_alloc | apply pw_below_drewN | apply below_drew1) | exact HB.out)⟩⟩
            case round =>
             clear H'
             try clear c1
             try clear p1
             try clear q1
             try clear hx1
             try clear c2
             try clear p2
             try clear c3
             try clear c3b0
             try clear c3b1
             try clear c4
             try clear c4b0
             try clear c4b1
             try clear p6
             try clear c7
             try clear c7b0
             try clear c9
             try clear c9b0
             try clear c10
             try clear c10b0
             try clear c12
             try clear c13
             try clear c13b0
             try clear c14
             try clear c14b0
             try clear c15
             try clear c15b0
             try clear c16
             try clear c16b0
             try clear p17
             try clear q17
             try clear hx17
             try clear hf17
             try clear p18
             try clear q18
             try clear hx18
             try clear c20
             try clear c21
             try clear c21b0
             try clear hx17_0
             try clear hx185_0
             try clear hx186_0
             try clear hx187_0
             try clear p1
             try clear p17
             try clear p18
             try clear p185
             try clear p186
             try clear p187
             try clear p2
             try clear p6
             try clear q1
             try clear q17
             try clear q18
             try clear q185
             try clear q186
             try clear q187
             obtain ⟨x5_4, x7_4, x9_4, rfl, rfl, HA, HK4, HO_5, HB⟩ := hrel
             have hl5_4 := (Kd.R_reads' HO_5.out).1
             rw [hl5_4] at HO_5
             (try simp only [hl5_4])
             cases gk with
             | zero => exact absurd HA.out (by simp [runnelref13_marks.l3])
             | succ k4 =>
              have H := HA.out
              clear HA
              simp only [runnelref13_marks.l3] at H
              have HC23 := Aside0.mk H
              clear H
              go_upto_region 14 with (fail)
              go_cut [59] (fun v59 wc => ∃ (kq : Nat) (x59_22 : Bool), v59 = .bool x59_22 ∧ Aside0 (runnelref13_marks.j5 kq l0 x5_4 x7_4 x8_3 x9_4 x59_22 = some r) ∧ Aside0 (kq ≤ k4) ∧ Aside0 (Kd.R Kd.bool 4 wc w.heap.size (fun _ => True) (.slice Ao22 x5_4.length co22) x5_4) ∧ Aside0 (Below w.heap.size w wc))
              case first =>
               have H := HC23.out
               clear HC23
               by_cases c24 : 0 ≤ x8_3
               ·rw [if_pos c24] at H
                have c24b0 : decide (0 ≤ x8_3) = true := decide_eq_true c24
                clear c24
                (first | rw [c24b0] | (simp only [i64_w, i32_w]; rw [c24b0]) | skip)
                by_cases c25 : x8_3 < (l0.length : Int)
                ·rw [if_pos c25] at H
                 have c25b0 : decide (x8_3 < (l0.length : Int)) = true := decide_eq_true c25
                 clear c25
                 by_cases c26 : x9_4 < ((rd_L1 l0 x8_3).length : Int)
                 ·rw [if_pos c26] at H
                  have c26b0 : decide (x9_4 < ((rd_L1 l0 x8_3).length : Int)) = true := decide_eq_true c26
                  clear c26
                  by_cases c27 : x8_3 < (x5_4.length : Int)
                  ·rw [if_pos c27] at H
                   have c27b0 : decide (x8_3 < (x5_4.length : Int)) = true := decide_eq_true c27
                   clear c27
                   have H' := Aside0.mk H
                   clear H
                   have p189 : 0 ≤ (x8_3 : Int) := of_decide_eq_true (by first | (with_reducible assumption) | assumption)
                   have q189 : x8_3 < (l0.length : Int) := of_decide_eq_true (by first | (with_reducible assumption) | assumption)
                   obtain ⟨ad189, A189_0, c189_0, e189, hx189_0, hl189_0, hi189_0⟩ := at_L1 HR0.out x8_3 p189 q189
                   cases e189
                   replace hx189_0 := (HB.out.cell (World.block_lt_of_cell? w _ hx189_0)).trans hx189_0
                   have HR189_0 := Aside0.mk hi189_0
                   have HC189_0 := Aside0.mk hl189_0
                   clear hi189_0 hl189_0
                   replace p189 := eq_true p189
                   replace q189 := eq_true q189
                   have p190 : 0 ≤ (x8_3 : Int) := of_decide_eq_true (by first | (with_reducible assumption) | assumption)
                   have q190 : x8_3 < (x5_4.length : Int) := of_decide_eq_true (by first | (with_reducible assumption) | assumption)
                   obtain ⟨ad190, e190, hx190_0⟩ := Kd.at_bool (Kd.R_reads' HO_5.out).2.2 x8_3 p190 q190
                   cases e190
                   replace p190 := eq_true p190
                   replace q190 := eq_true q190
                   go_wp2
                   go_meet
                   case rel => exact ⟨_, (rdOf false x5_4 x8_3), (by first | rfl | (simp; done) | (simp [*]; done)), H', ⟨by have := HK1.out; have := HK2.out; have := HK3.out; have := HK4.out; first | omega | exact Nat.le_refl _⟩, ⟨by (try simp only [hl5_4]); (with_reducible repeat (first | apply Kd.R_alloc | apply Kd.R_drewN | apply Kd.R_drew)); exact HO_5.out⟩, ⟨by repeat (first | (with_reducible first | exact HB.out | apply below_alloc | apply pw_below_drewN | apply below_drew1) | exact HB.out)⟩⟩
                  ·rw [if_neg c27] at H
                   exact absurd H (by simp)
                 ·rw [if_neg c26] at H
                  have c26b0 : decide (x9_4 < ((rd_L1 l0 x8_3).length : Int)) = false := decide_eq_false c26
                  clear c26
                  have H' := Aside0.mk H
                  clear H
                  have p189 : 0 ≤ (x8_3 : Int) := of_decide_eq_true (by first | (with_reducible assumption) | assumption)
                  have q189 : x8_3 < (l0.length : Int) := of_decide_eq_true (by first | (with_reducible assumption) | assumption)
                  obtain ⟨ad189, A189_0, c189_0, e189, hx189_0, hl189_0, hi189_0⟩ := at_L1 HR0.out x8_3 p189 q189
                  cases e189
                  replace hx189_0 := (HB.out.cell (World.block_lt_of_cell? w _ hx189_0)).trans hx189_0
                  have HR189_0 := Aside0.mk hi189_0
                  have HC189_0 := Aside0.mk hl189_0
                  clear hi189_0 hl189_0
                  replace p189 := eq_true p189
                  replace q189 := eq_true q189
                  go_wp2
                  go_meet
                  case rel => exact ⟨_, (false), (by first | rfl | (simp; done) | (simp [*]; done)), H', ⟨by have := HK1.out; have := HK2.out; have := HK3.out; have := HK4.out; first | omega | exact Nat.le_refl _⟩, ⟨by (try simp only [hl5_4]); (with_reducible repeat (first | apply Kd.R_alloc | apply Kd.R_drewN | apply Kd.R_drew)); exact HO_5.out⟩, ⟨by repeat (first | (with_reducible first | exact HB.out | apply below_alloc | apply pw_below_drewN | apply below_drew1) | exact HB.out)⟩⟩
                ·rw [if_neg c25] at H
                 exact absurd H (by simp)
               ·rw [if_neg c24] at H
                exact absurd H (by simp)
              case rest =>
               clear HC23
               try clear c1
               try clear p1
               try clear q1
               try clear hx1
               try clear c2
               try clear p2
               try clear c3
               try clear c3b0
               try clear c3b1
               try clear c4
               try clear c4b0
               try clear c4b1
               try clear p6
               try clear c7
               try clear c7b0
               try clear c9
               try clear c9b0
               try clear c10
               try clear c10b0
               try clear c12
               try clear c13
               try clear c13b0
               try clear c14
               try clear c14b0
               try clear c15
               try clear c15b0
               try clear c16
               try clear c16b0
               try clear p17
               try clear q17
               try clear hx17
               try clear hf17
               try clear c18
               try clear p18
               try clear q18
               try clear hx18
               try clear p19
               try clear q19
               try clear hx19
               try clear c20
               try clear c21
               try clear c21b0
               try clear c24
               try clear c24b0
               try clear c25
               try clear c25b0
               try clear c26
               try clear c26b0
               try clear c27
               try clear c27b0
               try clear hx17_0
               try clear hx185_0
               try clear hx186_0
               try clear hx187_0
               try clear hx189_0
               try clear hx190_0
               try clear p1
               try clear p17
               try clear p18
               try clear p185
               try clear p186
               try clear p187
               try clear p189
               try clear p190
               try clear p2
               try clear p6
               try clear q1
               try clear q17
               try clear q18
               try clear q185
               try clear q186
               try clear q187
               try clear q189
               try clear q190
               obtain ⟨kq, x59_22, rfl, HA, HJ22, HO_5, HB⟩ := hcut
               cases kq with
               | zero => exact absurd HA.out (by simp [runnelref13_marks.j5])
               | succ kj22 =>
                have H := HA.out
                clear HA
                simp only [runnelref13_marks.j5] at H
                by_cases c28 : x59_22 = true
                ·subst c28
                 have H1 : (if 0 ≤ x8_3 then (if x8_3 < (l0.length : Int) then (if 0 ≤ x9_4 then (if x9_4 < ((rd_L1 l0 x8_3).length : Int) then (if (rd (rd_L1 l0 x8_3) x9_4) ≥ 0 then (if (rd (rd_L1 l0 x8_3) x9_4) < (x5_4.length : Int) then (if 0 ≤ (rd (rd_L1 l0 x8_3) x9_4) then (runnelref13_marks.j6 kj22 l0 x5_4 x7_4 x8_3 x9_4 (rd (rd_L1 l0 x8_3) x9_4) (!(rdOf false x5_4 (rd (rd_L1 l0 x8_3) x9_4)))) else (none)) else (runnelref13_marks.j6 kj22 l0 x5_4 x7_4 x8_3 x9_4 (rd (rd_L1 l0 x8_3) x9_4) false)) else (runnelref13_marks.j6 kj22 l0 x5_4 x7_4 x8_3 x9_4 (rd (rd_L1 l0 x8_3) x9_4) false)) else (none)) else (none)) else (none)) else (none)) = some r := by rw [if_pos rfl] at H; exact H
                 clear H
                 have H := H1
                 clear H1
                 by_cases c29 : 0 ≤ x8_3
                 ·rw [if_pos c29] at H
                  have c29b0 : decide (0 ≤ x8_3) = true := decide_eq_true c29
                  clear c29
                  by_cases c30 : x8_3 < (l0.length : Int)
                  ·rw [if_pos c30] at H
                   have c30b0 : decide (x8_3 < (l0.length : Int)) = true := decide_eq_true c30
                   clear c30
                   by_cases c31 : 0 ≤ x9_4
                   ·rw [if_pos c31] at H
                    have c31b0 : decide (0 ≤ x9_4) = true := decide_eq_true c31
                    clear c31
                    by_cases c32 : x9_4 < ((rd_L1 l0 x8_3).length : Int)
                    ·rw [if_pos c32] at H
                     have c32b0 : decide (x9_4 < ((rd_L1 l0 x8_3).length : Int)) = true := decide_eq_true c32
                     clear c32
                     have HC33 := Aside0.mk H
                     clear H
                     have p191 : 0 ≤ (x8_3 : Int) := of_decide_eq_true (by first | (with_reducible assumption) | assumption)
                     have q191 : x8_3 < (l0.length : Int) := of_decide_eq_true (by first | (with_reducible assumption) | assumption)
                     obtain ⟨ad191, A191_0, c191_0, e191, hx191_0, hl191_0, hi191_0⟩ := at_L1 HR0.out x8_3 p191 q191
                     cases e191
                     replace hx191_0 := (HB.out.cell (World.block_lt_of_cell? w _ hx191_0)).trans hx191_0
                     have HR191_0 := Aside0.mk hi191_0
                     have HC191_0 := Aside0.mk hl191_0
                     clear hi191_0 hl191_0
                     replace p191 := eq_true p191
                     replace q191 := eq_true q191
                     have p192 : 0 ≤ (x9_4 : Int) := of_decide_eq_true (by first | (with_reducible assumption) | assumption)
                     have q192 : x9_4 < ((rd_L1 l0 x8_3).length : Int) := of_decide_eq_true (by first | (with_reducible assumption) | assumption)
                     obtain ⟨ad192, e192, hx192_0⟩ := Kd.at_int HR191_0.out x9_4 p192 q192
                     cases e192
                     replace hx192_0 := (HB.out.cell (World.block_lt_of_cell? w _ hx192_0)).trans hx192_0
                     replace p192 := eq_true p192
                     replace q192 := eq_true q192
                     go_upto_region 17 with (fail)
                     go_cut [83] (fun v83 wc => ∃ (kq : Nat) (x83_32 : Bool), v83 = .bool x83_32 ∧ Aside0 (runnelref13_marks.j6 kq l0 x5_4 x7_4 x8_3 x9_4 (rd (rd_L1 l0 x8_3) x9_4) x83_32 = some r) ∧ Aside0 (kq ≤ kj22) ∧ Aside0 (Kd.R Kd.bool 4 wc w.heap.size (fun _ => True) (.slice Ao22 x5_4.length co22) x5_4) ∧ Aside0 (Below w.heap.size w wc))
                     case first =>
                      have H := HC33.out
                      clear HC33
                      by_cases c34 : (rd (rd_L1 l0 x8_3) x9_4) ≥ 0
                      ·rw [if_pos c34] at H
                       have c34b0 : decide (0 ≤ (rd (rd_L1 l0 x8_3) x9_4)) = true := decide_eq_true c34
                       clear c34
                       (first | rw [c34b0] | (simp only [i64_w, i32_w]; rw [c34b0]) | skip)
                       by_cases c35 : (rd (rd_L1 l0 x8_3) x9_4) < (x5_4.length : Int)
                       ·rw [if_pos c35] at H
                        have c35b0 : decide ((rd (rd_L1 l0 x8_3) x9_4) < (x5_4.length : Int)) = true := decide_eq_true c35
                        clear c35
                        by_cases c36 : 0 ≤ (rd (rd_L1 l0 x8_3) x9_4)
                        ·rw [if_pos c36] at H
                         have c36b0 : decide (0 ≤ (rd (rd_L1 l0 x8_3) x9_4)) = true := decide_eq_true c36
                         clear c36
                         have H' := Aside0.mk H
                         clear H
                         have p193 : 0 ≤ ((rd (rd_L1 l0 x8_3) x9_4) : Int) := of_decide_eq_true (by first | (with_reducible assumption) | assumption)
                         have q193 : (rd (rd_L1 l0 x8_3) x9_4) < (x5_4.length : Int) := of_decide_eq_true (by first | (with_reducible assumption) | assumption)
                         obtain ⟨ad193, e193, hx193_0⟩ := Kd.at_bool (Kd.R_reads' HO_5.out).2.2 (rd (rd_L1 l0 x8_3) x9_4) p193 q193
                         cases e193
                         replace p193 := eq_true p193
                         replace q193 := eq_true q193
                         go_wp2
                         go_meet
                         case rel => exact ⟨_, (!(rdOf false x5_4 (rd (rd_L1 l0 x8_3) x9_4))), (by first | rfl | (simp; done) | (simp [*]; done)), H', ⟨by have := HK1.out; have := HK2.out; have := HK3.out; have := HK4.out; have := HJ22.out; first | omega | exact Nat.le_refl _⟩, ⟨by (try simp only [hl5_4]); (with_reducible repeat (first | apply Kd.R_alloc | apply Kd.R_drewN | apply Kd.R_drew)); exact HO_5.out⟩, ⟨by repeat (first | (with_reducible first | exact HB.out | apply below_alloc | apply pw_below_drewN | apply below_drew1) | exact HB.out)⟩⟩
                        ·rw [if_neg c36] at H
                         exact absurd H (by simp)
                       ·rw [if_neg c35] at H
                        have c35b0 : decide ((rd (rd_L1 l0 x8_3) x9_4) < (x5_4.length : Int)) = false := decide_eq_false c35
                        clear c35
                        have H' := Aside0.mk H
                        clear H
                        go_wp2
                        go_meet
                        case rel => exact ⟨_, (false), (by first | rfl | (simp; done) | (simp [*]; done)), H', ⟨by have := HK1.out; have := HK2.out; have := HK3.out; have := HK4.out; have := HJ22.out; first | omega | exact Nat.le_refl _⟩, ⟨by (try simp only [hl5_4]); (with_reducible repeat (first | apply Kd.R_alloc | apply Kd.R_drewN | apply Kd.R_drew)); exact HO_5.out⟩, ⟨by repeat (first | (with_reducible first | exact HB.out | apply below_alloc | apply pw_below_drewN | apply below_drew1) | exact HB.out)⟩⟩
                      ·rw [if_neg c34] at H
                       have c34b0 : decide (0 ≤ (rd (rd_L1 l0 x8_3) x9_4)) = false := decide_eq_false c34
                       clear c34
                       (first | rw [c34b0] | (simp only [i64_w, i32_w]; rw [c34b0]) | skip)
                       have H' := Aside0.mk H
                       clear H
                       go_wp2
                       go_meet
                       case rel => exact ⟨_, (false), (by first | rfl | (simp; done) | (simp [*]; done)), H', ⟨by have := HK1.out; have := HK2.out; have := HK3.out; have := HK4.out; have := HJ22.out; first | omega | exact Nat.le_refl _⟩, ⟨by (try simp only [hl5_4]); (with_reducible repeat (first | apply Kd.R_alloc | apply Kd.R_drewN | apply Kd.R_drew)); exact HO_5.out⟩, ⟨by repeat (first | (with_reducible first | exact HB.out | apply below_alloc | apply pw_below_drewN | apply below_drew1) | exact HB.out)⟩⟩
                     case rest =>
                      clear HC33
                      try clear c1
                      try clear p1
                      try clear q1
                      try clear hx1
                      try clear c2
                      try clear p2
                      try clear c3
                      try clear c3b0
                      try clear c3b1
                      try clear c4
                      try clear c4b0
                      try clear c4b1
                      try clear p6
                      try clear c7
                      try clear c7b0
                      try clear c9
                      try clear c9b0
                      try clear c10
                      try clear c10b0
                      try clear c12
                      try clear c13
                      try clear c13b0
                      try clear c14
                      try clear c14b0
                      try clear c15
                      try clear c15b0
                      try clear c16
                      try clear c16b0
                      try clear p17
                      try clear q17
                      try clear hx17
                      try clear hf17
                      try clear c18
                      try clear p18
                      try clear q18
                      try clear hx18
                      try clear c19
                      try clear p19
                      try clear q19
                      try clear hx19
                      try clear c20
                      try clear c21
                      try clear c21b0
                      try clear c24
                      try clear c24b0
                      try clear c25
                      try clear c25b0
                      try clear c26
                      try clear c26b0
                      try clear c27
                      try clear c27b0
                      try clear c28
                      try clear c29
                      try clear c29b0
                      try clear c30
                      try clear c30b0
                      try clear c31
                      try clear c31b0
                      try clear c32
                      try clear c32b0
                      try clear c34
                      try clear c34b0
                      try clear c35
                      try clear c35b0
                      try clear c36
                      try clear c36b0
                      try clear hx17_0
                      try clear hx185_0
                      try clear hx186_0
                      try clear hx187_0
                      try clear hx189_0
                      try clear hx190_0
                      try clear hx191_0
                      try clear hx192_0
                      try clear hx193_0
                      try clear p1
                      try clear p17
                      try clear p18
                      try clear p185
                      try clear p186
                      try clear p187
                      try clear p189
                      try clear p19
                      try clear p190
                      try clear p191
                      try clear p192
                      try clear p193
                      try clear p2
                      try clear p6
                      try clear q1
                      try clear q17
                      try clear q18
                      try clear q185
                      try clear q186
                      try clear q187
                      try clear q189
                      try clear q19
                      try clear q190
                      try clear q191
                      try clear q192
                      try clear q193
                      obtain ⟨kq, x83_32, rfl, HA, HJ32, HO_5, HB⟩ := hcut
                      cases kq with
                      | zero => exact absurd HA.out (by simp [runnelref13_marks.j6])
                      | succ kj32 =>
                       have H := HA.out
                       clear HA
                       simp only [runnelref13_marks.j6] at H
                       by_cases c37 : x83_32 = true
                       ·subst c37
                        have H1 : (if 0 ≤ (rd (rd_L1 l0 x8_3) x9_4) then (if (rd (rd_L1 l0 x8_3) x9_4) < (x5_4.length : Int) then (runnelref13_marks.l3 kj32 l0 (x5_4.set ((rd (rd_L1 l0 x8_3) x9_4) : Int).toNat true) true x8_3 (wrap64 (x9_4 + 1))) else (none)) else (none)) = some r := by rw [if_pos rfl] at H; exact H
                        clear H
                        have H := H1
                        clear H1
                        by_cases c38 : 0 ≤ (rd (rd_L1 l0 x8_3) x9_4)
                        ·rw [if_pos c38] at H
                         have c38b0 : decide (0 ≤ (rd (rd_L1 l0 x8_3) x9_4)) = true := decide_eq_true c38
                         clear c38
                         by_cases c39 : (rd (rd_L1 l0 x8_3) x9_4) < (x5_4.length : Int)
                         ·rw [if_pos c39] at H
                          have c39b0 : decide ((rd (rd_L1 l0 x8_3) x9_4) < (x5_4.length : Int)) = true := decide_eq_true c39
                          clear c39
                          obtain ⟨y194, hy194⟩ : ∃ y_ : List Bool, y_ = (x5_4.set ((rd (rd_L1 l0 x8_3) x9_4) : Int).toNat true) := ⟨_, rfl⟩
                          replace H : (runnelref13_marks.l3 kj32 l0 y194 true x8_3 (wrap64 (x9_4 + 1))) = some r := by first | (rw [hy194]; with_reducible exact H) | (have H2_ := (Option.bind_some _ _).symm.trans H; rw [hy194]; with_reducible exact H2_) | (have H2_ := (Option.bind_some _ _).symm.trans H; with_reducible exact H2_) | with_reducible exact H | (rw [hy194]; exact H) | exact H
                          have Ny194 := Aside0.mk hy194
                          clear hy194
                          have H' := Aside0.mk H
                          clear H
                          have p40 : 0 ≤ ((rd (rd_L1 l0 x8_3) x9_4) : Int) := of_decide_eq_true (by first | (with_reducible assumption) | assumption)
                          have q40 : ((rd (rd_L1 l0 x8_3) x9_4) : Int) < ((x5_4.length : Int) : Int) := of_decide_eq_true (by first | (with_reducible assumption) | assumption)
                          obtain ⟨go40, co40, eo40, gb40, gl40, cl40, HG40⟩ := Kd.R_form HO_5.out (by omega)
                          (first | cases eo40 | (injection eo40 with ea_ en_ ec_; (first | subst ea_ | (injection ea_ with ea_; subst ea_)); subst ec_; clear en_))
                          have GB40 := Aside0.mk gb40
                          have GG40 := Aside0.mk HG40
                          clear gb40 gl40 HG40
                          obtain ⟨hx40_0, hf40_0⟩ := Kd.R_celln false HO_5.out ((rd (rd_L1 l0 x8_3) x9_4) : Int) p40 q40
                          replace p40 := eq_true p40
                          replace q40 := eq_true q40
                          have HP41 := Kd.R_putg HO_5.out ((rd (rd_L1 l0 x8_3) x9_4) : Int) true
                          go_wp2_with (first | ((with_reducible refine gate_store (t := 4) (p := 86) rfl ?_); refine store_event (t := 4) (p := 86) (v := ?vo_w42) (w1 := (wc.setCell ⟨go40, ((rd (rd_L1 l0 x8_3) x9_4) : Int).toNat, none⟩ (.bool true))) ?hg ?ho ?hn ?hr ?_; (case ho => rfl); (case hg => rfl); (case hn => rfl); (case hr => first | (go_simp; done) | (go_simp; rfl)); intro w42 hw; have hg : wc.grownBy w42 (some go40) := (by rw [hw]; exact HP41.2); have hp_ : Kd.R Kd.bool 4 w42 w.heap.size (fun _ => True) (.slice (some ⟨go40, 0, none⟩) x5_4.length co22) y194 := (by rw [hw, Ny194.out]; exact HP41.1); clear HP41; have n0_ := Aside0.mk (hp_); have n1_ := Aside0.mk ((by rw [hw]; exact below_set (HB.out) GB40.out : Below w.heap.size w w42)); clear HO_5; clear HB; have HO_5 := n0_; have HB := n1_; clear n0_ n1_; clear hg hw hp_))
                          (try simp only [← hl5_4])
                          go_roundg kj32
                          case measure => have := HK1.out; have := HK2.out; have := HK3.out; have := HK4.out; have := HJ22.out; have := HJ32.out; omega
                          case rel => exact ⟨(y194), (true), (wrap64 (x9_4 + 1)), (by first | rfl | (simp; done) | (simp [*]; done)), (by first | rfl | (simp; done) | (simp [*]; done)), H', ⟨by have := HK1.out; have := HK2.out; have := HK3.out; have := HK4.out; have := HJ22.out; have := HJ32.out; omega⟩, ⟨by (try simp only [hl5_4]); (with_reducible repeat (first | apply Kd.R_alloc | apply Kd.R_drewN | apply Kd.R_drew)); exact HO_5.out⟩, ⟨by repeat (first | (with_reducible first | exact HB.out | apply below_alloc | apply pw_below_drewN | apply below_drew1) | exact HB.out)⟩⟩
                         ·rw [if_neg c39] at H
                          exact absurd H (by simp)
                        ·rw [if_neg c38] at H
                         exact absurd H (by simp)
                       ·replace c37 := Bool.eq_false_iff.mpr c37
                        subst c37
                        have H1 : (runnelref13_marks.l3 kj32 l0 x5_4 x7_4 x8_3 (wrap64 (x9_4 + 1))) = some r := by rw [if_neg (show ¬ (false = true) by decide)] at H; exact H
                        clear H
                        have H := H1
                        clear H1
                        have H' := Aside0.mk H
                        clear H
                        go_wp2
                        (try simp only [← hl5_4])
                        go_roundg kj32
                        case measure => have := HK1.out; have := HK2.out; have := HK3.out; have := HK4.out; have := HJ22.out; have := HJ32.out; omega
                        case rel => exact ⟨(x5_4), (x7_4), (wrap64 (x9_4 + 1)), (by first | rfl | (simp; done) | (simp [*]; done)), (by first | rfl | (simp; done) | (simp [*]; done)), H', ⟨by have := HK1.out; have := HK2.out; have := HK3.out; have := HK4.out; have := HJ22.out; have := HJ32.out; omega⟩, ⟨by (try simp only [hl5_4]); (with_reducible repeat (first | apply Kd.R_alloc | apply Kd.R_drewN | apply Kd.R_drew)); exact HO_5.out⟩, ⟨by repeat (first | (with_reducible first | exact HB.out | apply below_alloc | apply pw_below_drewN | apply below_drew1) | exact HB.out)⟩⟩
                    ·rw [if_neg c32] at H
                     exact absurd H (by simp)
                   ·rw [if_neg c31] at H
                    exact absurd H (by simp)
                  ·rw [if_neg c30] at H
                   exact absurd H (by simp)
                 ·rw [if_neg c29] at H
                  exact absurd H (by simp)
                ·replace c28 := Bool.eq_false_iff.mpr c28
                 subst c28
                 have H1 : (runnelref13_marks.l2 kj22 l0 x5_4 x7_4 (wrap64 (x8_3 + 1))) = some r := by rw [if_neg (show ¬ (false = true) by decide)] at H; exact H
                 clear H
                 have H := H1
                 clear H1
                 have H' := Aside0.mk H
                 clear H
                 go_wp2
                 (try simp only [← hl5_4])
                 go_roundg kj22
                 case measure => have := HK1.out; have := HK2.out; have := HK3.out; have := HK4.out; have := HJ22.out; omega
                 case rel => exact ⟨(x5_4), (x7_4), (wrap64 (x8_3 + 1)), (by first | rfl | (simp; done) | (simp [*]; done)), (by first | rfl | (simp; done) | (simp [*]; done)), H', ⟨by have := HK1.out; have := HK2.out; have := HK3.out; have := HK4.out; have := HJ22.out; omega⟩, ⟨by (try simp only [hl5_4]); (with_reducible repeat (first | apply Kd.R_alloc | apply Kd.R_drewN | apply Kd.R_drew)); exact HO_5.out⟩, ⟨by repeat (first | (with_reducible first | exact HB.out | apply below_alloc | apply pw_below_drewN | apply below_drew1) | exact HB.out)⟩⟩
           ·rw [if_neg c21] at H
            have c21b0 : decide (x8_3 < (x5_3.length : Int)) = false := decide_eq_false c21
            clear c21
            have H' := Aside0.mk H
            clear H
            obtain ⟨Ao43, co43, eo43⟩ := Kd.R_slice HO_5.out
            subst eo43
            go_wp2
            go_roundg k3
            case measure => have := HK1.out; have := HK2.out; have := HK3.out; omega
            case rel => exact ⟨(x5_3), (x7_3), (by first | rfl | (simp; done) | (simp [*]; done)), H', ⟨by have := HK1.out; have := HK2.out; have := HK3.out; omega⟩, ⟨by (with_reducible repeat (first | apply Kd.R_alloc | apply Kd.R_drewN | apply Kd.R_drew)); exact HO_5.out⟩, ⟨by repeat (first | (with_reducible first | exact HB.out | apply below_alloc | apply pw_below_drewN | apply below_drew1) | exact HB.out)⟩⟩
        ·replace c20 := Bool.eq_false_iff.mpr c20
         subst c20
         have H1 : (some x5_2) = some r := by rw [if_neg (show ¬ (false = true) by decide)] at H; exact H
         clear H
         have H := H1
         clear H1
         obtain rfl := Option.some.inj H
         go_wp2
         go_ret
         exact ⟨_, by first | rfl | (simp [errW_none, errW_some] <;> rfl) | (simp [*, errW_none, errW_some] <;> rfl), by (with_reducible repeat (first | apply Kd.R_alloc | apply Kd.R_drewN | apply Kd.R_drew)); exact HO_5.out, by repeat (first | (with_reducible first | exact HB.out | apply below_alloc | apply pw_below_drewN | apply below_drew1) | exact HB.out)⟩
  ·rw [if_neg c4] at H
   exact absurd H (by simp)
 ·rw [if_neg c3] at H
  exact absurd H (by simp)

end Go.Proofs.Ytkgkhakjodlpgaa.C
