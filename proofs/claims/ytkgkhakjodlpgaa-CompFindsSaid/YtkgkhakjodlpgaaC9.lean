/- Functions of the program as plain Lean functions, and that each call comes to what they say; printed by a program. -/
import Derived.Test.YtkgkhakjodlpgaaC0
import Derived.Test.YtkgkhakjodlpgaaC8
import Derived.Test.YtkgkhakjodlpgaaC1
namespace Go.Proofs.Ytkgkhakjodlpgaa.C
open Go.RowKit Go.Proofs.YtkgkhakjodlpgaaW.PrintWords Go.Proofs.YtkgkhakjodlpgaaW.PrintLast Go.Proofs.YtkgkhakjodlpgaaW.PrintMore Go.Proofs.Ytkgkhakjodlpgaa.Ext Go.Proofs.Ytkgkhakjodlpgaa.Ca Go.Proofs.Ytkgkhakjodlpgaa.Cv
attribute [local go_sem] max2_int min2_int max_two min_two max_three min_three max_four min_four   -- for this text's walks alone
set_option linter.unusedVariables false
set_option linter.unusedSimpArgs false

/-! ### runnelref13_Number: function 46 -/
mutual
def runnelref13_Number.l0 : Nat → List Int → List (List Int) → Int → Option (List Int)
 | 0, _, _, _ => none
 | k + 1, x3, x4, x5 => if x5 < (x4.length : Int) then (runnelref13_Number.l1 k x3 x4 x5 0) else (some x3)
def runnelref13_Number.l1 : Nat → List Int → List (List Int) → Int → Int → Option (List Int)
 | 0, _, _, _, _ => none
 | k + 1, x3, x4, x5, x6 => if 0 ≤ x5 then (if x5 < (x4.length : Int) then (if x6 < ((rd_L1 x4 x5).length : Int) then (if 0 ≤ x6 then (if 0 ≤ (rd (rd_L1 x4 x5) x6) then (if (rd (rd_L1 x4 x5) x6) < (x3.length : Int) then (runnelref13_Number.l1 k (x3.set ((rd (rd_L1 x4 x5) x6) : Int).toNat x5) x4 x5 (wrap64 (x6 + 1))) else (none)) else (none)) else (none)) else (runnelref13_Number.l0 k x3 x4 (wrap64 (x5 + 1)))) else (none)) else (none)
end
def runnelref13_Number.f (k : Nat) (l0 : List (List Int)) : Option (List Int) := if 0 ≤ (l0.length : Int) then (if ((l0.length : Int) : Int).toNat ≤ 35184372088832 then ((runnelref13_Components.f k l0).bind fun t227 => (runnelref13_Number.l0 k (List.replicate ((l0.length : Int) : Int).toNat 0) t227 0)) else (none)) else (none)
theorem runnelref13_Number.mono_l : ∀ k, (∀ y0 y1 y2, LeO (runnelref13_Number.l0 k y0 y1 y2) (runnelref13_Number.l0 (k + 1) y0 y1 y2)) ∧ (∀ y0 y1 y2 y3, LeO (runnelref13_Number.l1 k y0 y1 y2 y3) (runnelref13_Number.l1 (k + 1) y0 y1 y2 y3))
 | 0 => ⟨fun _ _ _ r h => by simp [runnelref13_Number.l0] at h, fun _ _ _ _ r h => by simp [runnelref13_Number.l1] at h⟩
 | k + 1 => by
  obtain ⟨ih0, ih1⟩ := runnelref13_Number.mono_l k
  refine ⟨?_, ?_⟩
  ·intro y0 y1 y2
   unfold runnelref13_Number.l0
   repeat' first
   | (with_reducible exact ih0 _ _ _)
   | (with_reducible exact ih1 _ _ _ _)
   | (with_reducible exact runnelref13_Components.mono _ _)
   | (with_reducible exact LeO.refl _)
   | (with_reducible exact LeO.none _)
   | (with_reducible refine LeO.ite ?_ ?_)
   | (with_reducible refine LeO.bind ?_ (fun _ => ?_))
   | exact ih0 _ _ _
   | exact ih1 _ _ _ _
   | exact runnelref13_Components.mono _ _
   | exact LeO.none _
   | refine LeO.ite ?_ ?_
   | refine LeO.bind ?_ (fun _ => ?_)
  ·intro y0 y1 y2 y3
   unfold runnelref13_Number.l1
   repeat' first
   | (with_reducible exact ih0 _ _ _)
   | (with_reducible exact ih1 _ _ _ _)
   | (with_reducible exact runnelref13_Components.mono _ _)
   | (with_reducible exact LeO.refl _)
   | (with_reducible exact LeO.none _)
   | (with_reducible refine LeO.ite ?_ ?_)
   | (with_reducible refine LeO.bind ?_ (fun _ => ?_))
   | exact ih0 _ _ _
   | exact ih1 _ _ _ _
   | exact runnelref13_Components.mono _ _
   | exact LeO.none _
   | refine LeO.ite ?_ ?_
   | refine LeO.bind ?_ (fun _ => ?_)
theorem runnelref13_Number.mono : ∀ a0 k, LeO (runnelref13_Number.f k a0) (runnelref13_Number.f (k + 1) a0) := by
 intro a0 k
 obtain ⟨ih0, ih1⟩ := runnelref13_Number.mono_l k
 unfold runnelref13_Number.f
 repeat' first
   | (with_reducible exact ih0 _ _ _)
   | (with_reducible exact ih1 _ _ _ _)
   | (with_reducible exact runnelref13_Components.mono _ _)
   | (with_reducible exact LeO.refl _)
   | (with_reducible exact LeO.none _)
   | (with_reducible refine LeO.ite ?_ ?_)
   | (with_reducible refine LeO.bind ?_ (fun _ => ?_))
   | exact ih0 _ _ _
   | exact ih1 _ _ _ _
   | exact runnelref13_Components.mono _ _
   | exact LeO.none _
   | refine LeO.ite ?_ ?_
   | refine LeO.bind ?_ (fun _ => ?_)
set_option maxHeartbeats 8000000 in
set_option maxRecDepth 100000 in
theorem runnelref13_Number.calls (k : Nat) (A0 : Option Addr) (c0 : Nat) (l0 : List (List Int)) (r : List Int) (w : World) (hr0 : Kd.C (Kd.slice 3 (Kd.int .i64)) w A0 l0.length l0) (hc0 : l0.length ≤ c0) (h : runnelref13_Number.f k l0 = some r) :
  Calls Try.prog 46 #[.slice A0 l0.length c0] w fun e w' => ∃ v0_ : Value, e = .returned (v0_) ∧ Kd.R (Kd.int .i64) 3 w' w.heap.size (fun _ => True) v0_ r ∧ Below w.heap.size w w' := by
 have HR0 := Aside0.mk hr0
 have HC0 := Aside0.mk hc0
 clear hr0 hc0
 have HB := Aside0.mk (Below.refl w.heap.size w)
 have H : (if 0 ≤ (l0.length : Int) then (if ((l0.length : Int) : Int).toNat ≤ 35184372088832 then ((runnelref13_Components.f k l0).bind fun t227 => (runnelref13_Number.l0 k (List.replicate ((l0.length : Int) : Int).toNat 0) t227 0)) else (none)) else (none)) = some r := h
 clear h
 by_cases c2 : 0 ≤ (l0.length : Int)
 ·rw [if_pos c2] at H
  have c2b0 := eq_true c2
  have c2b1 : decide (0 ≤ (l0.length : Int)) = true := decide_eq_true c2
  clear c2
  by_cases c3 : ((l0.length : Int) : Int).toNat ≤ 35184372088832
  ·rw [if_pos c3] at H
   have c3b0 := eq_true c3
   have c3b1 : decide (((l0.length : Int) : Int).toNat ≤ 35184372088832) = true := decide_eq_true c3
   clear c3
   obtain ⟨y224, hy224⟩ : ∃ y_ : List Int, y_ = (List.replicate ((l0.length : Int) : Int).toNat 0) := ⟨_, rfl⟩
   replace H : ((runnelref13_Components.f k l0).bind fun t227 => (runnelref13_Number.l0 k y224 t227 0)) = some r := by first | (rw [hy224]; with_reducible exact H) | (have H2_ := (Option.bind_some _ _).symm.trans H; rw [hy224]; with_reducible exact H2_) | (have H2_ := (Option.bind_some _ _).symm.trans H; with_reducible exact H2_) | with_reducible exact H | (rw [hy224]; exact H) | exact H
   have Ny224 := Aside0.mk hy224
   clear hy224
   replace H := Option.bind_eq_some_iff.mp H
   obtain ⟨t227, A40, H⟩ := H
   replace H : (runnelref13_Number.l0 k y224 t227 0) = some r := H
   have A4 := Aside0.mk A40
   clear A40
   have H' := Aside0.mk H
   clear H
   go_enter Try.func46, Try.ntmps46
   go_wp2_with (first | ((with_reducible refine gate_dst (N := 9) rfl ?_); refine Kd.R_make (Kd.int .i64) _ 3 rfl (N := 9) rfl 53 _ _ rfl (l0.length : Int) rfl rfl Try.underlying53 (.int .i64 0) 8 info3 rfl (by decide) (by omega) 0 (ok := fun _ => True) (okp := fun _ => True) rfl (fun _ hk => hk) trivial (of_decide_eq_true (by first | (with_reducible assumption) | assumption)) (Nat.le_trans (Nat.mul_le_mul_right _ (of_decide_eq_true (by first | (with_reducible assumption) | assumption) : (l0.length : Int).toNat ≤ 35184372088832)) (by omega)) (Below.refl _ _) (Nat.le_refl _) ?_; intro v225 w5 ho6 hb hg_ hnew_; clear hg_ hnew_; (first | rw [← Ny224.out] at ho6 | (simp only [Int.reduceToNat] at ho6; rw [← Ny224.out] at ho6)); have n0_ := Aside0.mk (Kd.R_lower ho6 (below_size (by repeat (first | (with_reducible first | exact HB.out | apply below_alloc | apply pw_below_drewN | apply below_drew1) | exact HB.out)))); have n1_ := Aside0.mk (below_step (by repeat (first | (with_reducible first | exact HB.out | apply below_alloc | apply pw_below_drewN | apply below_drew1) | exact HB.out)) hb); clear HB; have HO226 := n0_; have HB := n1_; clear n0_ n1_; clear hb ho6) | ((with_reducible refine gate_callee (f := 43) rfl ?_); refine goesL_ (some 11) rfl rfl Try.func43 (by kernel_rfl) rfl #[.slice A0 l0.length c0] rfl (by (try simp only [List.map_toArray, List.map_cons, List.map_nil]); first | done | rfl | (simp only [List.length_drop, List.length_take]; rfl)) ?_; (with_reducible refine (runnelref13_Components.calls k _ _ l0 t227 _ ?side1 ?side2 A4.out).mono ?_); (case side1 => repeat (first | exact (Kd.C_below HR0.out HB.out) | (with_reducible refine Kd.C_alloc ?_ _) | (with_reducible refine Kd.C_drewN ?_ _) | (with_reducible refine Kd.C_drew ?_))); (case side2 => exact HC0.out); rintro e w7 ⟨v228, rfl, ho0, hb⟩; refine ⟨_, rfl, ?_⟩; have n0_ := Aside0.mk (Kd.R_below (by (with_reducible repeat (first | apply Kd.R_alloc | apply Kd.R_drewN | apply Kd.R_drew)); exact HO226.out) hb); have n1_ := Aside0.mk (Kd.S_lower (Kd.S_new' ho0 (Kd.R_lt (by (with_reducible repeat (first | apply Kd.R_alloc | apply Kd.R_drewN | apply Kd.R_drew)); exact HO226.out))) (below_size (by repeat (first | (with_reducible first | exact HB.out | apply below_alloc | apply pw_below_drewN | apply below_drew1) | exact HB.out)))); have n2_ := Aside0.mk (below_step (by repeat (first | (with_reducible first | exact HB.out | apply below_alloc | apply pw_below_drewN | apply below_drew1) | exact HB.out)) hb); clear HO226; clear HB; have HO226 := n0_; have HO229 := n1_; have HB := n2_; clear n0_ n1_ n2_; (try clear hb); (try clear hb2); (try clear hk); (try clear hi); (try clear ho0)))
   go_loopg [5] k (fun kq v5 w' => ∃ (x3_1 : List Int) (x5_1 : Int), v5 = .int .i64 x5_1 ∧ Aside0 (runnelref13_Number.l0 kq x3_1 t227 x5_1 = some r) ∧ Aside0 (kq ≤ k) ∧ Aside0 (Kd.R (Kd.int .i64) 3 w' w.heap.size (fun _ => True) v225 x3_1) ∧ Aside0 (Kd.S (Kd.slice 3 (Kd.int .i64)) 53 w' w.heap.size (fun k_ => some k_ ≠ (v225 : Value).ownBlock) v228 t227) ∧ Aside0 (Below w.heap.size w w'))
   case atStart => exact ⟨(y224), (0), (by first | rfl | (simp; done) | (simp [*]; done)), H', ⟨Nat.le_refl _⟩, ⟨by (with_reducible repeat (first | apply Kd.R_alloc | apply Kd.R_drewN | apply Kd.R_drew)); exact HO226.out⟩, ⟨by (with_reducible repeat (first | apply Kd.S_alloc | apply Kd.S_drewN | apply Kd.S_drew)); exact Kd.S_mono HO229.out (fun _ hk => hk.2)⟩, ⟨by repeat (first | (with_reducible first | exact HB.out | apply below_alloc | apply pw_below_drewN | apply below_drew1) | exact HB.out)⟩⟩
   case round =>
    clear H'
    try clear c2
    try clear c2b0
    try clear c2b1
    try clear p2
    try clear c3
    try clear c3b0
    try clear c3b1
    try clear c4
    obtain ⟨x3_1, x5_1, rfl, HA, HK1, HO_3, HO_4, HB⟩ := hrel
    cases gk with
    | zero => exact absurd HA.out (by simp [runnelref13_Number.l0])
    | succ k1 =>
     have H := HA.out
     clear HA
     simp only [runnelref13_Number.l0] at H
     by_cases c8 : x5_1 < (t227.length : Int)
     ·rw [if_pos c8] at H
      have c8b0 : decide (x5_1 < (t227.length : Int)) = true := decide_eq_true c8
      clear c8
      have H' := Aside0.mk H
      clear H
      obtain ⟨Ao9, co9, eo9⟩ := Kd.S_slice HO_4.out
      subst eo9
      go_wp2
      go_loopg [6] k1 (fun kq v6 w' => ∃ (x3_2 : List Int) (x6_2 : Int), v6 = .int .i64 x6_2 ∧ Aside0 (runnelref13_Number.l1 kq x3_2 t227 x5_1 x6_2 = some r) ∧ Aside0 (kq ≤ k1) ∧ Aside0 (Kd.R (Kd.int .i64) 3 w' w.heap.size (fun _ => True) v225 x3_2) ∧ Aside0 (Kd.S (Kd.slice 3 (Kd.int .i64)) 53 w' w.heap.size (fun k_ => some k_ ≠ (v225 : Value).ownBlock) (.slice Ao9 t227.length co9) t227) ∧ Aside0 (Below w.heap.size w w'))
      case atStart => exact ⟨(x3_1), (0), (by first | rfl | (simp; done) | (simp [*]; done)), H', ⟨Nat.le_refl _⟩, ⟨by (with_reducible repeat (first | apply Kd.R_alloc | apply Kd.R_drewN | apply Kd.R_drew)); exact HO_3.out⟩, ⟨by (with_reducible repeat (first | apply Kd.S_alloc | apply Kd.S_drewN | apply Kd.S_drew)); exact HO_4.out⟩, ⟨by repeat (first | (with_reducible first | exact HB.out | apply below_alloc | apply pw_below_drewN | apply below_drew1) | exact HB.out)⟩⟩
      case round =>
       clear H'
       try clear c2
       try clear c2b0
       try clear c2b1
       try clear p2
       try clear c3
       try clear c3b0
       try clear c3b1
       try clear c4
       try clear c8
       try clear c8b0
       try clear p2
       obtain ⟨x3_2, x6_2, rfl, HA, HK2, HO_3, HO_4, HB⟩ := hrel
       cases gk with
       | zero => exact absurd HA.out (by simp [runnelref13_Number.l1])
       | succ k2 =>
        have H := HA.out
        clear HA
        simp only [runnelref13_Number.l1] at H
        by_cases c10 : 0 ≤ x5_1
        ·rw [if_pos c10] at H
         have c10b0 : decide (0 ≤ x5_1) = true := decide_eq_true c10
         clear c10
         by_cases c11 : x5_1 < (t227.length : Int)
         ·rw [if_pos c11] at H
          have c11b0 : decide (x5_1 < (t227.length : Int)) = true := decide_eq_true c11
          clear c11
          by_cases c12 : x6_2 < ((rd_L1 t227 x5_1).length : Int)
          ·rw [if_pos c12] at H
           have c12b0 : decide (x6_2 < ((rd_L1 t227 x5_1).length : Int)) = true := decide_eq_true c12
           clear c12
           by_cases c13 : 0 ≤ x6_2
           ·rw [if_pos c13] at H
            have c13b0 : decide (0 ≤ x6_2) = true := decide_eq_true c13
            clear c13
            by_cases c14 : 0 ≤ (rd (rd_L1 t227 x5_1) x6_2)
            ·rw [if_pos c14] at H
             have c14b0 : decide (0 ≤ (rd (rd_L1 t227 x5_1) x6_2)) = true := decide_eq_true c14
             clear c14
             by_cases c15 : (rd (rd_L1 t227 x5_1) x6_2) < (x3_2.length : Int)
             ·rw [if_pos c15] at H
              have c15b0 : decide ((rd (rd_L1 t227 x5_1) x6_2) < (x3_2.length : Int)) = true := decide_eq_true c15
              clear c15
              obtain ⟨y233, hy233⟩ : ∃ y_ : List Int, y_ = (x3_2.set ((rd (rd_L1 t227 x5_1) x6_2) : Int).toNat x5_1) := ⟨_, rfl⟩
              replace H : (runnelref13_Number.l1 k2 y233 t227 x5_1 (wrap64 (x6_2 + 1))) = some r := by first | (rw [hy233]; with_reducible exact H) | (have H2_ := (Option.bind_some _ _).symm.trans H; rw [hy233]; with_reducible exact H2_) | (have H2_ := (Option.bind_some _ _).symm.trans H; with_reducible exact H2_) | with_reducible exact H | (rw [hy233]; exact H) | exact H
              have Ny233 := Aside0.mk hy233
              clear hy233
              have H' := Aside0.mk H
              clear H
              have p230 : 0 ≤ (x5_1 : Int) := of_decide_eq_true (by first | (with_reducible assumption) | assumption)
              have q230 : x5_1 < (t227.length : Int) := of_decide_eq_true (by first | (with_reducible assumption) | assumption)
              obtain ⟨ad230, A230_0, c230_0, e230, hx230_0, hl230_0, hi230_0⟩ := at_L1 (Kd.S_reads' HO_4.out).2.2 x5_1 p230 q230
              cases e230
              obtain ⟨ce230, hce230, hMe230, hcc230⟩ := Kd.S_get HO_4.out [] x5_1 p230 (by first | exact q230 | exact of_decide_eq_true (by first | (with_reducible assumption) | assumption) | (have e_ := (Kd.S_reads' HO_4.out).1; omega))
              obtain ⟨ve230_0, rfl, ge230_0⟩ := hMe230
              have hv230_0 := hcc230 0 _ rfl
              rw [Nat.add_zero, show ((Kd.slice 3 (Kd.int .i64))).sz = 1 from rfl, Nat.mul_one] at hv230_0
              replace hv230_0 := Option.some.inj (hv230_0.symm.trans hx230_0)
              rw [hv230_0] at ge230_0
              have HL230_0 := Aside0.mk (show Kd.R (Kd.int .i64) 3 _ _ _ _ (rd_L1 t227 x5_1) from ge230_0)
              clear hv230_0 ge230_0
              clear hcc230 hce230
              have HR230_0 := Aside0.mk hi230_0
              have HC230_0 := Aside0.mk hl230_0
              clear hi230_0 hl230_0
              replace p230 := eq_true p230
              replace q230 := eq_true q230
              have p231 : 0 ≤ (x5_1 : Int) := of_decide_eq_true (by first | (with_reducible assumption) | assumption)
              have q231 : x5_1 < (t227.length : Int) := of_decide_eq_true (by first | (with_reducible assumption) | assumption)
              obtain ⟨ad231, A231_0, c231_0, e231, hx231_0, hl231_0, hi231_0⟩ := at_L1 (Kd.S_reads' HO_4.out).2.2 x5_1 p231 q231
              obtain rfl : ad230 = ad231 := (by injection e231)
              obtain ⟨ce231, hce231, hMe231, hcc231⟩ := Kd.S_get HO_4.out [] x5_1 p231 (by first | exact q231 | exact of_decide_eq_true (by first | (with_reducible assumption) | assumption) | (have e_ := (Kd.S_reads' HO_4.out).1; omega))
              obtain ⟨ve231_0, rfl, ge231_0⟩ := hMe231
              have hv231_0 := hcc231 0 _ rfl
              rw [Nat.add_zero, show ((Kd.slice 3 (Kd.int .i64))).sz = 1 from rfl, Nat.mul_one] at hv231_0
              replace hv231_0 := Option.some.inj (hv231_0.symm.trans hx231_0)
              rw [hv231_0] at ge231_0
              have HL231_0 := Aside0.mk (show Kd.R (Kd.int .i64) 3 _ _ _ _ (rd_L1 t227 x5_1) from ge231_0)
              clear hv231_0 ge231_0
              clear hcc231 hce231
              have HR231_0 := Aside0.mk hi231_0
              have HC231_0 := Aside0.mk hl231_0
              clear hi231_0 hl231_0
              replace p231 := eq_true p231
              replace q231 := eq_true q231
              have ea_ := Option.some.inj (hx230_0.symm.trans hx231_0)
              injection ea_ with ea_ en_ ec_
              subst ea_
              subst ec_
              clear en_
              have p232 : 0 ≤ (x6_2 : Int) := of_decide_eq_true (by first | (with_reducible assumption) | assumption)
              have q232 : x6_2 < ((rd_L1 t227 x5_1).length : Int) := of_decide_eq_true (by first | (with_reducible assumption) | assumption)
              obtain ⟨ad232, e232, hx232_0⟩ := Kd.at_int (by repeat (first | (with_reducible exact HR231_0.out) | (with_reducible refine Kd.C_alloc ?_ _) | (with_reducible refine Kd.C_drewN ?_ _) | (with_reducible refine Kd.C_drew ?_) | exact HR231_0.out)) x6_2 p232 q232
              cases e232
              replace p232 := eq_true p232
              replace q232 := eq_true q232
              have p16 : 0 ≤ ((rd (rd_L1 t227 x5_1) x6_2) : Int) := of_decide_eq_true (by first | (with_reducible assumption) | assumption)
              have q16 : ((rd (rd_L1 t227 x5_1) x6_2) : Int) < ((x3_2.length : Int) : Int) := of_decide_eq_true (by first | (with_reducible assumption) | assumption)
              obtain ⟨go16, co16, eo16, gb16, gl16, cl16, HG16⟩ := Kd.R_form HO_3.out (by omega)
              (first | cases eo16 | (injection eo16 with ea_ en_ ec_; (first | subst ea_ | (injection ea_ with ea_; subst ea_)); subst ec_; clear en_))
              have GB16 := Aside0.mk gb16
              have GG16 := Aside0.mk HG16
              clear gb16 gl16 HG16
              obtain ⟨hx16_0, hf16_0⟩ := Kd.R_celln 0 HO_3.out ((rd (rd_L1 t227 x5_1) x6_2) : Int) p16 q16
              replace p16 := eq_true p16
              replace q16 := eq_true q16
              have HP17 := Kd.R_putg HO_3.out ((rd (rd_L1 t227 x5_1) x6_2) : Int) x5_1
              go_wp2_with (first | ((with_reducible refine gate_store (t := 3) (p := 36) rfl ?_); refine store_event (t := 3) (p := 36) (v := ?vo_w18) (w1 := (wr.setCell ⟨go16, ((rd (rd_L1 t227 x5_1) x6_2) : Int).toNat, none⟩ (.int .i64 x5_1))) ?hg ?ho ?hn ?hr ?_; (case ho => rfl); (case hg => rfl); (case hn => rfl); (case hr => first | (go_simp; done) | (go_simp; rfl)); intro w18 hw; have hg : wr.grownBy w18 (some go16) := (by rw [hw]; exact HP17.2); have hp_ : Kd.R (Kd.int .i64) 3 w18 w.heap.size (fun _ => True) (.slice (some ⟨go16, 0, none⟩) x3_2.length co16) y233 := (by rw [hw, Ny233.out]; exact HP17.1); clear HP17; have n0_ := Aside0.mk (hp_); have n1_ := Aside0.mk (Kd.S_after (v := (.slice (some ⟨go16, 0, none⟩) x3_2.length co16)) (v1 := (.slice (some ⟨go16, 0, none⟩) x3_2.length co16)) (ok := (fun _ => True)) (by (with_reducible repeat (first | apply Kd.S_alloc | apply Kd.S_drewN | apply Kd.S_drew)); exact Kd.S_mono HO_4.out (fun _ hk => ⟨trivial, hk⟩)) hg (.inl rfl)); have n2_ := Aside0.mk (Kd.R_after (v := (.slice (some ⟨go16, 0, none⟩) x3_2.length co16)) (v1 := (.slice (some ⟨go16, 0, none⟩) x3_2.length co16)) (ok := (fun k_ => some k_ ≠ (.slice (some ad230) t227.length co9 : Value).ownBlock)) (by (with_reducible repeat (first | apply Kd.R_alloc | apply Kd.R_drewN | apply Kd.R_drew)); exact Kd.R_mono HL230_0.out (fun _ hk => ⟨hk.2, hk.1⟩)) hg (.inl rfl)); have n3_ := Aside0.mk (Kd.R_after (v := (.slice (some ⟨go16, 0, none⟩) x3_2.length co16)) (v1 := (.slice (some ⟨go16, 0, none⟩) x3_2.length co16)) (ok := (fun k_ => some k_ ≠ (.slice (some ad230) t227.length co9 : Value).ownBlock)) (by (with_reducible repeat (first | apply Kd.R_alloc | apply Kd.R_drewN | apply Kd.R_drew)); exact Kd.R_mono HL231_0.out (fun _ hk => ⟨hk.2, hk.1⟩)) hg (.inl rfl)); have n4_ := Aside0.mk ((by rw [hw]; exact below_set (HB.out) GB16.out : Below w.heap.size w w18)); clear HO_3; clear HO_4; clear HL230_0; clear HL231_0; clear HB; have HO_3 := n0_; have HO_4 := n1_; have HL230_0 := n2_; have HL231_0 := n3_; have HB := n4_; clear n0_ n1_ n2_ n3_ n4_; clear hg hw hp_))
              go_roundg k2
              case measure => have := HK1.out; have := HK2.out; omega
              case rel => exact ⟨(y233), (wrap64 (x6_2 + 1)), (by first | rfl | (simp; done) | (simp [*]; done)), H', ⟨by have := HK1.out; have := HK2.out; omega⟩, ⟨by (with_reducible repeat (first | apply Kd.R_alloc | apply Kd.R_drewN | apply Kd.R_drew)); exact HO_3.out⟩, ⟨by (with_reducible repeat (first | apply Kd.S_alloc | apply Kd.S_drewN | apply Kd.S_drew)); exact Kd.S_mono HO_4.out (fun _ hk => hk.2)⟩, ⟨by repeat (first | (with_reducible first | exact HB.out | apply below_alloc | apply pw_below_drewN | apply below_drew1) | exact HB.out)⟩⟩
             ·rw [if_neg c15] at H
              exact absurd H (by simp)
            ·rw [if_neg c14] at H
             exact absurd H (by simp)
           ·rw [if_neg c13] at H
            exact absurd H (by simp)
          ·rw [if_neg c12] at H
           have c12b0 : decide (x6_2 < ((rd_L1 t227 x5_1).length : Int)) = false := decide_eq_false c12
           clear c12
           have H' := Aside0.mk H
           clear H
           have p230 : 0 ≤ (x5_1 : Int) := of_decide_eq_true (by first | (with_reducible assumption) | assumption)
           have q230 : x5_1 < (t227.length : Int) := of_decide_eq_true (by first | (with_reducible assumption) | assumption)
           obtain ⟨ad230, A230_0, c230_0, e230, hx230_0, hl230_0, hi230_0⟩ := at_L1 (Kd.S_reads' HO_4.out).2.2 x5_1 p230 q230
           cases e230
           obtain ⟨ce230, hce230, hMe230, hcc230⟩ := Kd.S_get HO_4.out [] x5_1 p230 (by first | exact q230 | exact of_decide_eq_true (by first | (with_reducible assumption) | assumption) | (have e_ := (Kd.S_reads' HO_4.out).1; omega))
           obtain ⟨ve230_0, rfl, ge230_0⟩ := hMe230
           have hv230_0 := hcc230 0 _ rfl
           rw [Nat.add_zero, show ((Kd.slice 3 (Kd.int .i64))).sz = 1 from rfl, Nat.mul_one] at hv230_0
           replace hv230_0 := Option.some.inj (hv230_0.symm.trans hx230_0)
           rw [hv230_0] at ge230_0
           have HL230_0 := Aside0.mk (show Kd.R (Kd.int .i64) 3 _ _ _ _ (rd_L1 t227 x5_1) from ge230_0)
           clear hv230_0 ge230_0
           clear hcc230 hce230
           have HR230_0 := Aside0.mk hi230_0
           have HC230_0 := Aside0.mk hl230_0
           clear hi230_0 hl230_0
           replace p230 := eq_true p230
           replace q230 := eq_true q230
           go_wp2
           go_roundg k2
           case measure => have := HK1.out; have := HK2.out; omega
           case rel => exact ⟨(x3_2), (wrap64 (x5_1 + 1)), (by first | rfl | (simp; done) | (simp [*]; done)), H', ⟨by have := HK1.out; have := HK2.out; omega⟩, ⟨by (with_reducible repeat (first | apply Kd.R_alloc | apply Kd.R_drewN | apply Kd.R_drew)); exact HO_3.out⟩, ⟨by (with_reducible repeat (first | apply Kd.S_alloc | apply Kd.S_drewN | apply Kd.S_drew)); exact HO_4.out⟩, ⟨by repeat (first | (with_reducible first | exact HB.out | apply below_alloc | apply pw_below_drewN | apply below_drew1) | exact HB.out)⟩⟩
         ·rw [if_neg c11] at H
          exact absurd H (by simp)
        ·rw [if_neg c10] at H
         exact absurd H (by simp)
     ·rw [if_neg c8] at H
      have c8b0 : decide (x5_1 < (t227.length : Int)) = false := decide_eq_false c8
      clear c8
      obtain rfl := Option.some.inj H
      obtain ⟨Ao19, co19, eo19⟩ := Kd.S_slice HO_4.out
      subst eo19
      go_wp2
      go_ret
      exact ⟨_, by first | rfl | (simp [errW_none, errW_some] <;> rfl) | (simp [*, errW_none, errW_some] <;> rfl), by (with_reducible repeat (first | apply Kd.R_alloc | apply Kd.R_drewN | apply Kd.R_drew)); exact HO_3.out, by repeat (first | (with_reducible first | exact HB.out | apply below_alloc | apply pw_below_drewN | apply below_drew1) | exact HB.out)⟩
  ·rw [if_neg c3] at H
   exact absurd H (by simp)
 ·rw [if_neg c2] at H
  exact absurd H (by simp)

/-! ### runnelref13_Above: function 48 -/
mutual
def runnelref13_Above.l0 : Nat → List (List Int) → List (List Int) → List Int → List (List Int) → Int → Option ((List (List Int)))
 | 0, _, _, _, _, _ => none
 | k + 1, x0, x3, x4, x5, x6 => if x6 < (x3.length : Int) then (if 0 ≤ (x3.length : Int) then (if ((x3.length : Int) : Int).toNat ≤ 281474976710656 then (runnelref13_Above.l1 k x0 x3 x4 x5 x6 (List.replicate ((x3.length : Int) : Int).toNat false) 0) else (none)) else (none)) else (some x5)
def runnelref13_Above.l1 : Nat → List (List Int) → List (List Int) → List Int → List (List Int) → Int → List Bool → Int → Option ((List (List Int)))
 | 0, _, _, _, _, _, _, _ => none
 | k + 1, x0, x3, x4, x5, x6, x7, x8 => if 0 ≤ x6 then (if x6 < (x3.length : Int) then (if x8 < ((rd_L1 x3 x6).length : Int) then (if 0 ≤ x8 then (if 0 ≤ (rd (rd_L1 x3 x6) x8) then (if (rd (rd_L1 x3 x6) x8) < (x0.length : Int) then (runnelref13_Above.l2 k x0 x3 x4 x5 x6 x7 x8 (rd_L1 x0 (rd (rd_L1 x3 x6) x8)) 0) else (none)) else (none)) else (none)) else ((runnelref13_List.f k x7).bind fun t258 => (if x5.length < 5864062014805 then (runnelref13_Above.l0 k x0 x3 x4 (x5 ++ [t258]) (wrap64 (x6 + 1))) else (none)))) else (none)) else (none)
def runnelref13_Above.l2 : Nat → List (List Int) → List (List Int) → List Int → List (List Int) → Int → List Bool → Int → List Int → Int → Option ((List (List Int)))
 | 0, _, _, _, _, _, _, _, _, _ => none
 | k + 1, x0, x3, x4, x5, x6, x7, x8, x9, x10 => if x10 < (x9.length : Int) then (if 0 ≤ x10 then (if (rd x9 x10) ≥ 0 then (if (rd x9 x10) < (x0.length : Int) then (if 0 ≤ (rd x9 x10) then (if (rd x9 x10) < (x4.length : Int) then (runnelref13_Above.j3 k x0 x3 x4 x5 x6 x7 x8 x9 x10 ((rd x4 (rd x9 x10)) != x6)) else (none)) else (none)) else (runnelref13_Above.j3 k x0 x3 x4 x5 x6 x7 x8 x9 x10 false)) else (runnelref13_Above.j3 k x0 x3 x4 x5 x6 x7 x8 x9 x10 false)) else (none)) else (runnelref13_Above.l1 k x0 x3 x4 x5 x6 x7 (wrap64 (x8 + 1)))
def runnelref13_Above.j3 : Nat → List (List Int) → List (List Int) → List Int → List (List Int) → Int → List Bool → Int → List Int → Int → Bool → Option ((List (List Int)))
 | 0, _, _, _, _, _, _, _, _, _, _ => none
 | k + 1, x0, x3, x4, x5, x6, x7, x8, x9, x10, x73 => if x73 = true then (if 0 ≤ x10 then (if x10 < (x9.length : Int) then (if 0 ≤ (rd x9 x10) then (if (rd x9 x10) < (x4.length : Int) then (if 0 ≤ (rd x4 (rd x9 x10)) then (if (rd x4 (rd x9 x10)) < (x7.length : Int) then (runnelref13_Above.l2 k x0 x3 x4 x5 x6 (x7.set ((rd x4 (rd x9 x10)) : Int).toNat true) x8 x9 (wrap64 (x10 + 1))) else (none)) else (none)) else (none)) else (none)) else (none)) else (none)) else (runnelref13_Above.l2 k x0 x3 x4 x5 x6 x7 x8 x9 (wrap64 (x10 + 1)))
end
def runnelref13_Above.f (k : Nat) (l0 : List (List Int)) : Option ((List (List Int))) := (runnelref13_Components.f k l0).bind fun t238 => ((runnelref13_Number.f k l0).bind fun t241 => (runnelref13_Above.l0 k l0 t238 t241 ([] : List (List Int)) 0))
theorem runnelref13_Above.mono_l : ∀ k, (∀ y0 y1 y2 y3 y4, LeO (runnelref13_Above.l0 k y0 y1 y2 y3 y4) (runnelref13_Above.l0 (k + 1) y0 y1 y2 y3 y4)) ∧ (∀ y0 y1 y2 y3 y4 y5 y6, LeO (runnelref13_Above.l1 k y0 y1 y2 y3 y4 y5 y6) (runnelref13_Above.l1 (k + 1) y0 y1 y2 y3 y4 y5 y6)) ∧ (∀ y0 y1 y2 y3 y4 y5 y6 y7 y8, LeO (runnelref13_Above.l2 k y0 y1 y2 y3 y4 y5 y6 y7 y8) (runnelref13_Above.l2 (k + 1) y0 y1 y2 y3 y4 y5 y6 y7 y8)) ∧ (∀ y0 y1 y2 y3 y4 y5 y6 y7 y8 y9, LeO (runnelref13_Above.j3 k y0 y1 y2 y3 y4 y5 y6 y7 y8 y9) (runnelref13_Above.j3 (k + 1) y0 y1 y2 y3 y4 y5 y6 y7 y8 y9))
 | 0 => ⟨fun _ _ _ _ _ r h => by simp [runnelref13_Above.l0] at h, fun _ _ _ _ _ _ _ r h => by simp [runnelref13_Above.l1] at h, fun _ _ _ _ _ _ _ _ _ r h => by simp [runnelref13_Above.l2] at h, fun _ _ _ _ _ _ _ _ _ _ r h => by simp [runnelref13_Above.j3] at h⟩
 | k + 1 => by
  obtain ⟨ih0, ih1, ih2, ih3⟩ := runnelref13_Above.mono_l k
  refine ⟨?_, ?_, ?_, ?_⟩
  ·intro y0 y1 y2 y3 y4
   unfold runnelref13_Above.l0
   repeat' first
   | (with_reducible exact ih0 _ _ _ _ _)
   | (with_reducible exact ih1 _ _ _ _ _ _ _)
   | (with_reducible exact ih2 _ _ _ _ _ _ _ _ _)
   | (with_reducible exact ih3 _ _ _ _ _ _ _ _ _ _)
   | (with_reducible exact runnelref13_Components.mono _ _)
   | (with_reducible exact runnelref13_List.mono _ _)
   | (with_reducible exact runnelref13_Number.mono _ _)
   | (with_reducible exact LeO.refl _)
   | (with_reducible exact LeO.none _)
   | (with_reducible refine LeO.ite ?_ ?_)
   | (with_reducible refine LeO.bind ?_ (fun _ => ?_))
   | exact ih0 _ _ _ _ _
   | exact ih1 _ _ _ _ _ _ _
   | exact ih2 _ _ _ _ _ _ _ _ _
   | exact ih3 _ _ _ _ _ _ _ _ _ _
   | exact runnelref13_Components.mono _ _
   | exact runnelref13_List.mono _ _
   | exact runnelref13_Number.mono _ _
   | exact LeO.none _
   | refine LeO.ite ?_ ?_
   | refine LeO.bind ?_ (fun _ => ?_)
  ·intro y0 y1 y2 y3 y4 y5 y6
   unfold runnelref13_Above.l1
   repeat' first
   | (with_reducible exact ih0 _ _ _ _ _)
   | (with_reducible exact ih1 _ _ _ _ _ _ _)
   | (with_reducible exact ih2 _ _ _ _ _ _ _ _ _)
   | (with_reducible exact ih3 _ _ _ _ _ _ _ _ _ _)
   | (with_reducible exact runnelref13_Components.mono _ _)
   | (with_reducible exact runnelref13_List.mono _ _)
   | (with_reducible exact runnelref13_Number.mono _ _)
   | (with_reducible exact LeO.refl _)
   | (with_reducible exact LeO.none _)
   | (with_reducible refine LeO.ite ?_ ?_)
   | (with_reducible refine LeO.bind ?_ (fun _ => ?_))
   | exact ih0 _ _ _ _ _
   | exact ih1 _ _ _ _ _ _ _
   | exact ih2 _ _ _ _ _ _ _ _ _
   | exact ih3 _ _ _ _ _ _ _ _ _ _
   | exact runnelref13_Components.mono _ _
   | exact runnelref13_List.mono _ _
   | exact runnelref13_Number.mono _ _
   | exact LeO.none _
   | refine LeO.ite ?_ ?_
   | refine LeO.bind ?_ (fun _ => ?_)
  ·intro y0 y1 y2 y3 y4 y5 y6 y7 y8
   unfold runnelref13_Above.l2
   repeat' first
   | (with_reducible exact ih0 _ _ _ _ _)
   | (with_reducible exact ih1 _ _ _ _ _ _ _)
   | (with_reducible exact ih2 _ _ _ _ _ _ _ _ _)
   | (with_reducible exact ih3 _ _ _ _ _ _ _ _ _ _)
   | (with_reducible exact runnelref13_Components.mono _ _)
   | (with_reducible exact runnelref13_List.mono _ _)
   | (with_reducible exact runnelref13_Number.mono _ _)
   | (with_reducible exact LeO.refl _)
   | (with_reducible exact LeO.none _)
   | (with_reducible refine LeO.ite ?_ ?_)
   | (with_reducible refine LeO.bind ?_ (fun _ => ?_))
   | exact ih0 _ _ _ _ _
   | exact ih1 _ _ _ _ _ _ _
   | exact ih2 _ _ _ _ _ _ _ _ _
   | exact ih3 _ _ _ _ _ _ _ _ _ _
   | exact runnelref13_Components.mono _ _
   | exact runnelref13_List.mono _ _
   | exact runnelref13_Number.mono _ _
   | exact LeO.none _
   | refine LeO.ite ?_ ?_
   | refine LeO.bind ?_ (fun _ => ?_)
  ·intro y0 y1 y2 y3 y4 y5 y6 y7 y8 y9
   unfold runnelref13_Above.j3
   repeat' first
   | (with_reducible exact ih0 _ _ _ _ _)
   | (with_reducible exact ih1 _ _ _ _ _ _ _)
   | (with_reducible exact ih2 _ _ _ _ _ _ _ _ _)
   | (with_reducible exact ih3 _ _ _ _ _ _ _ _ _ _)
   | (with_reducible exact runnelref13_Components.mono _ _)
   | (with_reducible exact runnelref13_List.mono _ _)
   | (with_reducible exact runnelref13_Number.mono _ _)
   | (with_reducible exact LeO.refl _)
   | (with_reducible exact LeO.none _)
   | (with_reducible refine LeO.ite ?_ ?_)
   | (with_reducible refine LeO.bind ?_ (fun _ => ?_))
   | exact ih0 _ _ _ _ _
   | exact ih1 _ _ _ _ _ _ _
   | exact ih2 _ _ _ _ _ _ _ _ _
   | exact ih3 _ _ _ _ _ _ _ _ _ _
   | exact runnelref13_Components.mono _ _
   | exact runnelref13_List.mono _ _
   | exact runnelref13_Number.mono _ _
   | exact LeO.none _
   | refine LeO.ite ?_ ?_
   | refine LeO.bind ?_ (fun _ => ?_)
theorem runnelref13_Above.mono : ∀ a0 k, LeO (runnelref13_Above.f k a0) (runnelref13_Above.f (k + 1) a0) := by
 intro a0 k
 obtain ⟨ih0, ih1, ih2, ih3⟩ := runnelref13_Above.mono_l k
 unfold runnelref13_Above.f
 repeat' first
   | (with_reducible exact ih0 _ _ _ _ _)
   | (with_reducible exact ih1 _ _ _ _ _ _ _)
   | (with_reducible exact ih2 _ _ _ _ _ _ _ _ _)
   | (with_reducible exact ih3 _ _ _ _ _ _ _ _ _ _)
   | (with_reducible exact runnelref13_Components.mono _ _)
   | (with_reducible exact runnelref13_List.mono _ _)
   | (with_reducible exact runnelref13_Number.mono _ _)
   | (with_reducible exact LeO.refl _)
   | (with_reducible exact LeO.none _)
   | (with_reducible refine LeO.ite ?_ ?_)
   | (with_reducible refine LeO.bind ?_ (fun _ => ?_))
   | exact ih0 _ _ _ _ _
   | exact ih1 _ _ _ _ _ _ _
   | exact ih2 _ _ _ _ _ _ _ _ _
   | exact ih3 _ _ _ _ _ _ _ _ _ _
   | exact runnelref13_Components.mono _ _
   | exact runnelref13_List.mono _ _
   | exact runnelref13_Number.mono _ _
   | exact LeO.none _
   | refine LeO.ite ?_ ?_
   | refine LeO.bind ?_ (fun _ => ?_)
set_option maxHeartbeats 8000000 in
set_option maxRecDepth 100000 in
theorem runnelref13_Above.calls (k : Nat) (A0 : Option Addr) (c0 : Nat) (l0 : List (List Int)) (r : List (List Int)) (w : World) (hr0 : Kd.C (Kd.slice 3 (Kd.int .i64)) w A0 l0.length l0) (hc0 : l0.length ≤ c0) (h : runnelref13_Above.f k l0 = some r) :
  Calls Try.prog 48 #[.slice A0 l0.length c0] w fun e w' => ∃ v0_ : Value, e = .returned (v0_) ∧ Kd.S (Kd.slice 3 (Kd.int .i64)) 53 w' w.heap.size (fun _ => True) v0_ r ∧ Below w.heap.size w w' := by
 have HR0 := Aside0.mk hr0
 have HC0 := Aside0.mk hc0
 clear hr0 hc0
 have HB := Aside0.mk (Below.refl w.heap.size w)
 have H : ((runnelref13_Components.f k l0).bind fun t238 => ((runnelref13_Number.f k l0).bind fun t241 => (runnelref13_Above.l0 k l0 t238 t241 ([] : List (List Int)) 0))) = some r := h
 clear h
 replace H := Option.bind_eq_some_iff.mp H
 obtain ⟨t238, A20, H⟩ := H
 replace H : ((runnelref13_Number.f k l0).bind fun t241 => (runnelref13_Above.l0 k l0 t238 t241 ([] : List (List Int)) 0)) = some r := H
 have A2 := Aside0.mk A20
 clear A20
 replace H := Option.bind_eq_some_iff.mp H
 obtain ⟨t241, A30, H⟩ := H
 replace H : (runnelref13_Above.l0 k l0 t238 t241 ([] : List (List Int)) 0) = some r := H
 have A3 := Aside0.mk A30
 clear A30
 have H' := Aside0.mk H
 clear H
 go_enter Try.func48, Try.ntmps48
 go_wp2_with (first | ((with_reducible refine gate_callee (f := 43) rfl ?_); refine goesL_ (some 12) rfl rfl Try.func43 (by kernel_rfl) rfl #[.slice A0 l0.length c0] rfl (by (try simp only [List.map_toArray, List.map_cons, List.map_nil]); first | done | rfl | (simp only [List.length_drop, List.length_take]; rfl)) ?_; (with_reducible refine (runnelref13_Components.calls k _ _ l0 t238 _ ?side1 ?side2 A2.out).mono ?_); (case side1 => repeat (first | exact HR0.out | (with_reducible refine Kd.C_alloc ?_ _) | (with_reducible refine Kd.C_drewN ?_ _) | (with_reducible refine Kd.C_drew ?_))); (case side2 => exact HC0.out); rintro e w4 ⟨v239, rfl, ho0, hb⟩; refine ⟨_, rfl, ?_⟩; have n0_ := Aside0.mk (Kd.S_lower ho0 (below_size (by repeat (first | (with_reducible first | exact HB.out | apply below_alloc | apply pw_below_drewN | apply below_drew1) | exact HB.out)))); have n1_ := Aside0.mk (below_step (by repeat (first | (with_reducible first | exact HB.out | apply below_alloc | apply pw_below_drewN | apply below_drew1) | exact HB.out)) hb); clear HB; have HO240 := n0_; have HB := n1_; clear n0_ n1_; (try clear hb); (try clear hb2); (try clear hk); (try clear hi); (try clear ho0)) | ((with_reducible refine gate_callee (f := 46) rfl ?_); refine goesL_ (some 14) rfl rfl Try.func46 (by kernel_rfl) rfl #[.slice A0 l0.length c0] rfl (by (try simp only [List.map_toArray, List.map_cons, List.map_nil]); first | done | rfl | (simp only [List.length_drop, List.length_take]; rfl)) ?_; (with_reducible refine (runnelref13_Number.calls k _ _ l0 t241 _ ?side1 ?side2 A3.out).mono ?_); (case side1 => repeat (first | exact (Kd.C_below HR0.out HB.out) | (with_reducible refine Kd.C_alloc ?_ _) | (with_reducible refine Kd.C_drewN ?_ _) | (with_reducible refine Kd.C_drew ?_))); (case side2 => exact HC0.out); rintro e w5 ⟨v242, rfl, ho0, hb⟩; refine ⟨_, rfl, ?_⟩; have n0_ := Aside0.mk (Kd.S_elder' (by (with_reducible repeat (first | apply Kd.S_alloc | apply Kd.S_drewN | apply Kd.S_drew)); exact HO240.out) (Kd.R_base ho0) hb); have n1_ := Aside0.mk (Kd.R_lower ho0 (below_size (by repeat (first | (with_reducible first | exact HB.out | apply below_alloc | apply pw_below_drewN | apply below_drew1) | exact HB.out)))); have n2_ := Aside0.mk (below_step (by repeat (first | (with_reducible first | exact HB.out | apply below_alloc | apply pw_below_drewN | apply below_drew1) | exact HB.out)) hb); clear HO240; clear HB; have HO240 := n0_; have HO243 := n1_; have HB := n2_; clear n0_ n1_ n2_; (try clear hb); (try clear hb2); (try clear hk); (try clear hi); (try clear ho0)))
 go_loopg [5, 6] k (fun kq v5 v6 w' => ∃ (x5_1 : List (List Int)) (x6_1 : Int), v6 = .int .i64 x6_1 ∧ Aside0 (runnelref13_Above.l0 kq l0 t238 t241 x5_1 x6_1 = some r) ∧ Aside0 (kq ≤ k) ∧ Aside0 (Kd.S (Kd.slice 3 (Kd.int .i64)) 53 w' w.heap.size (fun k_ => some k_ ≠ (v242 : Value).ownBlock ∧ some k_ ≠ (v5 : Value).ownBlock) v239 t238) ∧ Aside0 (Kd.R (Kd.int .i64) 3 w' w.heap.size (fun _ => True) v242 t241) ∧ Aside0 (Kd.S (Kd.slice 3 (Kd.int .i64)) 53 w' w.heap.size (fun k_ => some k_ ≠ (v239 : Value).ownBlock ∧ some k_ ≠ (v242 : Value).ownBlock) v5 x5_1) ∧ Aside0 (Below w.heap.size w w'))
 case atStart => exact ⟨(([] : List (List Int))), (0), (by first | rfl | (simp; done) | (simp [*]; done)), H', ⟨Nat.le_refl _⟩, ⟨by (with_reducible repeat (first | apply Kd.S_alloc | apply Kd.S_drewN | apply Kd.S_drew)); exact Kd.S_mono HO240.out (fun _ hk => ⟨hk.2, (by simp [Value.ownBlock])⟩)⟩, ⟨by (with_reducible repeat (first | apply Kd.R_alloc | apply Kd.R_drewN | apply Kd.R_drew)); exact HO243.out⟩, ⟨by first | exact Kd.S_nil _ _ _ _ _ | exact Kd.N_nil _ _ _ _ _ | exact Kd.V_nil _ _ _ _ _ | exact Kd.Q_nil _ _ _ _ _ | exact Kd.R_nil _ _ _ _ _⟩, ⟨by repeat (first | (with_reducible first | exact HB.out | apply below_alloc | apply pw_below_drewN | apply below_drew1) | exact HB.out)⟩⟩
 case round =>
  clear H'
  try clear p2
  try clear c4
  obtain ⟨x5_1, x6_1, rfl, HA, HK1, HO_3, HO_4, HO_5, HB⟩ := hrel
  cases gk with
  | zero => exact absurd HA.out (by simp [runnelref13_Above.l0])
  | succ k1 =>
   have H := HA.out
   clear HA
   simp only [runnelref13_Above.l0] at H
   by_cases c6 : x6_1 < (t238.length : Int)
   ·rw [if_pos c6] at H
    have c6b0 : decide (x6_1 < (t238.length : Int)) = true := decide_eq_true c6
    clear c6
    by_cases c7 : 0 ≤ (t238.length : Int)
    ·rw [if_pos c7] at H
     have c7b0 := eq_true c7
     have c7b1 : decide (0 ≤ (t238.length : Int)) = true := decide_eq_true c7
     clear c7
     by_cases c8 : ((t238.length : Int) : Int).toNat ≤ 281474976710656
     ·rw [if_pos c8] at H
      have c8b0 := eq_true c8
      have c8b1 : decide (((t238.length : Int) : Int).toNat ≤ 281474976710656) = true := decide_eq_true c8
      clear c8
      obtain ⟨y244, hy244⟩ : ∃ y_ : List Bool, y_ = (List.replicate ((t238.length : Int) : Int).toNat false) := ⟨_, rfl⟩
      replace H : (runnelref13_Above.l1 k1 l0 t238 t241 x5_1 x6_1 y244 0) = some r := by first | (rw [hy244]; with_reducible exact H) | (have H2_ := (Option.bind_some _ _).symm.trans H; rw [hy244]; with_reducible exact H2_) | (have H2_ := (Option.bind_some _ _).symm.trans H; with_reducible exact H2_) | with_reducible exact H | (rw [hy244]; exact H) | exact H
      have Ny244 := Aside0.mk hy244
      clear hy244
      have H' := Aside0.mk H
      clear H
      obtain ⟨Ao9, co9, eo9⟩ := Kd.S_slice HO_3.out
      subst eo9
      go_wp2_with (first | ((with_reducible refine gate_dst (N := 23) rfl ?_); (try (refine gate_guard (by rfl) ?_; dsimp only)); refine Kd.R_make Kd.bool _ 4 rfl (N := 23) rfl 85 _ _ rfl (t238.length : Int) rfl rfl Try.underlying85 (.bool false) 1 info4 rfl (by decide) (by omega) false (ok := fun _ => True) (okp := fun _ => True) rfl (fun _ hk => hk) trivial (of_decide_eq_true (by first | (with_reducible assumption) | assumption)) (Nat.le_trans (Nat.mul_le_mul_right _ (of_decide_eq_true (by first | (with_reducible assumption) | assumption) : (t238.length : Int).toNat ≤ 281474976710656)) (by omega)) (Below.refl _ _) (Nat.le_refl _) ?_; intro v245 w10 ho11 hb hg_ hnew_; clear hg_ hnew_; (first | rw [← Ny244.out] at ho11 | (simp only [Int.reduceToNat] at ho11; rw [← Ny244.out] at ho11)); have n0_ := Aside0.mk (Kd.S_below (by (with_reducible repeat (first | apply Kd.S_alloc | apply Kd.S_drewN | apply Kd.S_drew)); exact HO_3.out) hb); have n1_ := Aside0.mk (Kd.R_below (by (with_reducible repeat (first | apply Kd.R_alloc | apply Kd.R_drewN | apply Kd.R_drew)); exact HO_4.out) hb); have n2_ := Aside0.mk (Kd.S_below (by (with_reducible repeat (first | apply Kd.S_alloc | apply Kd.S_drewN | apply Kd.S_drew)); exact HO_5.out) hb); have n3_ := Aside0.mk (Kd.R_lower ho11 (below_size (by repeat (first | (with_reducible first | exact HB.out | apply below_alloc | apply pw_below_drewN | apply below_drew1) | exact HB.out)))); have n4_ := Aside0.mk (below_step (by repeat (first | (with_reducible first | exact HB.out | apply below_alloc | apply pw_below_drewN | apply below_drew1) | exact HB.out)) hb); clear HO_3; clear HO_4; clear HO_5; clear HB; have HO_3 := n0_; have HO_4 := n1_; have HO_5 := n2_; have HO246 := n3_; have HB := n4_; clear n0_ n1_ n2_ n3_ n4_; clear hb ho11))
      go_loopg [8] k1 (fun kq v8 w' => ∃ (x7_2 : List Bool) (x8_2 : Int), v8 = .int .i64 x8_2 ∧ Aside0 (runnelref13_Above.l1 kq l0 t238 t241 x5_1 x6_1 x7_2 x8_2 = some r) ∧ Aside0 (kq ≤ k1) ∧ Aside0 (Kd.S (Kd.slice 3 (Kd.int .i64)) 53 w' w.heap.size (fun k_ => some k_ ≠ (v242 : Value).ownBlock ∧ some k_ ≠ (u5 : Value).ownBlock) (.slice Ao9 t238.length co9) t238) ∧ Aside0 (Kd.R (Kd.int .i64) 3 w' w.heap.size (fun _ => True) v242 t241) ∧ Aside0 (Kd.S (Kd.slice 3 (Kd.int .i64)) 53 w' w.heap.size (fun k_ => some k_ ≠ ((.slice Ao9 t238.length co9) : Value).ownBlock ∧ some k_ ≠ (v242 : Value).ownBlock) u5 x5_1) ∧ Aside0 (Kd.R Kd.bool 4 w' w.heap.size (fun _ => True) v245 x7_2) ∧ Aside0 (Below w.heap.size w w'))
      case atStart => exact ⟨(y244), (0), (by first | rfl | (simp; done) | (simp [*]; done)), H', ⟨Nat.le_refl _⟩, ⟨by (with_reducible repeat (first | apply Kd.S_alloc | apply Kd.S_drewN | apply Kd.S_drew)); exact HO_3.out⟩, ⟨by (with_reducible repeat (first | apply Kd.R_alloc | apply Kd.R_drewN | apply Kd.R_drew)); exact HO_4.out⟩, ⟨by (with_reducible repeat (first | apply Kd.S_alloc | apply Kd.S_drewN | apply Kd.S_drew)); exact HO_5.out⟩, ⟨by (with_reducible repeat (first | apply Kd.R_alloc | apply Kd.R_drewN | apply Kd.R_drew)); exact HO246.out⟩, ⟨by repeat (first | (with_reducible first | exact HB.out | apply below_alloc | apply pw_below_drewN | apply below_drew1) | exact HB.out)⟩⟩
      case round =>
       clear H'
       try clear p2
       try clear c4
       try clear c6
       try clear c6b0
       try clear c7
       try clear c7b0
       try clear c7b1
       try clear c8
       try clear c8b0
       try clear c8b1
       try clear p2
       obtain ⟨x7_2, x8_2, rfl, HA, HK2, HO_3, HO_4, HO_5, HO_7, HB⟩ := hrel
       cases gk with
       | zero => exact absurd HA.out (by simp [runnelref13_Above.l1])
       | succ k2 =>
        have H := HA.out
        clear HA
        simp only [runnelref13_Above.l1] at H
        by_cases c12 : 0 ≤ x6_1
        ·rw [if_pos c12] at H
         have c12b0 : decide (0 ≤ x6_1) = true := decide_eq_true c12
         clear c12
         by_cases c13 : x6_1 < (t238.length : Int)
         ·rw [if_pos c13] at H
          have c13b0 : decide (x6_1 < (t238.length : Int)) = true := decide_eq_true c13
          clear c13
          by_cases c14 : x8_2 < ((rd_L1 t238 x6_1).length : Int)
          ·rw [if_pos c14] at H
           have c14b0 : decide (x8_2 < ((rd_L1 t238 x6_1).length : Int)) = true := decide_eq_true c14
           clear c14
           by_cases c15 : 0 ≤ x8_2
           ·rw [if_pos c15] at H
            have c15b0 : decide (0 ≤ x8_2) = true := decide_eq_true c15
            clear c15
            by_cases c16 : 0 ≤ (rd (rd_L1 t238 x6_1) x8_2)
            ·rw [if_pos c16] at H
             have c16b0 : decide (0 ≤ (rd (rd_L1 t238 x6_1) x8_2)) = true := decide_eq_true c16
             clear c16
             by_cases c17 : (rd (rd_L1 t238 x6_1) x8_2) < (l0.length : Int)
             ·rw [if_pos c17] at H
              have c17b0 : decide ((rd (rd_L1 t238 x6_1) x8_2) < (l0.length : Int)) = true := decide_eq_true c17
              clear c17
              have H' := Aside0.mk H
              clear H
              have p247 : 0 ≤ (x6_1 : Int) := of_decide_eq_true (by first | (with_reducible assumption) | assumption)
              have q247 : x6_1 < (t238.length : Int) := of_decide_eq_true (by first | (with_reducible assumption) | assumption)
              obtain ⟨ad247, A247_0, c247_0, e247, hx247_0, hl247_0, hi247_0⟩ := at_L1 (Kd.S_reads' HO_3.out).2.2 x6_1 p247 q247
              cases e247
              obtain ⟨ce247, hce247, hMe247, hcc247⟩ := Kd.S_get HO_3.out [] x6_1 p247 (by first | exact q247 | exact of_decide_eq_true (by first | (with_reducible assumption) | assumption) | (have e_ := (Kd.S_reads' HO_3.out).1; omega))
              obtain ⟨ve247_0, rfl, ge247_0⟩ := hMe247
              have hv247_0 := hcc247 0 _ rfl
              rw [Nat.add_zero, show ((Kd.slice 3 (Kd.int .i64))).sz = 1 from rfl, Nat.mul_one] at hv247_0
              replace hv247_0 := Option.some.inj (hv247_0.symm.trans hx247_0)
              rw [hv247_0] at ge247_0
              have HL247_0 := Aside0.mk (show Kd.R (Kd.int .i64) 3 _ _ _ _ (rd_L1 t238 x6_1) from ge247_0)
              clear hv247_0 ge247_0
              clear hcc247 hce247
              have HR247_0 := Aside0.mk hi247_0
              have HC247_0 := Aside0.mk hl247_0
              clear hi247_0 hl247_0
              replace p247 := eq_true p247
              replace q247 := eq_true q247
              have p248 : 0 ≤ (x6_1 : Int) := of_decide_eq_true (by first | (with_reducible assumption) | assumption)
              have q248 : x6_1 < (t238.length : Int) := of_decide_eq_true (by first | (with_reducible assumption) | assumption)
              obtain ⟨ad248, A248_0, c248_0, e248, hx248_0, hl248_0, hi248_0⟩ := at_L1 (Kd.S_reads' HO_3.out).2.2 x6_1 p248 q248
              obtain rfl : ad247 = ad248 := (by injection e248)
              obtain ⟨ce248, hce248, hMe248, hcc248⟩ := Kd.S_get HO_3.out [] x6_1 p248 (by first | exact q248 | exact of_decide_eq_true (by first | (with_reducible assumption) | assumption) | (have e_ := (Kd.S_reads' HO_3.out).1; omega))
              obtain ⟨ve248_0, rfl, ge248_0⟩ := hMe248
              have hv248_0 := hcc248 0 _ rfl
              rw [Nat.add_zero, show ((Kd.slice 3 (Kd.int .i64))).sz = 1 from rfl, Nat.mul_one] at hv248_0
              replace hv248_0 := Option.some.inj (hv248_0.symm.trans hx248_0)
              rw [hv248_0] at ge248_0
              have HL248_0 := Aside0.mk (show Kd.R (Kd.int .i64) 3 _ _ _ _ (rd_L1 t238 x6_1) from ge248_0)
              clear hv248_0 ge248_0
              clear hcc248 hce248
              have HR248_0 := Aside0.mk hi248_0
              have HC248_0 := Aside0.mk hl248_0
              clear hi248_0 hl248_0
              replace p248 := eq_true p248
              replace q248 := eq_true q248
              have ea_ := Option.some.inj (hx247_0.symm.trans hx248_0)
              injection ea_ with ea_ en_ ec_
              subst ea_
              subst ec_
              clear en_
              have p249 : 0 ≤ (x8_2 : Int) := of_decide_eq_true (by first | (with_reducible assumption) | assumption)
              have q249 : x8_2 < ((rd_L1 t238 x6_1).length : Int) := of_decide_eq_true (by first | (with_reducible assumption) | assumption)
              obtain ⟨ad249, e249, hx249_0⟩ := Kd.at_int (by repeat (first | (with_reducible exact HR248_0.out) | (with_reducible refine Kd.C_alloc ?_ _) | (with_reducible refine Kd.C_drewN ?_ _) | (with_reducible refine Kd.C_drew ?_) | exact HR248_0.out)) x8_2 p249 q249
              cases e249
              replace p249 := eq_true p249
              replace q249 := eq_true q249
              have p250 : 0 ≤ ((rd (rd_L1 t238 x6_1) x8_2) : Int) := of_decide_eq_true (by first | (with_reducible assumption) | assumption)
              have q250 : (rd (rd_L1 t238 x6_1) x8_2) < (l0.length : Int) := of_decide_eq_true (by first | (with_reducible assumption) | assumption)
              obtain ⟨ad250, A250_0, c250_0, e250, hx250_0, hl250_0, hi250_0⟩ := at_L1 HR0.out (rd (rd_L1 t238 x6_1) x8_2) p250 q250
              cases e250
              replace hx250_0 := (HB.out.cell (World.block_lt_of_cell? w _ hx250_0)).trans hx250_0
              have HR250_0 := Aside0.mk hi250_0
              have HC250_0 := Aside0.mk hl250_0
              clear hi250_0 hl250_0
              replace p250 := eq_true p250
              replace q250 := eq_true q250
              go_wp2
              go_loopg [10] k2 (fun kq v10 w' => ∃ (x7_3 : List Bool) (x10_3 : Int), v10 = .int .i64 x10_3 ∧ Aside0 (runnelref13_Above.l2 kq l0 t238 t241 x5_1 x6_1 x7_3 x8_2 (rd_L1 l0 (rd (rd_L1 t238 x6_1) x8_2)) x10_3 = some r) ∧ Aside0 (kq ≤ k2) ∧ Aside0 (Kd.S (Kd.slice 3 (Kd.int .i64)) 53 w' w.heap.size (fun k_ => some k_ ≠ (v242 : Value).ownBlock ∧ some k_ ≠ (u5 : Value).ownBlock) (.slice (some ad247) t238.length co9) t238) ∧ Aside0 (Kd.R (Kd.int .i64) 3 w' w.heap.size (fun _ => True) v242 t241) ∧ Aside0 (Kd.S (Kd.slice 3 (Kd.int .i64)) 53 w' w.heap.size (fun k_ => some k_ ≠ ((.slice (some ad247) t238.length co9) : Value).ownBlock ∧ some k_ ≠ (v242 : Value).ownBlock) u5 x5_1) ∧ Aside0 (Kd.R Kd.bool 4 w' w.heap.size (fun _ => True) v245 x7_3) ∧ Aside0 (Below w.heap.size w w'))
              case atStart => exact ⟨(x7_2), (0), (by first | rfl | (simp; done) | (simp [*]; done)), H', ⟨Nat.le_refl _⟩, ⟨by (with_reducible repeat (first | apply Kd.S_alloc | apply Kd.S_drewN | apply Kd.S_drew)); exact HO_3.out⟩, ⟨by (with_reducible repeat (first | apply Kd.R_alloc | apply Kd.R_drewN | apply Kd.R_drew)); exact HO_4.out⟩, ⟨by (with_reducible repeat (first | apply Kd.S_alloc | apply Kd.S_drewN | apply Kd.S_drew)); exact HO_5.out⟩, ⟨by (with_reducible repeat (first | apply Kd.R_alloc | apply Kd.R_drewN | apply Kd.R_drew)); exact HO_7.out⟩, ⟨by repeat (first | (with_reducible first | exact HB.out | apply below_alloc | apply pw_below_drewN | apply below_drew1) | exact HB.out)⟩⟩
              case round =>
               clear H'
               try clear c1
               try clear c2
               try clear p2
               try clear q2
               try clear hx2
               try clear c4
               try clear c6
               try clear c6b0
               try clear c7
               try clear c7b0
               try clear c7b1
               try clear c8
               try clear c8b0
               try clear c8b1
               try clear c12
               try clear c12b0
               try clear c13
               try clear c13b0
               try clear c14
               try clear c14b0
               try clear c15
               try clear c15b0
               try clear c16
               try clear c16b0
               try clear c17
               try clear c17b0
               try clear hx247_0
               try clear hx248_0
               try clear hx249_0
               try clear hx250_0
               try clear p2
               try clear p247
               try clear p248
               try clear p249
               try clear p250
               try clear q247
               try clear q248
               try clear q249
               try clear q250
               obtain ⟨x7_3, x10_3, rfl, HA, HK3, HO_3, HO_4, HO_5, HO_7, HB⟩ := hrel
               cases gk with
               | zero => exact absurd HA.out (by simp [runnelref13_Above.l2])
               | succ k3 =>
                have H := HA.out
                clear HA
                simp only [runnelref13_Above.l2] at H
                by_cases c18 : x10_3 < ((rd_L1 l0 (rd (rd_L1 t238 x6_1) x8_2)).length : Int)
                ·rw [if_pos c18] at H
                 have c18b0 : decide (x10_3 < ((rd_L1 l0 (rd (rd_L1 t238 x6_1) x8_2)).length : Int)) = true := decide_eq_true c18
                 clear c18
                 have HC19 := Aside0.mk H
                 clear H
                 go_upto_region 15 with (fail)
                 go_cut [73] (fun v73 wc => ∃ (kq : Nat) (x73_18 : Bool), v73 = .bool x73_18 ∧ Aside0 (runnelref13_Above.j3 kq l0 t238 t241 x5_1 x6_1 x7_3 x8_2 (rd_L1 l0 (rd (rd_L1 t238 x6_1) x8_2)) x10_3 x73_18 = some r) ∧ Aside0 (kq ≤ k3) ∧ Aside0 (Kd.S (Kd.slice 3 (Kd.int .i64)) 53 wc w.heap.size (fun k_ => some k_ ≠ (v242 : Value).ownBlock ∧ some k_ ≠ (u5 : Value).ownBlock) (.slice (some ad247) t238.length co9) t238) ∧ Aside0 (Kd.R (Kd.int .i64) 3 wc w.heap.size (fun _ => True) v242 t241) ∧ Aside0 (Kd.S (Kd.slice 3 (Kd.int .i64)) 53 wc w.heap.size (fun k_ => some k_ ≠ ((.slice (some ad247) t238.length co9) : Value).ownBlock ∧ some k_ ≠ (v242 : Value).ownBlock) u5 x5_1) ∧ Aside0 (Kd.R Kd.bool 4 wc w.heap.size (fun _ => True) v245 x7_3) ∧ Aside0 (Below w.heap.size w wc))
                 case first =>
                  have H := HC19.out
                  clear HC19
                  by_cases c20 : 0 ≤ x10_3
                  ·rw [if_pos c20] at H
                   have c20b0 : decide (0 ≤ x10_3) = true := decide_eq_true c20
                   clear c20
                   (first | rw [c20b0] | (simp only [i64_w, i32_w]; rw [c20b0]) | skip)
                   by_cases c21 : (rd (rd_L1 l0 (rd (rd_L1 t238 x6_1) x8_2)) x10_3) ≥ 0
                   ·rw [if_pos c21] at H
                    have c21b0 : decide (0 ≤ (rd (rd_L1 l0 (rd (rd_L1 t238 x6_1) x8_2)) x10_3)) = true := decide_eq_true c21
                    clear c21
                    by_cases c22 : (rd (rd_L1 l0 (rd (rd_L1 t238 x6_1) x8_2)) x10_3) < (l0.length : Int)
                    ·rw [if_pos c22] at H
                     have c22b0 : decide ((rd (rd_L1 l0 (rd (rd_L1 t238 x6_1) x8_2)) x10_3) < (l0.length : Int)) = true := decide_eq_true c22
                     clear c22
                     by_cases c23 : 0 ≤ (rd (rd_L1 l0 (rd (rd_L1 t238 x6_1) x8_2)) x10_3)
                     ·rw [if_pos c23] at H
                      have c23b0 : decide (0 ≤ (rd (rd_L1 l0 (rd (rd_L1 t238 x6_1) x8_2)) x10_3)) = true := decide_eq_true c23
                      clear c23
                      by_cases c24 : (rd (rd_L1 l0 (rd (rd_L1 t238 x6_1) x8_2)) x10_3) < (t241.length : Int)
                      ·rw [if_pos c24] at H
                       have c24b0 : decide ((rd (rd_L1 l0 (rd (rd_L1 t238 x6_1) x8_2)) x10_3) < (t241.length : Int)) = true := decide_eq_true c24
                       clear c24
                       have H' := Aside0.mk H
                       clear H
                       have p251 : 0 ≤ (x10_3 : Int) := of_decide_eq_true (by first | (with_reducible assumption) | assumption)
                       have q251 : x10_3 < ((rd_L1 l0 (rd (rd_L1 t238 x6_1) x8_2)).length : Int) := of_decide_eq_true (by first | (with_reducible assumption) | assumption)
                       obtain ⟨ad251, e251, hx251_0⟩ := Kd.at_int HR250_0.out x10_3 p251 q251
                       cases e251
                       replace hx251_0 := (HB.out.cell (World.block_lt_of_cell? w _ hx251_0)).trans hx251_0
                       replace p251 := eq_true p251
                       replace q251 := eq_true q251
                       have p252 : 0 ≤ (x10_3 : Int) := of_decide_eq_true (by first | (with_reducible assumption) | assumption)
                       have q252 : x10_3 < ((rd_L1 l0 (rd (rd_L1 t238 x6_1) x8_2)).length : Int) := of_decide_eq_true (by first | (with_reducible assumption) | assumption)
                       obtain ⟨ad252, e252, hx252_0⟩ := Kd.at_int HR250_0.out x10_3 p252 q252
                       obtain rfl : ad251 = ad252 := (by injection e252)
                       replace hx252_0 := (HB.out.cell (World.block_lt_of_cell? w _ hx252_0)).trans hx252_0
                       replace p252 := eq_true p252
                       replace q252 := eq_true q252
                       have p253 : 0 ≤ (x10_3 : Int) := of_decide_eq_true (by first | (with_reducible assumption) | assumption)
                       have q253 : x10_3 < ((rd_L1 l0 (rd (rd_L1 t238 x6_1) x8_2)).length : Int) := of_decide_eq_true (by first | (with_reducible assumption) | assumption)
                       obtain ⟨ad253, e253, hx253_0⟩ := Kd.at_int HR250_0.out x10_3 p253 q253
                       obtain rfl : ad251 = ad253 := (by injection e253)
                       replace hx253_0 := (HB.out.cell (World.block_lt_of_cell? w _ hx253_0)).trans hx253_0
                       replace p253 := eq_true p253
                       replace q253 := eq_true q253
                       obtain ⟨Ao25, co25, eo25⟩ := Kd.R_slice HO_4.out
                       subst eo25
                       have p254 : 0 ≤ ((rd (rd_L1 l0 (rd (rd_L1 t238 x6_1) x8_2)) x10_3) : Int) := of_decide_eq_true (by first | (with_reducible assumption) | assumption)
                       have q254 : (rd (rd_L1 l0 (rd (rd_L1 t238 x6_1) x8_2)) x10_3) < (t241.length : Int) := of_decide_eq_true (by first | (with_reducible assumption) | assumption)
                       obtain ⟨ad254, e254, hx254_0⟩ := Kd.at_int (Kd.R_reads' HO_4.out).2.2 (rd (rd_L1 l0 (rd (rd_L1 t238 x6_1) x8_2)) x10_3) p254 q254
                       cases e254
                       replace p254 := eq_true p254
                       replace q254 := eq_true q254
                       go_wp2
                       go_meet
                       case rel => exact ⟨_, (((rd t241 (rd (rd_L1 l0 (rd (rd_L1 t238 x6_1) x8_2)) x10_3)) != x6_1)), (by first | rfl | (simp; done) | (simp [*]; done)), H', ⟨by have := HK1.out; have := HK2.out; have := HK3.out; first | omega | exact Nat.le_refl _⟩, ⟨by (with_reducible repeat (first | apply Kd.S_alloc | apply Kd.S_drewN | apply Kd.S_drew)); exact HO_3.out⟩, ⟨by (with_reducible repeat (first | apply Kd.R_alloc | apply Kd.R_drewN | apply Kd.R_drew)); exact HO_4.out⟩, ⟨by (with_reducible repeat (first | apply Kd.S_alloc | apply Kd.S_drewN | apply Kd.S_drew)); exact HO_5.out⟩, ⟨by (with_reducible repeat (first | apply Kd.R_alloc | apply Kd.R_drewN | apply Kd.R_drew)); exact HO_7.out⟩, ⟨by repeat (first | (with_reducible first | exact HB.out | apply below_alloc | apply pw_below_drewN | apply below_drew1) | exact HB.out)⟩⟩
                      ·rw [if_neg c24] at H
                       exact absurd H (by simp)
                     ·rw [if_neg c23] at H
                      exact absurd H (by simp)
                    ·rw [if_neg c22] at H
                     have c22b0 : decide ((rd (rd_L1 l0 (rd (rd_L1 t238 x6_1) x8_2)) x10_3) < (l0.length : Int)) = false := decide_eq_false c22
                     clear c22
                     have H' := Aside0.mk H
                     clear H
                     have p251 : 0 ≤ (x10_3 : Int) := of_decide_eq_true (by first | (with_reducible assumption) | assumption)
                     have q251 : x10_3 < ((rd_L1 l0 (rd (rd_L1 t238 x6_1) x8_2)).length : Int) := of_decide_eq_true (by first | (with_reducible assumption) | assumption)
                     obtain ⟨ad251, e251, hx251_0⟩ := Kd.at_int HR250_0.out x10_3 p251 q251
                     cases e251
                     replace hx251_0 := (HB.out.cell (World.block_lt_of_cell? w _ hx251_0)).trans hx251_0
                     replace p251 := eq_true p251
                     replace q251 := eq_true q251
                     have p252 : 0 ≤ (x10_3 : Int) := of_decide_eq_true (by first | (with_reducible assumption) | assumption)
                     have q252 : x10_3 < ((rd_L1 l0 (rd (rd_L1 t238 x6_1) x8_2)).length : Int) := of_decide_eq_true (by first | (with_reducible assumption) | assumption)
                     obtain ⟨ad252, e252, hx252_0⟩ := Kd.at_int HR250_0.out x10_3 p252 q252
                     obtain rfl : ad251 = ad252 := (by injection e252)
                     replace hx252_0 := (HB.out.cell (World.block_lt_of_cell? w _ hx252_0)).trans hx252_0
                     replace p252 := eq_true p252
                     replace q252 := eq_true q252
                     go_wp2
                     go_meet
                     case rel => exact ⟨_, (false), (by first | rfl | (simp; done) | (simp [*]; done)), H', ⟨by have := HK1.out; have := HK2.out; have := HK3.out; first | omega | exact Nat.le_refl _⟩, ⟨by (with_reducible repeat (first | apply Kd.S_alloc | apply Kd.S_drewN | apply Kd.S_drew)); exact HO_3.out⟩, ⟨by (with_reducible repeat (first | apply Kd.R_alloc | apply Kd.R_drewN | apply Kd.R_drew)); exact HO_4.out⟩, ⟨by (with_reducible repeat (first | apply Kd.S_alloc | apply Kd.S_drewN | apply Kd.S_drew)); exact HO_5.out⟩, ⟨by (with_reducible repeat (first | apply Kd.R_alloc | apply Kd.R_drewN | apply Kd.R_drew)); exact HO_7.out⟩, ⟨by repeat (first | (with_reducible first | exact HB.out | apply below_alloc | apply pw_below_drewN | apply below_drew1) | exact HB.out)⟩⟩
                   ·rw [if_neg c21] at H
                    have c21b0 : decide (0 ≤ (rd (rd_L1 l0 (rd (rd_L1 t238 x6_1) x8_2)) x10_3)) = false := decide_eq_false c21
                    clear c21
                    have H' := Aside0.mk H
                    clear H
                    have p251 : 0 ≤ (x10_3 : Int) := of_decide_eq_true (by first | (with_reducible assumption) | assumption)
                    have q251 : x10_3 < ((rd_L1 l0 (rd (rd_L1 t238 x6_1) x8_2)).length : Int) := of_decide_eq_true (by first | (with_reducible assumption) | assumption)
                    obtain ⟨ad251, e251, hx251_0⟩ := Kd.at_int HR250_0.out x10_3 p251 q251
                    cases e251
                    replace hx251_0 := (HB.out.cell (World.block_lt_of_cell? w _ hx251_0)).trans hx251_0
                    replace p251 := eq_true p251
                    replace q251 := eq_true q251
                    go_wp2
                    go_meet
                    case rel => exact ⟨_, (false), (by first | rfl | (simp; done) | (simp [*]; done)), H', ⟨by have := HK1.out; have := HK2.out; have := HK3.out; first | omega | exact Nat.le_refl _⟩, ⟨by (with_reducible repeat (first | apply Kd.S_alloc | apply Kd.S_drewN | apply Kd.S_drew)); exact HO_3.out⟩, ⟨by (with_reducible repeat (first | apply Kd.R_alloc | apply Kd.R_drewN | apply Kd.R_drew)); exact HO_4.out⟩, ⟨by (with_reducible repeat (first | apply Kd.S_alloc | apply Kd.S_drewN | apply Kd.S_drew)); exact HO_5.out⟩, ⟨by (with_reducible repeat (first | apply Kd.R_alloc | apply Kd.R_drewN | apply Kd.R_drew)); exact HO_7.out⟩, ⟨by repeat (first | (with_reducible first | exact HB.out | apply below_alloc | apply pw_below_drewN | apply below_drew1) | exact HB.out)⟩⟩
                  ·rw [if_neg c20] at H
                   exact absurd H (by simp)
                 case rest =>
                  clear HC19
                  try clear c1
                  try clear c2
                  try clear p2
                  try clear q2
                  try clear hx2
                  try clear c4
                  try clear c6
                  try clear c6b0
                  try clear c7
                  try clear c7b0
                  try clear c7b1
                  try clear c8
                  try clear c8b0
                  try clear c8b1
                  try clear c12
                  try clear c12b0
                  try clear c13
                  try clear c13b0
                  try clear c14
                  try clear c14b0
                  try clear c15
                  try clear c15b0
                  try clear c16
                  try clear c16b0
                  try clear c17
                  try clear c17b0
                  try clear c18
                  try clear c18b0
                  try clear c20
                  try clear c20b0
                  try clear c21
                  try clear c21b0
                  try clear c22
                  try clear c22b0
                  try clear c23
                  try clear c23b0
                  try clear c24
                  try clear c24b0
                  try clear p24
                  try clear q24
                  try clear hx24
                  try clear c25
                  try clear p25
                  try clear q25
                  try clear hx25
                  try clear hx247_0
                  try clear hx248_0
                  try clear hx249_0
                  try clear hx250_0
                  try clear hx251_0
                  try clear hx252_0
                  try clear hx253_0
                  try clear hx254_0
                  try clear p2
                  try clear p247
                  try clear p248
                  try clear p249
                  try clear p250
                  try clear p251
                  try clear p252
                  try clear p253
                  try clear p254
                  try clear q2
                  try clear q247
                  try clear q248
                  try clear q249
                  try clear q250
                  try clear q251
                  try clear q252
                  try clear q253
                  try clear q254
                  obtain ⟨kq, x73_18, rfl, HA, HJ18, HO_3, HO_4, HO_5, HO_7, HB⟩ := hcut
                  cases kq with
                  | zero => exact absurd HA.out (by simp [runnelref13_Above.j3])
                  | succ kj18 =>
                   have H := HA.out
                   clear HA
                   simp only [runnelref13_Above.j3] at H
                   by_cases c26 : x73_18 = true
                   ·subst c26
                    have H1 : (if 0 ≤ x10_3 then (if x10_3 < ((rd_L1 l0 (rd (rd_L1 t238 x6_1) x8_2)).length : Int) then (if 0 ≤ (rd (rd_L1 l0 (rd (rd_L1 t238 x6_1) x8_2)) x10_3) then (if (rd (rd_L1 l0 (rd (rd_L1 t238 x6_1) x8_2)) x10_3) < (t241.length : Int) then (if 0 ≤ (rd t241 (rd (rd_L1 l0 (rd (rd_L1 t238 x6_1) x8_2)) x10_3)) then (if (rd t241 (rd (rd_L1 l0 (rd (rd_L1 t238 x6_1) x8_2)) x10_3)) < (x7_3.length : Int) then (runnelref13_Above.l2 kj18 l0 t238 t241 x5_1 x6_1 (x7_3.set ((rd t241 (rd (rd_L1 l0 (rd (rd_L1 t238 x6_1) x8_2)) x10_3)) : Int).toNat true) x8_2 (rd_L1 l0 (rd (rd_L1 t238 x6_1) x8_2)) (wrap64 (x10_3 + 1))) else (none)) else (none)) else (none)) else (none)) else (none)) else (none)) = some r := by rw [if_pos rfl] at H; exact H
                    clear H
                    have H := H1
                    clear H1
                    by_cases c27 : 0 ≤ x10_3
                    ·rw [if_pos c27] at H
                     have c27b0 : decide (0 ≤ x10_3) = true := decide_eq_true c27
                     clear c27
                     by_cases c28 : x10_3 < ((rd_L1 l0 (rd (rd_L1 t238 x6_1) x8_2)).length : Int)
                     ·rw [if_pos c28] at H
                      have c28b0 : decide (x10_3 < ((rd_L1 l0 (rd (rd_L1 t238 x6_1) x8_2)).length : Int)) = true := decide_eq_true c28
                      clear c28
                      by_cases c29 : 0 ≤ (rd (rd_L1 l0 (rd (rd_L1 t238 x6_1) x8_2)) x10_3)
                      ·rw [if_pos c29] at H
                       have c29b0 : decide (0 ≤ (rd (rd_L1 l0 (rd (rd_L1 t238 x6_1) x8_2)) x10_3)) = true := decide_eq_true c29
                       clear c29
                       by_cases c30 : (rd (rd_L1 l0 (rd (rd_L1 t238 x6_1) x8_2)) x10_3) < (t241.length : Int)
                       ·rw [if_pos c30] at H
                        have c30b0 : decide ((rd (rd_L1 l0 (rd (rd_L1 t238 x6_1) x8_2)) x10_3) < (t241.length : Int)) = true := decide_eq_true c30
                        clear c30
                        by_cases c31 : 0 ≤ (rd t241 (rd (rd_L1 l0 (rd (rd_L1 t238 x6_1) x8_2)) x10_3))
                        ·rw [if_pos c31] at H
                         have c31b0 : decide (0 ≤ (rd t241 (rd (rd_L1 l0 (rd (rd_L1 t238 x6_1) x8_2)) x10_3))) = true := decide_eq_true c31
                         clear c31
                         by_cases c32 : (rd t241 (rd (rd_L1 l0 (rd (rd_L1 t238 x6_1) x8_2)) x10_3)) < (x7_3.length : Int)
                         ·rw [if_pos c32] at H
                          have c32b0 : decide ((rd t241 (rd (rd_L1 l0 (rd (rd_L1 t238 x6_1) x8_2)) x10_3)) < (x7_3.length : Int)) = true := decide_eq_true c32
                          clear c32
                          obtain ⟨y257, hy257⟩ : ∃ y_ : List Bool, y_ = (x7_3.set ((rd t241 (rd (rd_L1 l0 (rd (rd_L1 t238 x6_1) x8_2)) x10_3)) : Int).toNat true) := ⟨_, rfl⟩
                          replace H : (runnelref13_Above.l2 kj18 l0 t238 t241 x5_1 x6_1 y257 x8_2 (rd_L1 l0 (rd (rd_L1 t238 x6_1) x8_2)) (wrap64 (x10_3 + 1))) = some r := by first | (rw [hy257]; with_reducible exact H) | (have H2_ := (Option.bind_some _ _).symm.trans H; rw [hy257]; with_reducible exact H2_) | (have H2_ := (Option.bind_some _ _).symm.trans H; with_reducible exact H2_) | with_reducible exact H | (rw [hy257]; exact H) | exact H
                          have Ny257 := Aside0.mk hy257
                          clear hy257
                          have H' := Aside0.mk H
                          clear H
                          have p255 : 0 ≤ (x10_3 : Int) := of_decide_eq_true (by first | (with_reducible assumption) | assumption)
                          have q255 : x10_3 < ((rd_L1 l0 (rd (rd_L1 t238 x6_1) x8_2)).length : Int) := of_decide_eq_true (by first | (with_reducible assumption) | assumption)
                          obtain ⟨ad255, e255, hx255_0⟩ := Kd.at_int HR250_0.out x10_3 p255 q255
                          cases e255
                          replace hx255_0 := (HB.out.cell (World.block_lt_of_cell? w _ hx255_0)).trans hx255_0
                          replace p255 := eq_true p255
                          replace q255 := eq_true q255
                          obtain ⟨Ao34, co34, eo34⟩ := Kd.R_slice HO_4.out
                          subst eo34
                          have p256 : 0 ≤ ((rd (rd_L1 l0 (rd (rd_L1 t238 x6_1) x8_2)) x10_3) : Int) := of_decide_eq_true (by first | (with_reducible assumption) | assumption)
                          have q256 : (rd (rd_L1 l0 (rd (rd_L1 t238 x6_1) x8_2)) x10_3) < (t241.length : Int) := of_decide_eq_true (by first | (with_reducible assumption) | assumption)
                          obtain ⟨ad256, e256, hx256_0⟩ := Kd.at_int (Kd.R_reads' HO_4.out).2.2 (rd (rd_L1 l0 (rd (rd_L1 t238 x6_1) x8_2)) x10_3) p256 q256
                          cases e256
                          replace p256 := eq_true p256
                          replace q256 := eq_true q256
                          have p33 : 0 ≤ ((rd t241 (rd (rd_L1 l0 (rd (rd_L1 t238 x6_1) x8_2)) x10_3)) : Int) := of_decide_eq_true (by first | (with_reducible assumption) | assumption)
                          have q33 : ((rd t241 (rd (rd_L1 l0 (rd (rd_L1 t238 x6_1) x8_2)) x10_3)) : Int) < ((x7_3.length : Int) : Int) := of_decide_eq_true (by first | (with_reducible assumption) | assumption)
                          obtain ⟨go33, co33, eo33, gb33, gl33, cl33, HG33⟩ := Kd.R_form HO_7.out (by omega)
                          (first | cases eo33 | (injection eo33 with ea_ en_ ec_; (first | subst ea_ | (injection ea_ with ea_; subst ea_)); subst ec_; clear en_))
                          have GB33 := Aside0.mk gb33
                          have GG33 := Aside0.mk HG33
                          clear gb33 gl33 HG33
                          obtain ⟨hx33_0, hf33_0⟩ := Kd.R_celln false HO_7.out ((rd t241 (rd (rd_L1 l0 (rd (rd_L1 t238 x6_1) x8_2)) x10_3)) : Int) p33 q33
                          replace p33 := eq_true p33
                          replace q33 := eq_true q33
                          have HP35 := Kd.R_putg HO_7.out ((rd t241 (rd (rd_L1 l0 (rd (rd_L1 t238 x6_1) x8_2)) x10_3)) : Int) true
                          go_wp2_with (first | ((with_reducible refine gate_store (t := 4) (p := 82) rfl ?_); refine store_event (t := 4) (p := 82) (v := ?vo_w36) (w1 := (wc.setCell ⟨go33, ((rd t241 (rd (rd_L1 l0 (rd (rd_L1 t238 x6_1) x8_2)) x10_3)) : Int).toNat, none⟩ (.bool true))) ?hg ?ho ?hn ?hr ?_; (case ho => rfl); (case hg => rfl); (case hn => rfl); (case hr => first | (go_simp; done) | (go_simp; rfl)); intro w36 hw; have hg : wc.grownBy w36 (some go33) := (by rw [hw]; exact HP35.2); have hp_ : Kd.R Kd.bool 4 w36 w.heap.size (fun _ => True) (.slice (some ⟨go33, 0, none⟩) x7_3.length co33) y257 := (by rw [hw, Ny257.out]; exact HP35.1); clear HP35; have n0_ := Aside0.mk (Kd.S_over' (v := (.slice (some ⟨go33, 0, none⟩) x7_3.length co33)) (by (with_reducible repeat (first | apply Kd.S_alloc | apply Kd.S_drewN | apply Kd.S_drew)); exact HO_3.out) (Kd.R_typed HO_7.out) (by decide) hg); have n1_ := Aside0.mk (Kd.R_over' (v := (.slice (some ⟨go33, 0, none⟩) x7_3.length co33)) (by (with_reducible repeat (first | apply Kd.R_alloc | apply Kd.R_drewN | apply Kd.R_drew)); exact HO_4.out) (Kd.R_typed HO_7.out) (by decide) hg); have n2_ := Aside0.mk (Kd.S_over' (v := (.slice (some ⟨go33, 0, none⟩) x7_3.length co33)) (by (with_reducible repeat (first | apply Kd.S_alloc | apply Kd.S_drewN | apply Kd.S_drew)); exact HO_5.out) (Kd.R_typed HO_7.out) (by decide) hg); have n3_ := Aside0.mk (hp_); have n4_ := Aside0.mk ((by rw [hw]; exact below_set (HB.out) GB33.out : Below w.heap.size w w36)); clear HO_3; clear HO_4; clear HO_5; clear HO_7; clear HB; have HO_3 := n0_; have HO_4 := n1_; have HO_5 := n2_; have HO_7 := n3_; have HB := n4_; clear n0_ n1_ n2_ n3_ n4_; clear hg hw hp_))
                          go_roundg kj18
                          case measure => have := HK1.out; have := HK2.out; have := HK3.out; have := HJ18.out; omega
                          case rel => exact ⟨(y257), (wrap64 (x10_3 + 1)), (by first | rfl | (simp; done) | (simp [*]; done)), H', ⟨by have := HK1.out; have := HK2.out; have := HK3.out; have := HJ18.out; omega⟩, ⟨by (with_reducible repeat (first | apply Kd.S_alloc | apply Kd.S_drewN | apply Kd.S_drew)); exact HO_3.out⟩, ⟨by (with_reducible repeat (first | apply Kd.R_alloc | apply Kd.R_drewN | apply Kd.R_drew)); exact HO_4.out⟩, ⟨by (with_reducible repeat (first | apply Kd.S_alloc | apply Kd.S_drewN | apply Kd.S_drew)); exact HO_5.out⟩, ⟨by (with_reducible repeat (first | apply Kd.R_alloc | apply Kd.R_drewN | apply Kd.R_drew)); exact HO_7.out⟩, ⟨by repeat (first | (with_reducible first | exact HB.out | apply below_alloc | apply pw_below_drewN | apply below_drew1) | exact HB.out)⟩⟩
                         ·rw [if_neg c32] at H
                          exact absurd H (by simp)
                        ·rw [if_neg c31] at H
                         exact absurd H (by simp)
                       ·rw [if_neg c30] at H
                        exact absurd H (by simp)
                      ·rw [if_neg c29] at H
                       exact absurd H (by simp)
                     ·rw [if_neg c28] at H
                      exact absurd H (by simp)
                    ·rw [if_neg c27] at H
                     exact absurd H (by simp)
                   ·replace c26 := Bool.eq_false_iff.mpr c26
                    subst c26
                    have H1 : (runnelref13_Above.l2 kj18 l0 t238 t241 x5_1 x6_1 x7_3 x8_2 (rd_L1 l0 (rd (rd_L1 t238 x6_1) x8_2)) (wrap64 (x10_3 + 1))) = some r := by rw [if_neg (show ¬ (false = true) by decide)] at H; exact H
                    clear H
                    have H := H1
                    clear H1
                    have H' := Aside0.mk H
                    clear H
                    go_wp2
                    go_roundg kj18
                    case measure => have := HK1.out; have := HK2.out; have := HK3.out; have := HJ18.out; omega
                    case rel => exact ⟨(x7_3), (wrap64 (x10_3 + 1)), (by first | rfl | (simp; done) | (simp [*]; done)), H', ⟨by have := HK1.out; have := HK2.out; have := HK3.out; have := HJ18.out; omega⟩, ⟨by (with_reducible repeat (first | apply Kd.S_alloc | apply Kd.S_drewN | apply Kd.S_drew)); exact HO_3.out⟩, ⟨by (with_reducible repeat (first | apply Kd.R_alloc | apply Kd.R_drewN | apply Kd.R_drew)); exact HO_4.out⟩, ⟨by (with_reducible repeat (first | apply Kd.S_alloc | apply Kd.S_drewN | apply Kd.S_drew)); exact HO_5.out⟩, ⟨by (with_reducible repeat (first | apply Kd.R_alloc | apply Kd.R_drewN | apply Kd.R_drew)); exact HO_7.out⟩, ⟨by repeat (first | (with_reducible first | exact HB.out | apply below_alloc | apply pw_below_drewN | apply below_drew1) | exact HB.out)⟩⟩
                ·rw [if_neg c18] at H
                 have c18b0 : decide (x10_3 < ((rd_L1 l0 (rd (rd_L1 t238 x6_1) x8_2)).length : Int)) = false := decide_eq_false c18
                 clear c18
                 have H' := Aside0.mk H
                 clear H
                 go_wp2
                 go_roundg k3
                 case measure => have := HK1.out; have := HK2.out; have := HK3.out; omega
                 case rel => exact ⟨(x7_3), (wrap64 (x8_2 + 1)), (by first | rfl | (simp; done) | (simp [*]; done)), H', ⟨by have := HK1.out; have := HK2.out; have := HK3.out; omega⟩, ⟨by (with_reducible repeat (first | apply Kd.S_alloc | apply Kd.S_drewN | apply Kd.S_drew)); exact HO_3.out⟩, ⟨by (with_reducible repeat (first | apply Kd.R_alloc | apply Kd.R_drewN | apply Kd.R_drew)); exact HO_4.out⟩, ⟨by (with_reducible repeat (first | apply Kd.S_alloc | apply Kd.S_drewN | apply Kd.S_drew)); exact HO_5.out⟩, ⟨by (with_reducible repeat (first | apply Kd.R_alloc | apply Kd.R_drewN | apply Kd.R_drew)); exact HO_7.out⟩, ⟨by repeat (first | (with_reducible first | exact HB.out | apply below_alloc | apply pw_below_drewN | apply below_drew1) | exact HB.out)⟩⟩
             ·rw [if_neg c17] at H
              exact absurd H (by simp)
            ·rw [if_neg c16] at H
             exact absurd H (by simp)
           ·rw [if_neg c15] at H
            exact absurd H (by simp)
          ·rw [if_neg c14] at H
           have c14b0 : decide (x8_2 < ((rd_L1 t238 x6_1).length : Int)) = false := decide_eq_false c14
           clear c14
           replace H := Option.bind_eq_some_iff.mp H
           obtain ⟨t258, A370, H⟩ := H
           replace H : (if x5_1.length < 5864062014805 then (runnelref13_Above.l0 k2 l0 t238 t241 (x5_1 ++ [t258]) (wrap64 (x6_1 + 1))) else (none)) = some r := H
           have A37 := Aside0.mk A370
           clear A370
           by_cases c38 : x5_1.length < 5864062014805
           ·rw [if_pos c38] at H
            have LMc38 := Aside0.mk c38
            clear c38
            obtain ⟨y261, hy261⟩ : ∃ y_ : List (List Int), y_ = (x5_1 ++ [t258]) := ⟨_, rfl⟩
            replace H : (runnelref13_Above.l0 k2 l0 t238 t241 y261 (wrap64 (x6_1 + 1))) = some r := by first | (rw [hy261]; with_reducible exact H) | (have H2_ := (Option.bind_some _ _).symm.trans H; rw [hy261]; with_reducible exact H2_) | (have H2_ := (Option.bind_some _ _).symm.trans H; with_reducible exact H2_) | with_reducible exact H | (rw [hy261]; exact H) | exact H
            have Ny261 := Aside0.mk hy261
            clear hy261
            have H' := Aside0.mk H
            clear H
            have p247 : 0 ≤ (x6_1 : Int) := of_decide_eq_true (by first | (with_reducible assumption) | assumption)
            have q247 : x6_1 < (t238.length : Int) := of_decide_eq_true (by first | (with_reducible assumption) | assumption)
            obtain ⟨ad247, A247_0, c247_0, e247, hx247_0, hl247_0, hi247_0⟩ := at_L1 (Kd.S_reads' HO_3.out).2.2 x6_1 p247 q247
            cases e247
            obtain ⟨ce247, hce247, hMe247, hcc247⟩ := Kd.S_get HO_3.out [] x6_1 p247 (by first | exact q247 | exact of_decide_eq_true (by first | (with_reducible assumption) | assumption) | (have e_ := (Kd.S_reads' HO_3.out).1; omega))
            obtain ⟨ve247_0, rfl, ge247_0⟩ := hMe247
            have hv247_0 := hcc247 0 _ rfl
            rw [Nat.add_zero, show ((Kd.slice 3 (Kd.int .i64))).sz = 1 from rfl, Nat.mul_one] at hv247_0
            replace hv247_0 := Option.some.inj (hv247_0.symm.trans hx247_0)
            rw [hv247_0] at ge247_0
            have HL247_0 := Aside0.mk (show Kd.R (Kd.int .i64) 3 _ _ _ _ (rd_L1 t238 x6_1) from ge247_0)
            clear hv247_0 ge247_0
            clear hcc247 hce247
            have HR247_0 := Aside0.mk hi247_0
            have HC247_0 := Aside0.mk hl247_0
            clear hi247_0 hl247_0
            replace p247 := eq_true p247
            replace q247 := eq_true q247
            obtain ⟨Ao39, co39, eo39⟩ := Kd.R_slice HO_7.out
            subst eo39
            go_wp2_with (first | ((with_reducible refine gate_callee (f := 76) rfl ?_); refine goesL_ (some 85) rfl rfl Try.func76 (by kernel_rfl) rfl #[.slice Ao39 x7_2.length co39] rfl (by (try simp only [List.map_toArray, List.map_cons, List.map_nil]); first | done | rfl | (simp only [List.length_drop, List.length_take]; rfl)) ?_; (with_reducible refine (runnelref13_List.calls k2 _ _ x7_2 t258 _ ?side1 ?side2 A37.out).mono ?_); (case side1 => repeat (first | exact (Kd.R_reads' HO_7.out).2.2 | (with_reducible refine Kd.C_alloc ?_ _) | (with_reducible refine Kd.C_drewN ?_ _) | (with_reducible refine Kd.C_drew ?_))); (case side2 => exact (Kd.R_reads' HO_7.out).2.1); rintro e w40 ⟨v259, rfl, ho0, hb⟩; refine ⟨_, rfl, ?_⟩; have n0_ := Aside0.mk (Kd.S_elder' (by (with_reducible repeat (first | apply Kd.S_alloc | apply Kd.S_drewN | apply Kd.S_drew)); exact HO_3.out) (Kd.R_base ho0) hb); have n1_ := Aside0.mk (Kd.R_elder' (by (with_reducible repeat (first | apply Kd.R_alloc | apply Kd.R_drewN | apply Kd.R_drew)); exact HO_4.out) (Kd.R_base ho0) hb); have n2_ := Aside0.mk (Kd.S_elder' (by (with_reducible repeat (first | apply Kd.S_alloc | apply Kd.S_drewN | apply Kd.S_drew)); exact HO_5.out) (Kd.R_base ho0) hb); have n3_ := Aside0.mk (Kd.R_below (by (with_reducible repeat (first | apply Kd.R_alloc | apply Kd.R_drewN | apply Kd.R_drew)); exact HO_7.out) hb); have n4_ := Aside0.mk (Kd.R_elder' (by (with_reducible repeat (first | apply Kd.R_alloc | apply Kd.R_drewN | apply Kd.R_drew)); exact HL247_0.out) (Kd.R_base ho0) hb); have n5_ := Aside0.mk (Kd.R_lower (Kd.R_new' (Kd.R_new' ho0 (Kd.R_lt (by (with_reducible repeat (first | apply Kd.R_alloc | apply Kd.R_drewN | apply Kd.R_drew)); exact HO_4.out))) (Kd.R_lt (by (with_reducible repeat (first | apply Kd.R_alloc | apply Kd.R_drewN | apply Kd.R_drew)); exact HL247_0.out))) (below_size (by repeat (first | (with_reducible first | exact HB.out | apply below_alloc | apply pw_below_drewN | apply below_drew1) | exact HB.out)))); have n6_ := Aside0.mk (Kd.C_below (by repeat (first | (with_reducible exact HR247_0.out) | (with_reducible refine Kd.C_alloc ?_ _) | (with_reducible refine Kd.C_drewN ?_ _) | (with_reducible refine Kd.C_drew ?_) | exact HR247_0.out)) hb); have n7_ := Aside0.mk (below_step (by repeat (first | (with_reducible first | exact HB.out | apply below_alloc | apply pw_below_drewN | apply below_drew1) | exact HB.out)) hb); clear HO_3; clear HO_4; clear HO_5; clear HO_7; clear HL247_0; clear HR247_0; clear HB; have HO_3 := n0_; have HO_4 := n1_; have HO_5 := n2_; have HO_7 := n3_; have HL247_0 := n4_; have HO260 := n5_; have HR247_0 := n6_; have HB := n7_; clear n0_ n1_ n2_ n3_ n4_ n5_ n6_ n7_; (try clear hb); (try clear hb2); (try clear hk); (try clear hi); (try clear ho0); obtain ⟨Ao42, co42, eo42⟩ := Kd.R_slice HO260.out; subst eo42) | ((with_reducible refine gate_builtin (b := .append) (xs := #[.tmp 83, .tmp 86]) rfl ?_); (try (refine gate_guard (by rfl) ?_; dsimp only)); at_builtin; refine Kd.S_append (Kd.slice 3 (Kd.int .i64)) (w0 := w) w.heap.size rfl (.tmp 83) (.tmp 86) 48 53 (.slice none 0 0) 24 rfl Try.underlying48 info53 rfl (by decide) (by omega) u5 x5_1 t258 [.slice Ao42 t258.length co42] (fun k_ => some k_ ≠ (.slice (some ad247) t238.length co9 : Value).ownBlock ∧ some k_ ≠ (v242 : Value).ownBlock) (fun k_ => some k_ = (.slice Ao42 t258.length co42 : Value).ownBlock) rfl rfl ?aP (fun k_ hk_ => ((Kd.R_mono (ok' := fun k_ => ((fun k_ => some k_ ≠ (.slice (some ad247) t238.length co9 : Value).ownBlock ∧ some k_ ≠ (v242 : Value).ownBlock)) k_ ∧ some k_ ≠ (u5 : Value).ownBlock) (Kd.R_apart' (Kd.R_apart' (HO260.out) (Kd.S_typed HO_3.out) (by decide)) (Kd.S_typed HO_5.out) (by decide)) (fun k_ hk => ⟨⟨hk.1.2, hk.1.1.1.2⟩, hk.2⟩))).1 k_ hk_.symm) ?aF ?aO ?aB ?aS ?aL ?_; (case aP => exact Kd.M_row (Kd.R_mono (Kd.R_tight rfl (Kd.R_mono (ok' := fun k_ => ((fun k_ => some k_ ≠ (.slice (some ad247) t238.length co9 : Value).ownBlock ∧ some k_ ≠ (v242 : Value).ownBlock)) k_ ∧ some k_ ≠ (u5 : Value).ownBlock) (Kd.R_apart' (Kd.R_apart' (HO260.out) (Kd.S_typed HO_3.out) (by decide)) (Kd.S_typed HO_5.out) (by decide)) (fun k_ hk => ⟨⟨hk.1.2, hk.1.1.1.2⟩, hk.2⟩))) (fun _ h_ => h_))); (case aB => exact (by repeat (first | (with_reducible first | exact HB.out | apply below_alloc | apply pw_below_drewN | apply below_drew1) | exact HB.out))); (case aF => exact (fun k_ hk => ⟨Kd.fresh' (Kd.S_lt (by (with_reducible repeat (first | apply Kd.S_alloc | apply Kd.S_drewN | apply Kd.S_drew)); exact HO_3.out)) k_ hk, Kd.fresh' (Kd.R_lt (by (with_reducible repeat (first | apply Kd.R_alloc | apply Kd.R_drewN | apply Kd.R_drew)); exact HO_4.out)) k_ hk⟩)); (case aO => exact (by (with_reducible repeat (first | apply Kd.S_alloc | apply Kd.S_drewN | apply Kd.S_drew)); exact Kd.S_mono HO_5.out (fun k_ hk => ⟨⟨hk.1.1, hk.1.2⟩, fun e_ => hk.2 e_⟩))); (case aS => exact (below_size (by repeat (first | (with_reducible first | exact HB.out | apply below_alloc | apply pw_below_drewN | apply below_drew1) | exact HB.out)))); (case aL => have := LMc38.out; omega); intro v262 w41 ho hb hg hat; rw [← Ny261.out] at ho; have n0_ := Aside0.mk (Kd.S_after (ok := (fun k_ => some k_ ≠ (v242 : Value).ownBlock ∧ some k_ ≠ (.slice Ao42 t258.length co42 : Value).ownBlock)) (by (with_reducible repeat (first | apply Kd.S_alloc | apply Kd.S_drewN | apply Kd.S_drew)); exact Kd.S_mono HO_3.out (fun _ hk => ⟨⟨hk.1.1, hk.2⟩, hk.1.2⟩)) hg hat); have n1_ := Aside0.mk (Kd.R_over' (by (with_reducible repeat (first | apply Kd.R_alloc | apply Kd.R_drewN | apply Kd.R_drew)); exact HO_4.out) (Kd.S_typed (by (with_reducible repeat (first | apply Kd.S_alloc | apply Kd.S_drewN | apply Kd.S_drew)); exact HO_5.out)) (by decide) hg); have n2_ := Aside0.mk (Kd.R_over' (by (with_reducible repeat (first | apply Kd.R_alloc | apply Kd.R_drewN | apply Kd.R_drew)); exact HO_7.out) (Kd.S_typed (by (with_reducible repeat (first | apply Kd.S_alloc | apply Kd.S_drewN | apply Kd.S_drew)); exact HO_5.out)) (by decide) hg); have n3_ := Aside0.mk (Kd.R_after (ok := (fun k_ => some k_ ≠ (.slice (some ad247) t238.length co9 : Value).ownBlock ∧ some k_ ≠ (v242 : Value).ownBlock ∧ some k_ ≠ (.slice Ao42 t258.length co42 : Value).ownBlock)) (by (with_reducible repeat (first | apply Kd.R_alloc | apply Kd.R_drewN | apply Kd.R_drew)); exact Kd.R_mono HL247_0.out (fun _ hk => ⟨⟨hk.1.2, ⟨hk.1.1.1, hk.2⟩⟩, hk.1.1.2⟩)) hg hat); have n4_ := Aside0.mk (hb); have n5_ := Aside0.mk (ho); clear HO_3; clear HO_4; clear HO_7; clear HL247_0; clear HB; clear HO_5; clear HO260; have HO_3 := n0_; have HO_4 := n1_; have HO_7 := n2_; have HL247_0 := n3_; have HB := n4_; have HO263 := n5_; clear n0_ n1_ n2_ n3_ n4_ n5_; clear ho hb hg hat))
            go_roundg k2
            case measure => have := HK1.out; have := HK2.out; omega
            case rel => exact ⟨(y261), (wrap64 (x6_1 + 1)), (by first | rfl | (simp; done) | (simp [*]; done)), H', ⟨by have := HK1.out; have := HK2.out; omega⟩, ⟨by (with_reducible repeat (first | apply Kd.S_alloc | apply Kd.S_drewN | apply Kd.S_drew)); exact Kd.S_mono HO_3.out (fun _ hk => ⟨hk.1.1, hk.2⟩)⟩, ⟨by (with_reducible repeat (first | apply Kd.R_alloc | apply Kd.R_drewN | apply Kd.R_drew)); exact Kd.R_mono HO_4.out (fun _ hk => trivial)⟩, ⟨by (with_reducible repeat (first | apply Kd.S_alloc | apply Kd.S_drewN | apply Kd.S_drew)); exact HO263.out⟩, ⟨by repeat (first | (with_reducible first | exact HB.out | apply below_alloc | apply pw_below_drewN | apply below_drew1) | exact HB.out)⟩⟩
           ·rw [if_neg c38] at H
            exact absurd H (by simp)
         ·rw [if_neg c13] at H
          exact absurd H (by simp)
        ·rw [if_neg c12] at H
         exact absurd H (by simp)
     ·rw [if_neg c8] at H
      exact absurd H (by simp)
    ·rw [if_neg c7] at H
     exact absurd H (by simp)
   ·rw [if_neg c6] at H
    have c6b0 : decide (x6_1 < (t238.length : Int)) = false := decide_eq_false c6
    clear c6
    obtain rfl := Option.some.inj H
    obtain ⟨Ao43, co43, eo43⟩ := Kd.S_slice HO_3.out
    subst eo43
    go_wp2
    go_ret
    exact ⟨_, by first | rfl | (simp [errW_none, errW_some] <;> rfl) | (simp [*, errW_none, errW_some] <;> rfl), by (with_reducible repeat (first | apply Kd.S_alloc | apply Kd.S_drewN | apply Kd.S_drew)); exact Kd.S_mono HO_5.out (fun _ hk => trivial), by repeat (first | (with_reducible first | exact HB.out | apply below_alloc | apply pw_below_drewN | apply below_drew1) | exact HB.out)⟩

end Go.Proofs.Ytkgkhakjodlpgaa.C
