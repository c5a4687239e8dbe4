/- Functions of the program as plain Lean functions, and that each call comes to what they say; printed by a program. -/
import Derived.Test.YtkgkhakjodlpgaaC0
import Derived.Test.YtkgkhakjodlpgaaC7
namespace Go.Proofs.Ytkgkhakjodlpgaa.C
open Go.RowKit Go.Proofs.YtkgkhakjodlpgaaW.PrintWords Go.Proofs.YtkgkhakjodlpgaaW.PrintLast Go.Proofs.YtkgkhakjodlpgaaW.PrintMore Go.Proofs.Ytkgkhakjodlpgaa.Ext Go.Proofs.Ytkgkhakjodlpgaa.Ca Go.Proofs.Ytkgkhakjodlpgaa.Cv
attribute [local go_sem] max2_int min2_int max_two min_two max_three min_three max_four min_four   -- for this text's walks alone
set_option linter.unusedVariables false
set_option linter.unusedSimpArgs false

/-! ### runnelref13_Components: function 43 -/
mutual
def runnelref13_Components.l0 : Nat → List (List Int) → Int → List (List Bool) → Int → Option ((List (List Int)))
 | 0, _, _, _, _ => none
 | k + 1, x0, x3, x4, x5 => if x5 < x3 then ((runnelref13_marks.f k x0 (([x5] : List Int))).bind fun t198 => (if x4.length < 5864062014805 then (runnelref13_Components.l0 k x0 x3 (x4 ++ [t198]) (wrap64 (x5 + 1))) else (none))) else (if 0 ≤ x3 then (if (x3 : Int).toNat ≤ 281474976710656 then (runnelref13_Components.l1 k x3 x4 (List.replicate (x3 : Int).toNat false) ([] : List (List Int)) 0) else (none)) else (none))
def runnelref13_Components.l1 : Nat → Int → List (List Bool) → List Bool → List (List Int) → Int → Option ((List (List Int)))
 | 0, _, _, _, _, _ => none
 | k + 1, x3, x4, x6, x7, x8 => if x8 < x3 then (if 0 ≤ x8 then (if x8 < (x6.length : Int) then (if rdOf false x6 x8 = true then (runnelref13_Components.l1 k x3 x4 x6 x7 (wrap64 (x8 + 1))) else (runnelref13_Components.l2 k x3 x4 x6 x7 x8 true 0)) else (none)) else (none)) else (some x7)
def runnelref13_Components.l2 : Nat → Int → List (List Bool) → List Bool → List (List Int) → Int → Bool → Int → Option ((List (List Int)))
 | 0, _, _, _, _, _, _, _ => none
 | k + 1, x3, x4, x6, x7, x8, x9, x10 => if x10 < x3 then (if x9 = true then (if 0 ≤ x10 then (if x10 < (x6.length : Int) then (if rdOf false x6 x10 = true then (runnelref13_Components.l2 k x3 x4 x6 x7 x8 true (wrap64 (x10 + 1))) else (if 0 ≤ x8 then (if x8 < (x4.length : Int) then (if x10 < ((rd_L3 x4 x8).length : Int) then (if (rdOf false (rd_L3 x4 x8) x10 = true) then (if x10 < (x4.length : Int) then (if x8 < ((rd_L3 x4 x10).length : Int) then (runnelref13_Components.l2 k x3 x4 x6 x7 x8 (rdOf false (rd_L3 x4 x10) x8) (wrap64 (x10 + 1))) else (none)) else (none)) else (runnelref13_Components.l2 k x3 x4 x6 x7 x8 true (wrap64 (x10 + 1)))) else (none)) else (none)) else (none))) else (none)) else (none)) else (runnelref13_Components.l2 k x3 x4 x6 x7 x8 false (wrap64 (x10 + 1)))) else (if x9 = true then (runnelref13_Components.l3 k x3 x4 x6 x7 x8 ([] : List Int) 0) else (runnelref13_Components.l1 k x3 x4 x6 x7 (wrap64 (x8 + 1))))
def runnelref13_Components.l3 : Nat → Int → List (List Bool) → List Bool → List (List Int) → Int → List Int → Int → Option ((List (List Int)))
 | 0, _, _, _, _, _, _, _ => none
 | k + 1, x3, x4, x6, x7, x8, x11, x12 => if x12 < x3 then (if 0 ≤ x8 then (if x8 < (x4.length : Int) then (if 0 ≤ x12 then (if x12 < ((rd_L3 x4 x8).length : Int) then (if rdOf false (rd_L3 x4 x8) x12 = true then (if x12 < (x4.length : Int) then (if x8 < ((rd_L3 x4 x12).length : Int) then (runnelref13_Components.j4 k x3 x4 x6 x7 x8 x11 x12 (rdOf false (rd_L3 x4 x12) x8)) else (none)) else (none)) else (runnelref13_Components.j4 k x3 x4 x6 x7 x8 x11 x12 false)) else (none)) else (none)) else (none)) else (none)) else (if x7.length < 5864062014805 then (runnelref13_Components.l1 k x3 x4 x6 (x7 ++ [x11]) ((-1) + 1)) else (none))
def runnelref13_Components.j4 : Nat → Int → List (List Bool) → List Bool → List (List Int) → Int → List Int → Int → Bool → Option ((List (List Int)))
 | 0, _, _, _, _, _, _, _, _ => none
 | k + 1, x3, x4, x6, x7, x8, x11, x12, x91 => if x91 = true then (if x11.length < 17592186044416 then (if 0 ≤ x12 then (if x12 < (x6.length : Int) then (runnelref13_Components.l3 k x3 x4 (x6.set (x12 : Int).toNat true) x7 x8 (x11 ++ [x12]) (wrap64 (x12 + 1))) else (none)) else (none)) else (none)) else (runnelref13_Components.l3 k x3 x4 x6 x7 x8 x11 (wrap64 (x12 + 1)))
end
def runnelref13_Components.f (k : Nat) (l0 : List (List Int)) : Option ((List (List Int))) := runnelref13_Components.l0 k l0 (l0.length : Int) ([] : List (List Bool)) 0
theorem runnelref13_Components.mono_l : ∀ k, (∀ y0 y1 y2 y3, LeO (runnelref13_Components.l0 k y0 y1 y2 y3) (runnelref13_Components.l0 (k + 1) y0 y1 y2 y3)) ∧ (∀ y0 y1 y2 y3 y4, LeO (runnelref13_Components.l1 k y0 y1 y2 y3 y4) (runnelref13_Components.l1 (k + 1) y0 y1 y2 y3 y4)) ∧ (∀ y0 y1 y2 y3 y4 y5 y6, LeO (runnelref13_Components.l2 k y0 y1 y2 y3 y4 y5 y6) (runnelref13_Components.l2 (k + 1) y0 y1 y2 y3 y4 y5 y6)) ∧ (∀ y0 y1 y2 y3 y4 y5 y6, LeO (runnelref13_Components.l3 k y0 y1 y2 y3 y4 y5 y6) (runnelref13_Components.l3 (k + 1) y0 y1 y2 y3 y4 y5 y6)) ∧ (∀ y0 y1 y2 y3 y4 y5 y6 y7, LeO (runnelref13_Components.j4 k y0 y1 y2 y3 y4 y5 y6 y7) (runnelref13_Components.j4 (k + 1) y0 y1 y2 y3 y4 y5 y6 y7))
 | 0 => ⟨fun _ _ _ _ r h => by simp [runnelref13_Components.l0] at h, fun _ _ _ _ _ r h => by simp [runnelref13_Components.l1] at h, fun _ _ _ _ _ _ _ r h => by simp [runnelref13_Components.l2] at h, fun _ _ _ _ _ _ _ r h => by simp [runnelref13_Components.l3] at h, fun _ _ _ _ _ _ _ _ r h => by simp [runnelref13_Components.j4] at h⟩
 | k + 1 => by
  obtain ⟨ih0, ih1, ih2, ih3, ih4⟩ := runnelref13_Components.mono_l k
  refine ⟨?_, ?_, ?_, ?_, ?_⟩
  ·intro y0 y1 y2 y3
   unfold runnelref13_Components.l0
   repeat' first
   | (with_reducible exact ih0 _ _ _ _)
   | (with_reducible exact ih1 _ _ _ _ _)
   | (with_reducible exact ih2 _ _ _ _ _ _ _)
   | (with_reducible exact ih3 _ _ _ _ _ _ _)
   | (with_reducible exact ih4 _ _ _ _ _ _ _ _)
   | (with_reducible exact runnelref13_marks.mono _ _ _)
   | (with_reducible exact LeO.refl _)
   | (with_reducible exact LeO.none _)
   | (with_reducible refine LeO.ite ?_ ?_)
   | (with_reducible refine LeO.bind ?_ (fun _ => ?_))
   | exact ih0 _ _ _ _
   | exact ih1 _ _ _ _ _
   | exact ih2 _ _ _ _ _ _ _
   | exact ih3 _ _ _ _ _ _ _
   | exact ih4 _ _ _ _ _ _ _ _
   | exact runnelref13_marks.mono _ _ _
   | exact LeO.none _
   | refine LeO.ite ?_ ?_
   | refine LeO.bind ?_ (fun _ => ?_)
  ·intro y0 y1 y2 y3 y4
   unfold runnelref13_Components.l1
   repeat' first
   | (with_reducible exact ih0 _ _ _ _)
   | (with_reducible exact ih1 _ _ _ _ _)
   | (with_reducible exact ih2 _ _ _ _ _ _ _)
   | (with_reducible exact ih3 _ _ _ _ _ _ _)
   | (with_reducible exact ih4 _ _ _ _ _ _ _ _)
   | (with_reducible exact runnelref13_marks.mono _ _ _)
   | (with_reducible exact LeO.refl _)
   | (with_reducible exact LeO.none _)
   | (with_reducible refine LeO.ite ?_ ?_)
   | (with_reducible refine LeO.bind ?_ (fun _ => ?_))
   | exact ih0 _ _ _ _
   | exact ih1 _ _ _ _ _
   | exact ih2 _ _ _ _ _ _ _
   | exact ih3 _ _ _ _ _ _ _
   | exact ih4 _ _ _ _ _ _ _ _
   | exact runnelref13_marks.mono _ _ _
   | exact LeO.none _
   | refine LeO.ite ?_ ?_
   | refine LeO.bind ?_ (fun _ => ?_)
  ·intro y0 y1 y2 y3 y4 y5 y6
   unfold runnelref13_Components.l2
   repeat' first
   | (with_reducible exact ih0 _ _ _ _)
   | (with_reducible exact ih1 _ _ _ _ _)
   | (with_reducible exact ih2 _ _ _ _ _ _ _)
   | (with_reducible exact ih3 _ _ _ _ _ _ _)
   | (with_reducible exact ih4 _ _ _ _ _ _ _ _)
   | (with_reducible exact runnelref13_marks.mono _ _ _)
   | (with_reducible exact LeO.refl _)
   | (with_reducible exact LeO.none _)
   | (with_reducible refine LeO.ite ?_ ?_)
   | (with_reducible refine LeO.bind ?_ (fun _ => ?_))
   | exact ih0 _ _ _ _
   | exact ih1 _ _ _ _ _
   | exact ih2 _ _ _ _ _ _ _
   | exact ih3 _ _ _ _ _ _ _
   | exact ih4 _ _ _ _ _ _ _ _
   | exact runnelref13_marks.mono _ _ _
   | exact LeO.none _
   | refine LeO.ite ?_ ?_
   | refine LeO.bind ?_ (fun _ => ?_)
  ·intro y0 y1 y2 y3 y4 y5 y6
   unfold runnelref13_Components.l3
   repeat' first
   | (with_reducible exact ih0 _ _ _ _)
   | (with_reducible exact ih1 _ _ _ _ _)
   | (with_reducible exact ih2 _ _ _ _ _ _ _)
   | (with_reducible exact ih3 _ _ _ _ _ _ _)
   | (with_reducible exact ih4 _ _ _ _ _ _ _ _)
   | (with_reducible exact runnelref13_marks.mono _ _ _)
   | (with_reducible exact LeO.refl _)
   | (with_reducible exact LeO.none _)
   | (with_reducible refine LeO.ite ?_ ?_)
   | (with_reducible refine LeO.bind ?_ (fun _ => ?_))
   | exact ih0 _ _ _ _
   | exact ih1 _ _ _ _ _
   | exact ih2 _ _ _ _ _ _ _
   | exact ih3 _ _ _ _ _ _ _
   | exact ih4 _ _ _ _ _ _ _ _
   | exact runnelref13_marks.mono _ _ _
   | exact LeO.none _
   | refine LeO.ite ?_ ?_
   | refine LeO.bind ?_ (fun _ => ?_)
  ·intro y0 y1 y2 y3 y4 y5 y6 y7
   unfold runnelref13_Components.j4
   repeat' first
   | (with_reducible exact ih0 _ _ _ _)
   | (with_reducible exact ih1 _ _ _ _ _)
   | (with_reducible exact ih2 _ _ _ _ _ _ _)
   | (with_reducible exact ih3 _ _ _ _ _ _ _)
   | (with_reducible exact ih4 _ _ _ _ _ _ _ _)
   | (with_reducible exact runnelref13_marks.mono _ _ _)
   | (with_reducible exact LeO.refl _)
   | (with_reducible exact LeO.none _)
   | (with_reducible refine LeO.ite ?_ ?_)
   | (with_reducible refine LeO.bind ?_ (fun _ => ?_))
   | exact ih0 _ _ _ _
   | exact ih1 _ _ _ _ _
   | exact ih2 _ _ _ _ _ _ _
   | exact ih3 _ _ _ _ _ _ _
   | exact ih4 _ _ _ _ _ _ _ _
   | exact runnelref13_marks.mono _ _ _
   | exact LeO.none _
   | refine LeO.ite ?_ ?_
   | refine LeO.bind ?_ (fun _ => ?_)
theorem runnelref13_Components.mono : ∀ a0 k, LeO (runnelref13_Components.f k a0) (runnelref13_Components.f (k + 1) a0) := by
 intro a0 k
 obtain ⟨ih0, ih1, ih2, ih3, ih4⟩ := runnelref13_Components.mono_l k
 unfold runnelref13_Components.f
 repeat' first
   | (with_reducible exact ih0 _ _ _ _)
   | (with_reducible exact ih1 _ _ _ _ _)
   | (with_reducible exact ih2 _ _ _ _ _ _ _)
   | (with_reducible exact ih3 _ _ _ _ _ _ _)
   | (with_reducible exact ih4 _ _ _ _ _ _ _ _)
   | (with_reducible exact runnelref13_marks.mono _ _ _)
   | (with_reducible exact LeO.refl _)
   | (with_reducible exact LeO.none _)
   | (with_reducible refine LeO.ite ?_ ?_)
   | (with_reducible refine LeO.bind ?_ (fun _ => ?_))
   | exact ih0 _ _ _ _
   | exact ih1 _ _ _ _ _
   | exact ih2 _ _ _ _ _ _ _
   | exact ih3 _ _ _ _ _ _ _
   | exact ih4 _ _ _ _ _ _ _ _
   | exact runnelref13_marks.mono _ _ _
   | exact LeO.none _
   | refine LeO.ite ?_ ?_
   | refine LeO.bind ?_ (fun _ => ?_)
set_option maxHeartbeats 8000000 in
set_option maxRecDepth 100000 in
theorem runnelref13_Components.calls (k : Nat) (A0 : Option Addr) (c0 : Nat) (l0 : List (List Int)) (r : List (List Int)) (w : World) (hr0 : Kd.C (Kd.slice 3 (Kd.int .i64)) w A0 l0.length l0) (hc0 : l0.length ≤ c0) (h : runnelref13_Components.f k l0 = some r) :
  Calls Try.prog 43 #[.slice A0 l0.length c0] w fun e w' => ∃ v0_ : Value, e = .returned (v0_) ∧ Kd.S (Kd.slice 3 (Kd.int .i64)) 53 w' w.heap.size (fun _ => True) v0_ r ∧ Below w.heap.size w w' := by
 have HR0 := Aside0.mk hr0
 have HC0 := Aside0.mk hc0
 clear hr0 hc0
 have HB := Aside0.mk (Below.refl w.heap.size w)
 have H : (runnelref13_Components.l0 k l0 (l0.length : Int) ([] : List (List Bool)) 0) = some r := h
 clear h
 have H' := Aside0.mk H
 clear H
 go_enter Try.func43, Try.ntmps43
 go_wp2
 go_loopg [4, 5] k (fun kq v4 v5 w' => ∃ (x4_1 : List (List Bool)) (x5_1 : Int), v5 = .int .i64 x5_1 ∧ Aside0 (runnelref13_Components.l0 kq l0 (l0.length : Int) x4_1 x5_1 = some r) ∧ Aside0 (kq ≤ k) ∧ Aside0 (Kd.S (Kd.slice 4 Kd.bool) 85 w' w.heap.size (fun _ => True) v4 x4_1) ∧ Aside0 (Below w.heap.size w w'))
 case atStart => exact ⟨(([] : List (List Bool))), (0), (by first | rfl | (simp; done) | (simp [*]; done)), H', ⟨Nat.le_refl _⟩, ⟨by first | exact Kd.S_nil _ _ _ _ _ | exact Kd.N_nil _ _ _ _ _ | exact Kd.V_nil _ _ _ _ _ | exact Kd.Q_nil _ _ _ _ _ | exact Kd.R_nil _ _ _ _ _⟩, ⟨by repeat (first | (with_reducible first | exact HB.out | apply below_alloc | apply pw_below_drewN | apply below_drew1) | exact HB.out)⟩⟩
 case round =>
  clear H'
  obtain ⟨x4_1, x5_1, rfl, HA, HK1, HO_4, HB⟩ := hrel
  cases gk with
  | zero => exact absurd HA.out (by simp [runnelref13_Components.l0])
  | succ k1 =>
   have H := HA.out
   clear HA
   simp only [runnelref13_Components.l0] at H
   by_cases c2 : x5_1 < (l0.length : Int)
   ·rw [if_pos c2] at H
    have c2b0 : decide (x5_1 < (l0.length : Int)) = true := decide_eq_true c2
    clear c2
    obtain ⟨y195, hy195⟩ : ∃ y_ : List Int, y_ = (([x5_1] : List Int)) := ⟨_, rfl⟩
    replace H : ((runnelref13_marks.f k1 l0 y195).bind fun t198 => (if x4_1.length < 5864062014805 then (runnelref13_Components.l0 k1 l0 (l0.length : Int) (x4_1 ++ [t198]) (wrap64 (x5_1 + 1))) else (none))) = some r := by first | (rw [hy195]; with_reducible exact H) | (have H2_ := (Option.bind_some _ _).symm.trans H; rw [hy195]; with_reducible exact H2_) | (have H2_ := (Option.bind_some _ _).symm.trans H; with_reducible exact H2_) | with_reducible exact H | (rw [hy195]; exact H) | exact H
    have Ny195 := Aside0.mk hy195
    clear hy195
    replace H := Option.bind_eq_some_iff.mp H
    obtain ⟨t198, A30, H⟩ := H
    replace H : (if x4_1.length < 5864062014805 then (runnelref13_Components.l0 k1 l0 (l0.length : Int) (x4_1 ++ [t198]) (wrap64 (x5_1 + 1))) else (none)) = some r := H
    have A3 := Aside0.mk A30
    clear A30
    by_cases c4 : x4_1.length < 5864062014805
    ·rw [if_pos c4] at H
     have LMc4 := Aside0.mk c4
     clear c4
     obtain ⟨y201, hy201⟩ : ∃ y_ : List (List Bool), y_ = (x4_1 ++ [t198]) := ⟨_, rfl⟩
     replace H : (runnelref13_Components.l0 k1 l0 (l0.length : Int) y201 (wrap64 (x5_1 + 1))) = some r := by first | (rw [hy201]; with_reducible exact H) | (have H2_ := (Option.bind_some _ _).symm.trans H; rw [hy201]; with_reducible exact H2_) | (have H2_ := (Option.bind_some _ _).symm.trans H; with_reducible exact H2_) | with_reducible exact H | (rw [hy201]; exact H) | exact H
     have Ny201 := Aside0.mk hy201
     clear hy201
     have H' := Aside0.mk H
     clear H
     go_wp2_with (first | ((with_reducible refine gate_dst (N := 23) rfl ?_); refine Kd.R_lit (Kd.int .i64) _ 3 ?hg (N := 23) ?hd (xs := ([x5_1] : List Int)) (inner := [.int .i64 x5_1]) (ok := fun _ => True) (okp := fun _ => True) ?hr ?hp (fun _ hk => hk) trivial (Below.refl _ _) (Nat.le_refl _) (by simp) ?_; (case hd => rfl); (case hg => rfl); (case hr => first | (go_simp; done) | (go_simp; rfl)); (case hp => exact (Reps.one (show Kd.M (Kd.int .i64) _ _ _ x5_1 [.int .i64 x5_1] from rfl) (Reps.none _ _))); intro v196 w5 ho6 hb hg_ hnew_; clear hg_ hnew_; (first | rw [← Ny195.out] at ho6 | (simp only [Int.reduceToNat] at ho6; rw [← Ny195.out] at ho6)); have n0_ := Aside0.mk (Kd.S_below (by (with_reducible repeat (first | apply Kd.S_alloc | apply Kd.S_drewN | apply Kd.S_drew)); exact HO_4.out) hb); have n1_ := Aside0.mk (Kd.R_lower ho6 (below_size (by repeat (first | (with_reducible first | exact HB.out | apply below_alloc | apply pw_below_drewN | apply below_drew1) | exact HB.out)))); have n2_ := Aside0.mk (below_step (by repeat (first | (with_reducible first | exact HB.out | apply below_alloc | apply pw_below_drewN | apply below_drew1) | exact HB.out)) hb); clear HO_4; clear HB; have HO_4 := n0_; have HO197 := n1_; have HB := n2_; clear n0_ n1_ n2_; clear hb ho6; obtain ⟨Ao7, co7, eo7⟩ := Kd.R_slice HO197.out; subst eo7) | ((with_reducible refine gate_callee (f := 75) rfl ?_); refine goesL_ (some 24) rfl rfl Try.func75 (by kernel_rfl) rfl #[.slice A0 l0.length c0, .slice Ao7 y195.length co7] rfl (by (try simp only [List.map_toArray, List.map_cons, List.map_nil]); first | done | rfl | (simp only [List.length_drop, List.length_take]; rfl)) ?_; (with_reducible refine (runnelref13_marks.calls k1 _ _ l0 _ _ y195 t198 _ ?side1 ?side2 ?side3 ?side4 A3.out).mono ?_); (case side1 => repeat (first | exact (Kd.C_below HR0.out HB.out) | (with_reducible refine Kd.C_alloc ?_ _) | (with_reducible refine Kd.C_drewN ?_ _) | (with_reducible refine Kd.C_drew ?_))); (case side2 => exact HC0.out); (case side3 => repeat (first | exact (Kd.R_reads' HO197.out).2.2 | (with_reducible refine Kd.C_alloc ?_ _) | (with_reducible refine Kd.C_drewN ?_ _) | (with_reducible refine Kd.C_drew ?_))); (case side4 => exact (Kd.R_reads' HO197.out).2.1); rintro e w8 ⟨v199, rfl, ho0, hb⟩; refine ⟨_, rfl, ?_⟩; have n0_ := Aside0.mk (Kd.S_elder' (by (with_reducible repeat (first | apply Kd.S_alloc | apply Kd.S_drewN | apply Kd.S_drew)); exact HO_4.out) (Kd.R_base ho0) hb); have n1_ := Aside0.mk (Kd.R_below (by (with_reducible repeat (first | apply Kd.R_alloc | apply Kd.R_drewN | apply Kd.R_drew)); exact HO197.out) hb); have n2_ := Aside0.mk (Kd.R_lower ho0 (below_size (by repeat (first | (with_reducible first | exact HB.out | apply below_alloc | apply pw_below_drewN | apply below_drew1) | exact HB.out)))); have n3_ := Aside0.mk (below_step (by repeat (first | (with_reducible first | exact HB.out | apply below_alloc | apply pw_below_drewN | apply below_drew1) | exact HB.out)) hb); clear HO_4; clear HO197; clear HB; have HO_4 := n0_; have HO197 := n1_; have HO200 := n2_; have HB := n3_; clear n0_ n1_ n2_ n3_; (try clear hb); (try clear hb2); (try clear hk); (try clear hi); (try clear ho0); obtain ⟨Ao10, co10, eo10⟩ := Kd.R_slice HO200.out; subst eo10) | ((with_reducible refine gate_builtin (b := .append) (xs := #[.tmp 20, .tmp 25]) rfl ?_); at_builtin; refine Kd.S_append (Kd.slice 4 Kd.bool) (w0 := w) w.heap.size rfl (.tmp 20) (.tmp 25) 82 85 (.slice none 0 0) 24 rfl Try.underlying82 info85 rfl (by decide) (by omega) u4 x4_1 t198 [.slice Ao10 t198.length co10] (fun _ => True) (fun k_ => some k_ = (.slice Ao10 t198.length co10 : Value).ownBlock) rfl rfl ?aP (fun k_ hk_ => ((Kd.R_mono (ok' := fun k_ => ((fun _ => True)) k_ ∧ some k_ ≠ (u4 : Value).ownBlock) (Kd.R_apart' (HO200.out) (Kd.S_typed HO_4.out) (by decide)) (fun k_ hk => ⟨trivial, hk.2⟩))).1 k_ hk_.symm) ?aF ?aO ?aB ?aS ?aL ?_; (case aP => exact Kd.M_row (Kd.R_mono (Kd.R_tight rfl (Kd.R_mono (ok' := fun k_ => ((fun _ => True)) k_ ∧ some k_ ≠ (u4 : Value).ownBlock) (Kd.R_apart' (HO200.out) (Kd.S_typed HO_4.out) (by decide)) (fun k_ hk => ⟨trivial, hk.2⟩))) (fun _ h_ => h_))); (case aB => exact (by repeat (first | (with_reducible first | exact HB.out | apply below_alloc | apply pw_below_drewN | apply below_drew1) | exact HB.out))); (case aF => exact (fun _ _ => trivial)); (case aO => exact (by (with_reducible repeat (first | apply Kd.S_alloc | apply Kd.S_drewN | apply Kd.S_drew)); exact Kd.S_mono HO_4.out (fun k_ hk => ⟨trivial, fun e_ => hk.2 e_⟩))); (case aS => exact (below_size (by repeat (first | (with_reducible first | exact HB.out | apply below_alloc | apply pw_below_drewN | apply below_drew1) | exact HB.out)))); (case aL => have := LMc4.out; omega); intro v202 w9 ho hb hg hat; rw [← Ny201.out] at ho; have n0_ := Aside0.mk (Kd.R_over' (by (with_reducible repeat (first | apply Kd.R_alloc | apply Kd.R_drewN | apply Kd.R_drew)); exact HO197.out) (Kd.S_typed (by (with_reducible repeat (first | apply Kd.S_alloc | apply Kd.S_drewN | apply Kd.S_drew)); exact HO_4.out)) (by decide) hg); have n1_ := Aside0.mk (hb); have n2_ := Aside0.mk (ho); clear HO197; clear HB; clear HO_4; clear HO200; have HO197 := n0_; have HB := n1_; have HO203 := n2_; clear n0_ n1_ n2_; clear ho hb hg hat))
     go_roundg k1
     case measure => have := HK1.out; omega
     case rel => exact ⟨(y201), (wrap64 (x5_1 + 1)), (by first | rfl | (simp; done) | (simp [*]; done)), H', ⟨by have := HK1.out; omega⟩, ⟨by (with_reducible repeat (first | apply Kd.S_alloc | apply Kd.S_drewN | apply Kd.S_drew)); exact HO203.out⟩, ⟨by repeat (first | (with_reducible first | exact HB.out | apply below_alloc | apply pw_below_drewN | apply below_drew1) | exact HB.out)⟩⟩
    ·rw [if_neg c4] at H
     exact absurd H (by simp)
   ·rw [if_neg c2] at H
    have c2b0 : decide (x5_1 < (l0.length : Int)) = false := decide_eq_false c2
    clear c2
    by_cases c11 : 0 ≤ (l0.length : Int)
    ·rw [if_pos c11] at H
     have c11b0 := eq_true c11
     have c11b1 : decide (0 ≤ (l0.length : Int)) = true := decide_eq_true c11
     clear c11
     by_cases c12 : ((l0.length : Int) : Int).toNat ≤ 281474976710656
     ·rw [if_pos c12] at H
      have c12b0 := eq_true c12
      have c12b1 : decide (((l0.length : Int) : Int).toNat ≤ 281474976710656) = true := decide_eq_true c12
      clear c12
      obtain ⟨y204, hy204⟩ : ∃ y_ : List Bool, y_ = (List.replicate ((l0.length : Int) : Int).toNat false) := ⟨_, rfl⟩
      replace H : (runnelref13_Components.l1 k1 (l0.length : Int) x4_1 y204 ([] : List (List Int)) 0) = some r := by first | (rw [hy204]; with_reducible exact H) | (have H2_ := (Option.bind_some _ _).symm.trans H; rw [hy204]; with_reducible exact H2_) | (have H2_ := (Option.bind_some _ _).symm.trans H; with_reducible exact H2_) | with_reducible exact H | (rw [hy204]; exact H) | exact H
      have Ny204 := Aside0.mk hy204
      clear hy204
      have H' := Aside0.mk H
      clear H
      go_wp2_with (first | ((with_reducible refine gate_dst (N := 28) rfl ?_); refine Kd.R_make Kd.bool _ 4 rfl (N := 28) rfl 85 _ _ rfl (l0.length : Int) rfl rfl Try.underlying85 (.bool false) 1 info4 rfl (by decide) (by omega) false (ok := fun _ => True) (okp := fun _ => True) rfl (fun _ hk => hk) trivial (of_decide_eq_true (by first | (with_reducible assumption) | assumption)) (Nat.le_trans (Nat.mul_le_mul_right _ (of_decide_eq_true (by first | (with_reducible assumption) | assumption) : (l0.length : Int).toNat ≤ 281474976710656)) (by omega)) (Below.refl _ _) (Nat.le_refl _) ?_; intro v205 w13 ho14 hb hg_ hnew_; clear hg_ hnew_; (first | rw [← Ny204.out] at ho14 | (simp only [Int.reduceToNat] at ho14; rw [← Ny204.out] at ho14)); have n0_ := Aside0.mk (Kd.S_elder' (by (with_reducible repeat (first | apply Kd.S_alloc | apply Kd.S_drewN | apply Kd.S_drew)); exact HO_4.out) (Kd.R_base ho14) hb); have n1_ := Aside0.mk (Kd.R_lower ho14 (below_size (by repeat (first | (with_reducible first | exact HB.out | apply below_alloc | apply pw_below_drewN | apply below_drew1) | exact HB.out)))); have n2_ := Aside0.mk (below_step (by repeat (first | (with_reducible first | exact HB.out | apply below_alloc | apply pw_below_drewN | apply below_drew1) | exact HB.out)) hb); clear HO_4; clear HB; have HO_4 := n0_; have HO206 := n1_; have HB := n2_; clear n0_ n1_ n2_; clear hb ho14))
      go_loopg [7, 8] k1 (fun kq v7 v8 w' => ∃ (x6_2 : List Bool) (x7_2 : List (List Int)) (x8_2 : Int), v8 = .int .i64 x8_2 ∧ Aside0 (runnelref13_Components.l1 kq (l0.length : Int) x4_1 x6_2 x7_2 x8_2 = some r) ∧ Aside0 (kq ≤ k1) ∧ Aside0 (Kd.S (Kd.slice 4 Kd.bool) 85 w' w.heap.size (fun k_ => some k_ ≠ (v205 : Value).ownBlock) u4 x4_1) ∧ Aside0 (Kd.R Kd.bool 4 w' w.heap.size (fun _ => True) v205 x6_2) ∧ Aside0 (Kd.S (Kd.slice 3 (Kd.int .i64)) 53 w' w.heap.size (fun _ => True) v7 x7_2) ∧ Aside0 (Below w.heap.size w w'))
      case atStart => exact ⟨(y204), (([] : List (List Int))), (0), (by first | rfl | (simp; done) | (simp [*]; done)), H', ⟨Nat.le_refl _⟩, ⟨by (with_reducible repeat (first | apply Kd.S_alloc | apply Kd.S_drewN | apply Kd.S_drew)); exact Kd.S_mono HO_4.out (fun _ hk => hk.2)⟩, ⟨by (with_reducible repeat (first | apply Kd.R_alloc | apply Kd.R_drewN | apply Kd.R_drew)); exact HO206.out⟩, ⟨by first | exact Kd.S_nil _ _ _ _ _ | exact Kd.N_nil _ _ _ _ _ | exact Kd.V_nil _ _ _ _ _ | exact Kd.Q_nil _ _ _ _ _ | exact Kd.R_nil _ _ _ _ _⟩, ⟨by repeat (first | (with_reducible first | exact HB.out | apply below_alloc | apply pw_below_drewN | apply below_drew1) | exact HB.out)⟩⟩
      case round =>
       clear H'
       try clear c1
       try clear c2
       try clear c2b0
       try clear p2
       try clear c4
       try clear p6
       try clear c7
       try clear c11
       try clear c11b0
       try clear c11b1
       try clear c12
       try clear c12b0
       try clear c12b1
       obtain ⟨x6_2, x7_2, x8_2, rfl, HA, HK2, HO_4, HO_6, HO_7, HB⟩ := hrel
       cases gk with
       | zero => exact absurd HA.out (by simp [runnelref13_Components.l1])
       | succ k2 =>
        have H := HA.out
        clear HA
        simp only [runnelref13_Components.l1] at H
        by_cases c15 : x8_2 < (l0.length : Int)
        ·rw [if_pos c15] at H
         have c15b0 : decide (x8_2 < (l0.length : Int)) = true := decide_eq_true c15
         clear c15
         by_cases c16 : 0 ≤ x8_2
         ·rw [if_pos c16] at H
          have c16b0 : decide (0 ≤ x8_2) = true := decide_eq_true c16
          clear c16
          by_cases c17 : x8_2 < (x6_2.length : Int)
          ·rw [if_pos c17] at H
           have c17b0 : decide (x8_2 < (x6_2.length : Int)) = true := decide_eq_true c17
           clear c17
           obtain ⟨bq18, hbq18⟩ : ∃ b_ : Bool, b_ = (rdOf false x6_2 x8_2) := ⟨_, rfl⟩
           replace H : (if bq18 = true then (runnelref13_Components.l1 k2 (l0.length : Int) x4_1 x6_2 x7_2 (wrap64 (x8_2 + 1))) else (runnelref13_Components.l2 k2 (l0.length : Int) x4_1 x6_2 x7_2 x8_2 true 0)) = some r := by rw [← hbq18] at H; exact H
           have Nbq18 := Aside0.mk hbq18
           clear hbq18
           by_cases c19 : bq18 = true
           ·subst c19
            have H1 : (runnelref13_Components.l1 k2 (l0.length : Int) x4_1 x6_2 x7_2 (wrap64 (x8_2 + 1))) = some r := by rw [if_pos rfl] at H; exact H
            clear H
            have H := H1
            clear H1
            have H' := Aside0.mk H
            clear H
            obtain ⟨Ao20, co20, eo20⟩ := Kd.R_slice HO_6.out
            subst eo20
            have p207 : 0 ≤ (x8_2 : Int) := of_decide_eq_true (by first | (with_reducible assumption) | assumption)
            have q207 : x8_2 < (x6_2.length : Int) := of_decide_eq_true (by first | (with_reducible assumption) | assumption)
            obtain ⟨ad207, e207, hx207_0⟩ := Kd.at_bool (Kd.R_reads' HO_6.out).2.2 x8_2 p207 q207
            (try rw [← Nbq18.out] at hx207_0)
            cases e207
            replace p207 := eq_true p207
            replace q207 := eq_true q207
            go_wp2
            go_roundg k2
            case measure => have := HK1.out; have := HK2.out; omega
            case rel => exact ⟨(x6_2), (x7_2), (wrap64 (x8_2 + 1)), (by first | rfl | (simp; done) | (simp [*]; done)), H', ⟨by have := HK1.out; have := HK2.out; omega⟩, ⟨by (with_reducible repeat (first | apply Kd.S_alloc | apply Kd.S_drewN | apply Kd.S_drew)); exact HO_4.out⟩, ⟨by (with_reducible repeat (first | apply Kd.R_alloc | apply Kd.R_drewN | apply Kd.R_drew)); exact HO_6.out⟩, ⟨by (with_reducible repeat (first | apply Kd.S_alloc | apply Kd.S_drewN | apply Kd.S_drew)); exact HO_7.out⟩, ⟨by repeat (first | (with_reducible first | exact HB.out | apply below_alloc | apply pw_below_drewN | apply below_drew1) | exact HB.out)⟩⟩
           ·replace c19 := Bool.eq_false_iff.mpr c19
            subst c19
            have H1 : (runnelref13_Components.l2 k2 (l0.length : Int) x4_1 x6_2 x7_2 x8_2 true 0) = some r := by rw [if_neg (show ¬ (false = true) by decide)] at H; exact H
            clear H
            have H := H1
            clear H1
            have H' := Aside0.mk H
            clear H
            obtain ⟨Ao21, co21, eo21⟩ := Kd.R_slice HO_6.out
            subst eo21
            have p207 : 0 ≤ (x8_2 : Int) := of_decide_eq_true (by first | (with_reducible assumption) | assumption)
            have q207 : x8_2 < (x6_2.length : Int) := of_decide_eq_true (by first | (with_reducible assumption) | assumption)
            obtain ⟨ad207, e207, hx207_0⟩ := Kd.at_bool (Kd.R_reads' HO_6.out).2.2 x8_2 p207 q207
            (try rw [← Nbq18.out] at hx207_0)
            cases e207
            replace p207 := eq_true p207
            replace q207 := eq_true q207
            go_wp2
            go_loopg [9, 10] k2 (fun kq v9 v10 w' => ∃ (x9_3 : Bool) (x10_3 : Int), v9 = .bool x9_3 ∧ v10 = .int .i64 x10_3 ∧ Aside0 (runnelref13_Components.l2 kq (l0.length : Int) x4_1 x6_2 x7_2 x8_2 x9_3 x10_3 = some r) ∧ Aside0 (kq ≤ k2) ∧ Aside0 (Kd.S (Kd.slice 4 Kd.bool) 85 w' w.heap.size (fun k_ => some k_ ≠ ((.slice (some ad207) x6_2.length co21) : Value).ownBlock) u4 x4_1) ∧ Aside0 (Kd.R Kd.bool 4 w' w.heap.size (fun _ => True) (.slice (some ad207) x6_2.length co21) x6_2) ∧ Aside0 (Kd.S (Kd.slice 3 (Kd.int .i64)) 53 w' w.heap.size (fun _ => True) u7 x7_2) ∧ Aside0 (Below w.heap.size w w'))
            case atStart => exact ⟨(true), (0), (by first | rfl | (simp; done) | (simp [*]; done)), (by first | rfl | (simp; done) | (simp [*]; done)), H', ⟨Nat.le_refl _⟩, ⟨by (with_reducible repeat (first | apply Kd.S_alloc | apply Kd.S_drewN | apply Kd.S_drew)); exact HO_4.out⟩, ⟨by (with_reducible repeat (first | apply Kd.R_alloc | apply Kd.R_drewN | apply Kd.R_drew)); exact HO_6.out⟩, ⟨by (with_reducible repeat (first | apply Kd.S_alloc | apply Kd.S_drewN | apply Kd.S_drew)); exact HO_7.out⟩, ⟨by repeat (first | (with_reducible first | exact HB.out | apply below_alloc | apply pw_below_drewN | apply below_drew1) | exact HB.out)⟩⟩
            case round =>
             clear H'
             try clear c1
             try clear q1
             try clear c2
             try clear c2b0
             try clear p2
             try clear q2
             try clear hx2
             try clear c4
             try clear p6
             try clear c7
             try clear c11
             try clear c11b0
             try clear c11b1
             try clear c12
             try clear c12b0
             try clear c12b1
             try clear c15
             try clear c15b0
             try clear c16
             try clear c16b0
             try clear c17
             try clear c17b0
             try clear q18
             try clear c19
             try clear p20
             try clear q20
             try clear hx20
             try clear hx207_0
             try clear p2
             try clear p207
             try clear p6
             try clear q207
             obtain ⟨x9_3, x10_3, rfl, rfl, HA, HK3, HO_4, HO_6, HO_7, HB⟩ := hrel
             cases gk with
             | zero => exact absurd HA.out (by simp [runnelref13_Components.l2])
             | succ k3 =>
              have H := HA.out
              clear HA
              simp only [runnelref13_Components.l2] at H
              by_cases c22 : x10_3 < (l0.length : Int)
              ·rw [if_pos c22] at H
               have c22b0 : decide (x10_3 < (l0.length : Int)) = true := decide_eq_true c22
               clear c22
               by_cases c23 : x9_3 = true
               ·subst c23
                have H1 : (if 0 ≤ x10_3 then (if x10_3 < (x6_2.length : Int) then (if rdOf false x6_2 x10_3 = true then (runnelref13_Components.l2 k3 (l0.length : Int) x4_1 x6_2 x7_2 x8_2 true (wrap64 (x10_3 + 1))) else (if 0 ≤ x8_2 then (if x8_2 < (x4_1.length : Int) then (if x10_3 < ((rd_L3 x4_1 x8_2).length : Int) then (if (rdOf false (rd_L3 x4_1 x8_2) x10_3 = true) then (if x10_3 < (x4_1.length : Int) then (if x8_2 < ((rd_L3 x4_1 x10_3).length : Int) then (runnelref13_Components.l2 k3 (l0.length : Int) x4_1 x6_2 x7_2 x8_2 (rdOf false (rd_L3 x4_1 x10_3) x8_2) (wrap64 (x10_3 + 1))) else (none)) else (none)) else (runnelref13_Components.l2 k3 (l0.length : Int) x4_1 x6_2 x7_2 x8_2 true (wrap64 (x10_3 + 1)))) else (none)) else (none)) else (none))) else (none)) else (none)) = some r := by rw [if_pos rfl] at H; exact H
                clear H
                have H := H1
                clear H1
                by_cases c24 : 0 ≤ x10_3
                ·rw [if_pos c24] at H
                 have c24b0 : decide (0 ≤ x10_3) = true := decide_eq_true c24
                 clear c24
                 by_cases c25 : x10_3 < (x6_2.length : Int)
                 ·rw [if_pos c25] at H
                  have c25b0 : decide (x10_3 < (x6_2.length : Int)) = true := decide_eq_true c25
                  clear c25
                  obtain ⟨bq26, hbq26⟩ : ∃ b_ : Bool, b_ = (rdOf false x6_2 x10_3) := ⟨_, rfl⟩
                  replace H : (if bq26 = true then (runnelref13_Components.l2 k3 (l0.length : Int) x4_1 x6_2 x7_2 x8_2 true (wrap64 (x10_3 + 1))) else (if 0 ≤ x8_2 then (if x8_2 < (x4_1.length : Int) then (if x10_3 < ((rd_L3 x4_1 x8_2).length : Int) then (if (rdOf false (rd_L3 x4_1 x8_2) x10_3 = true) then (if x10_3 < (x4_1.length : Int) then (if x8_2 < ((rd_L3 x4_1 x10_3).length : Int) then (runnelref13_Components.l2 k3 (l0.length : Int) x4_1 x6_2 x7_2 x8_2 (rdOf false (rd_L3 x4_1 x10_3) x8_2) (wrap64 (x10_3 + 1))) else (none)) else (none)) else (runnelref13_Components.l2 k3 (l0.length : Int) x4_1 x6_2 x7_2 x8_2 true (wrap64 (x10_3 + 1)))) else (none)) else (none)) else (none))) = some r := by rw [← hbq26] at H; exact H
                  have Nbq26 := Aside0.mk hbq26
                  clear hbq26
                  by_cases c27 : bq26 = true
                  ·subst c27
                   have H1 : (runnelref13_Components.l2 k3 (l0.length : Int) x4_1 x6_2 x7_2 x8_2 true (wrap64 (x10_3 + 1))) = some r := by rw [if_pos rfl] at H; exact H
                   clear H
                   have H := H1
                   clear H1
                   have H' := Aside0.mk H
                   clear H
                   have p208 : 0 ≤ (x10_3 : Int) := of_decide_eq_true (by first | (with_reducible assumption) | assumption)
                   have q208 : x10_3 < (x6_2.length : Int) := of_decide_eq_true (by first | (with_reducible assumption) | assumption)
                   obtain ⟨ad208, e208, hx208_0⟩ := Kd.at_bool (Kd.R_reads' HO_6.out).2.2 x10_3 p208 q208
                   (try rw [← Nbq18.out] at hx208_0)
                   (try rw [← Nbq26.out] at hx208_0)
                   obtain rfl : ad207 = ad208 := (by injection e208)
                   replace p208 := eq_true p208
                   replace q208 := eq_true q208
                   go_wp2
                   go_roundg k3
                   case measure => have := HK1.out; have := HK2.out; have := HK3.out; omega
                   case rel => exact ⟨(true), (wrap64 (x10_3 + 1)), (by first | rfl | (simp; done) | (simp [*]; done)), (by first | rfl | (simp; done) | (simp [*]; done)), H', ⟨by have := HK1.out; have := HK2.out; have := HK3.out; omega⟩, ⟨by (with_reducible repeat (first | apply Kd.S_alloc | apply Kd.S_drewN | apply Kd.S_drew)); exact HO_4.out⟩, ⟨by (with_reducible repeat (first | apply Kd.R_alloc | apply Kd.R_drewN | apply Kd.R_drew)); exact HO_6.out⟩, ⟨by (with_reducible repeat (first | apply Kd.S_alloc | apply Kd.S_drewN | apply Kd.S_drew)); exact HO_7.out⟩, ⟨by repeat (first | (with_reducible first | exact HB.out | apply below_alloc | apply pw_below_drewN | apply below_drew1) | exact HB.out)⟩⟩
                  ·replace c27 := Bool.eq_false_iff.mpr c27
                   subst c27
                   have H1 : (if 0 ≤ x8_2 then (if x8_2 < (x4_1.length : Int) then (if x10_3 < ((rd_L3 x4_1 x8_2).length : Int) then (if (rdOf false (rd_L3 x4_1 x8_2) x10_3 = true) then (if x10_3 < (x4_1.length : Int) then (if x8_2 < ((rd_L3 x4_1 x10_3).length : Int) then (runnelref13_Components.l2 k3 (l0.length : Int) x4_1 x6_2 x7_2 x8_2 (rdOf false (rd_L3 x4_1 x10_3) x8_2) (wrap64 (x10_3 + 1))) else (none)) else (none)) else (runnelref13_Components.l2 k3 (l0.length : Int) x4_1 x6_2 x7_2 x8_2 true (wrap64 (x10_3 + 1)))) else (none)) else (none)) else (none)) = some r := by rw [if_neg (show ¬ (false = true) by decide)] at H; exact H
                   clear H
                   have H := H1
                   clear H1
                   by_cases c28 : 0 ≤ x8_2
                   ·rw [if_pos c28] at H
                    have c28b0 : decide (0 ≤ x8_2) = true := decide_eq_true c28
                    clear c28
                    by_cases c29 : x8_2 < (x4_1.length : Int)
                    ·rw [if_pos c29] at H
                     have c29b0 : decide (x8_2 < (x4_1.length : Int)) = true := decide_eq_true c29
                     clear c29
                     by_cases c30 : x10_3 < ((rd_L3 x4_1 x8_2).length : Int)
                     ·rw [if_pos c30] at H
                      have c30b0 : decide (x10_3 < ((rd_L3 x4_1 x8_2).length : Int)) = true := decide_eq_true c30
                      clear c30
                      obtain ⟨bq31, hbq31⟩ : ∃ b_ : Bool, b_ = (rdOf false (rd_L3 x4_1 x8_2) x10_3) := ⟨_, rfl⟩
                      replace H : (if (bq31 = true) then (if x10_3 < (x4_1.length : Int) then (if x8_2 < ((rd_L3 x4_1 x10_3).length : Int) then (runnelref13_Components.l2 k3 (l0.length : Int) x4_1 x6_2 x7_2 x8_2 (rdOf false (rd_L3 x4_1 x10_3) x8_2) (wrap64 (x10_3 + 1))) else (none)) else (none)) else (runnelref13_Components.l2 k3 (l0.length : Int) x4_1 x6_2 x7_2 x8_2 true (wrap64 (x10_3 + 1)))) = some r := by rw [← hbq31] at H; exact H
                      have Nbq31 := Aside0.mk hbq31
                      clear hbq31
                      by_cases c32 : (bq31 = true)
                      ·subst c32
                       have H1 : (if x10_3 < (x4_1.length : Int) then (if x8_2 < ((rd_L3 x4_1 x10_3).length : Int) then (runnelref13_Components.l2 k3 (l0.length : Int) x4_1 x6_2 x7_2 x8_2 (rdOf false (rd_L3 x4_1 x10_3) x8_2) (wrap64 (x10_3 + 1))) else (none)) else (none)) = some r := by rw [if_pos rfl] at H; exact H
                       clear H
                       have H := H1
                       clear H1
                       by_cases c33 : x10_3 < (x4_1.length : Int)
                       ·rw [if_pos c33] at H
                        have c33b0 : decide (x10_3 < (x4_1.length : Int)) = true := decide_eq_true c33
                        clear c33
                        by_cases c34 : x8_2 < ((rd_L3 x4_1 x10_3).length : Int)
                        ·rw [if_pos c34] at H
                         have c34b0 : decide (x8_2 < ((rd_L3 x4_1 x10_3).length : Int)) = true := decide_eq_true c34
                         clear c34
                         have H' := Aside0.mk H
                         clear H
                         have p208 : 0 ≤ (x10_3 : Int) := of_decide_eq_true (by first | (with_reducible assumption) | assumption)
                         have q208 : x10_3 < (x6_2.length : Int) := of_decide_eq_true (by first | (with_reducible assumption) | assumption)
                         obtain ⟨ad208, e208, hx208_0⟩ := Kd.at_bool (Kd.R_reads' HO_6.out).2.2 x10_3 p208 q208
                         (try rw [← Nbq18.out] at hx208_0)
                         (try rw [← Nbq26.out] at hx208_0)
                         (try rw [← Nbq31.out] at hx208_0)
                         obtain rfl : ad207 = ad208 := (by injection e208)
                         replace p208 := eq_true p208
                         replace q208 := eq_true q208
                         obtain ⟨Ao35, co35, eo35⟩ := Kd.S_slice HO_4.out
                         subst eo35
                         have p209 : 0 ≤ (x8_2 : Int) := of_decide_eq_true (by first | (with_reducible assumption) | assumption)
                         have q209 : x8_2 < (x4_1.length : Int) := of_decide_eq_true (by first | (with_reducible assumption) | assumption)
                         obtain ⟨ad209, A209_0, c209_0, e209, hx209_0, hl209_0, hi209_0⟩ := at_L3 (Kd.S_reads' HO_4.out).2.2 x8_2 p209 q209
                         cases e209
                         obtain ⟨ce209, hce209, hMe209, hcc209⟩ := Kd.S_get HO_4.out [] x8_2 p209 (by first | exact q209 | exact of_decide_eq_true (by first | (with_reducible assumption) | assumption) | (have e_ := (Kd.S_reads' HO_4.out).1; omega))
                         obtain ⟨ve209_0, rfl, ge209_0⟩ := hMe209
                         have hv209_0 := hcc209 0 _ rfl
                         rw [Nat.add_zero, show ((Kd.slice 4 Kd.bool)).sz = 1 from rfl, Nat.mul_one] at hv209_0
                         replace hv209_0 := Option.some.inj (hv209_0.symm.trans hx209_0)
                         rw [hv209_0] at ge209_0
                         have HL209_0 := Aside0.mk (show Kd.R Kd.bool 4 _ _ _ _ (rd_L3 x4_1 x8_2) from ge209_0)
                         clear hv209_0 ge209_0
                         clear hcc209 hce209
                         have HR209_0 := Aside0.mk hi209_0
                         have HC209_0 := Aside0.mk hl209_0
                         clear hi209_0 hl209_0
                         replace p209 := eq_true p209
                         replace q209 := eq_true q209
                         have p210 : 0 ≤ (x10_3 : Int) := of_decide_eq_true (by first | (with_reducible assumption) | assumption)
                         have q210 : x10_3 < ((rd_L3 x4_1 x8_2).length : Int) := of_decide_eq_true (by first | (with_reducible assumption) | assumption)
                         obtain ⟨ad210, e210, hx210_0⟩ := Kd.at_bool (by repeat (first | (with_reducible exact HR209_0.out) | (with_reducible refine Kd.C_alloc ?_ _) | (with_reducible refine Kd.C_drewN ?_ _) | (with_reducible refine Kd.C_drew ?_) | exact HR209_0.out)) x10_3 p210 q210
                         (try rw [← Nbq18.out] at hx210_0)
                         (try rw [← Nbq26.out] at hx210_0)
                         (try rw [← Nbq31.out] at hx210_0)
                         cases e210
                         replace p210 := eq_true p210
                         replace q210 := eq_true q210
                         have p211 : 0 ≤ (x10_3 : Int) := of_decide_eq_true (by first | (with_reducible assumption) | assumption)
                         have q211 : x10_3 < (x4_1.length : Int) := of_decide_eq_true (by first | (with_reducible assumption) | assumption)
                         obtain ⟨ad211, A211_0, c211_0, e211, hx211_0, hl211_0, hi211_0⟩ := at_L3 (Kd.S_reads' HO_4.out).2.2 x10_3 p211 q211
                         obtain rfl : ad209 = ad211 := (by injection e211)
                         obtain ⟨ce211, hce211, hMe211, hcc211⟩ := Kd.S_get HO_4.out [] x10_3 p211 (by first | exact q211 | exact of_decide_eq_true (by first | (with_reducible assumption) | assumption) | (have e_ := (Kd.S_reads' HO_4.out).1; omega))
                         obtain ⟨ve211_0, rfl, ge211_0⟩ := hMe211
                         have hv211_0 := hcc211 0 _ rfl
                         rw [Nat.add_zero, show ((Kd.slice 4 Kd.bool)).sz = 1 from rfl, Nat.mul_one] at hv211_0
                         replace hv211_0 := Option.some.inj (hv211_0.symm.trans hx211_0)
                         rw [hv211_0] at ge211_0
                         have HL211_0 := Aside0.mk (show Kd.R Kd.bool 4 _ _ _ _ (rd_L3 x4_1 x10_3) from ge211_0)
                         clear hv211_0 ge211_0
                         clear hcc211 hce211
                         have HR211_0 := Aside0.mk hi211_0
                         have HC211_0 := Aside0.mk hl211_0
                         clear hi211_0 hl211_0
                         replace p211 := eq_true p211
                         replace q211 := eq_true q211
                         have p212 : 0 ≤ (x8_2 : Int) := of_decide_eq_true (by first | (with_reducible assumption) | assumption)
                         have q212 : x8_2 < ((rd_L3 x4_1 x10_3).length : Int) := of_decide_eq_true (by first | (with_reducible assumption) | assumption)
                         obtain ⟨ad212, e212, hx212_0⟩ := Kd.at_bool (by repeat (first | (with_reducible exact HR211_0.out) | (with_reducible refine Kd.C_alloc ?_ _) | (with_reducible refine Kd.C_drewN ?_ _) | (with_reducible refine Kd.C_drew ?_) | exact HR211_0.out)) x8_2 p212 q212
                         (try rw [← Nbq18.out] at hx212_0)
                         (try rw [← Nbq26.out] at hx212_0)
                         (try rw [← Nbq31.out] at hx212_0)
                         cases e212
                         replace p212 := eq_true p212
                         replace q212 := eq_true q212
                         go_wp2
                         go_roundg k3
                         case measure => have := HK1.out; have := HK2.out; have := HK3.out; omega
                         case rel => exact ⟨(rdOf false (rd_L3 x4_1 x10_3) x8_2), (wrap64 (x10_3 + 1)), (by first | rfl | (simp; done) | (simp [*]; done)), (by first | rfl | (simp; done) | (simp [*]; done)), H', ⟨by have := HK1.out; have := HK2.out; have := HK3.out; omega⟩, ⟨by (with_reducible repeat (first | apply Kd.S_alloc | apply Kd.S_drewN | apply Kd.S_drew)); exact HO_4.out⟩, ⟨by (with_reducible repeat (first | apply Kd.R_alloc | apply Kd.R_drewN | apply Kd.R_drew)); exact HO_6.out⟩, ⟨by (with_reducible repeat (first | apply Kd.S_alloc | apply Kd.S_drewN | apply Kd.S_drew)); exact HO_7.out⟩, ⟨by repeat (first | (with_reducible first | exact HB.out | apply below_alloc | apply pw_below_drewN | apply below_drew1) | exact HB.out)⟩⟩
                        ·rw [if_neg c34] at H
                         exact absurd H (by simp)
                       ·rw [if_neg c33] at H
                        exact absurd H (by simp)
                      ·replace c32 := Bool.eq_false_iff.mpr c32
                       subst c32
                       have H1 : (runnelref13_Components.l2 k3 (l0.length : Int) x4_1 x6_2 x7_2 x8_2 true (wrap64 (x10_3 + 1))) = some r := by rw [if_neg (show ¬ (false = true) by decide)] at H; exact H
                       clear H
                       have H := H1
                       clear H1
                       have H' := Aside0.mk H
                       clear H
                       have p208 : 0 ≤ (x10_3 : Int) := of_decide_eq_true (by first | (with_reducible assumption) | assumption)
                       have q208 : x10_3 < (x6_2.length : Int) := of_decide_eq_true (by first | (with_reducible assumption) | assumption)
                       obtain ⟨ad208, e208, hx208_0⟩ := Kd.at_bool (Kd.R_reads' HO_6.out).2.2 x10_3 p208 q208
                       (try rw [← Nbq18.out] at hx208_0)
                       (try rw [← Nbq26.out] at hx208_0)
                       (try rw [← Nbq31.out] at hx208_0)
                       obtain rfl : ad207 = ad208 := (by injection e208)
                       replace p208 := eq_true p208
                       replace q208 := eq_true q208
                       obtain ⟨Ao36, co36, eo36⟩ := Kd.S_slice HO_4.out
                       subst eo36
                       have p209 : 0 ≤ (x8_2 : Int) := of_decide_eq_true (by first | (with_reducible assumption) | assumption)
                       have q209 : x8_2 < (x4_1.length : Int) := of_decide_eq_true (by first | (with_reducible assumption) | assumption)
                       obtain ⟨ad209, A209_0, c209_0, e209, hx209_0, hl209_0, hi209_0⟩ := at_L3 (Kd.S_reads' HO_4.out).2.2 x8_2 p209 q209
                       cases e209
                       obtain ⟨ce209, hce209, hMe209, hcc209⟩ := Kd.S_get HO_4.out [] x8_2 p209 (by first | exact q209 | exact of_decide_eq_true (by first | (with_reducible assumption) | assumption) | (have e_ := (Kd.S_reads' HO_4.out).1; omega))
                       obtain ⟨ve209_0, rfl, ge209_0⟩ := hMe209
                       have hv209_0 := hcc209 0 _ rfl
                       rw [Nat.add_zero, show ((Kd.slice 4 Kd.bool)).sz = 1 from rfl, Nat.mul_one] at hv209_0
                       replace hv209_0 := Option.some.inj (hv209_0.symm.trans hx209_0)
                       rw [hv209_0] at ge209_0
                       have HL209_0 := Aside0.mk (show Kd.R Kd.bool 4 _ _ _ _ (rd_L3 x4_1 x8_2) from ge209_0)
                       clear hv209_0 ge209_0
                       clear hcc209 hce209
                       have HR209_0 := Aside0.mk hi209_0
                       have HC209_0 := Aside0.mk hl209_0
                       clear hi209_0 hl209_0
                       replace p209 := eq_true p209
                       replace q209 := eq_true q209
                       have p210 : 0 ≤ (x10_3 : Int) := of_decide_eq_true (by first | (with_reducible assumption) | assumption)
                       have q210 : x10_3 < ((rd_L3 x4_1 x8_2).length : Int) := of_decide_eq_true (by first | (with_reducible assumption) | assumption)
                       obtain ⟨ad210, e210, hx210_0⟩ := Kd.at_bool (by repeat (first | (with_reducible exact HR209_0.out) | (with_reducible refine Kd.C_alloc ?_ _) | (with_reducible refine Kd.C_drewN ?_ _) | (with_reducible refine Kd.C_drew ?_) | exact HR209_0.out)) x10_3 p210 q210
                       (try rw [← Nbq18.out] at hx210_0)
                       (try rw [← Nbq26.out] at hx210_0)
                       (try rw [← Nbq31.out] at hx210_0)
                       cases e210
                       replace p210 := eq_true p210
                       replace q210 := eq_true q210
                       go_wp2
                       go_roundg k3
                       case measure => have := HK1.out; have := HK2.out; have := HK3.out; omega
                       case rel => exact ⟨(true), (wrap64 (x10_3 + 1)), (by first | rfl | (simp; done) | (simp [*]; done)), (by first | rfl | (simp; done) | (simp [*]; done)), H', ⟨by have := HK1.out; have := HK2.out; have := HK3.out; omega⟩, ⟨by (with_reducible repeat (first | apply Kd.S_alloc | apply Kd.S_drewN | apply Kd.S_drew)); exact HO_4.out⟩, ⟨by (with_reducible repeat (first | apply Kd.R_alloc | apply Kd.R_drewN | apply Kd.R_drew)); exact HO_6.out⟩, ⟨by (with_reducible repeat (first | apply Kd.S_alloc | apply Kd.S_drewN | apply Kd.S_drew)); exact HO_7.out⟩, ⟨by repeat (first | (with_reducible first | exact HB.out | apply below_alloc | apply pw_below_drewN | apply below_drew1) | exact HB.out)⟩⟩
                     ·rw [if_neg c30] at H
                      exact absurd H (by simp)
                    ·rw [if_neg c29] at H
                     exact absurd H (by simp)
                   ·rw [if_neg c28] at H
                    exact absurd H (by simp)
                 ·rw [if_neg c25] at H
                  exact absurd H (by simp)
                ·rw [if_neg c24] at H
                 exact absurd H (by simp)
               ·replace c23 := Bool.eq_false_iff.mpr c23
                subst c23
                have H1 : (runnelref13_Components.l2 k3 (l0.length : Int) x4_1 x6_2 x7_2 x8_2 false (wrap64 (x10_3 + 1))) = some r := by rw [if_neg (show ¬ (false = true) by decide)] at H; exact H
                clear H
                have H := H1
                clear H1
                have H' := Aside0.mk H
                clear H
                go_wp2
                go_roundg k3
                case measure => have := HK1.out; have := HK2.out; have := HK3.out; omega
                case rel => exact ⟨(false), (wrap64 (x10_3 + 1)), (by first | rfl | (simp; done) | (simp [*]; done)), (by first | rfl | (simp; done) | (simp [*]; done)), H', ⟨by have := HK1.out; have := HK2.out; have := HK3.out; omega⟩, ⟨by (with_reducible repeat (first | apply Kd.S_alloc | apply Kd.S_drewN | apply Kd.S_drew)); exact HO_4.out⟩, ⟨by (with_reducible repeat (first | apply Kd.R_alloc | apply Kd.R_drewN | apply Kd.R_drew)); exact HO_6.out⟩, ⟨by (with_reducible repeat (first | apply Kd.S_alloc | apply Kd.S_drewN | apply Kd.S_drew)); exact HO_7.out⟩, ⟨by repeat (first | (with_reducible first | exact HB.out | apply below_alloc | apply pw_below_drewN | apply below_drew1) | exact HB.out)⟩⟩
              ·rw [if_neg c22] at H
               have c22b0 : decide (x10_3 < (l0.length : Int)) = false := decide_eq_false c22
               clear c22
               by_cases c37 : x9_3 = true
               ·subst c37
                have H1 : (runnelref13_Components.l3 k3 (l0.length : Int) x4_1 x6_2 x7_2 x8_2 ([] : List Int) 0) = some r := by rw [if_pos rfl] at H; exact H
                clear H
                have H := H1
                clear H1
                have H' := Aside0.mk H
                clear H
                go_wp2
                go_loopg [11, 12] k3 (fun kq v11 v12 w' => ∃ (x6_4 : List Bool) (x11_4 : List Int) (x12_4 : Int), v12 = .int .i64 x12_4 ∧ Aside0 (runnelref13_Components.l3 kq (l0.length : Int) x4_1 x6_4 x7_2 x8_2 x11_4 x12_4 = some r) ∧ Aside0 (kq ≤ k3) ∧ Aside0 (Kd.S (Kd.slice 4 Kd.bool) 85 w' w.heap.size (fun k_ => some k_ ≠ ((.slice (some ad207) x6_2.length co21) : Value).ownBlock) u4 x4_1) ∧ Aside0 (Kd.R Kd.bool 4 w' w.heap.size (fun _ => True) (.slice (some ad207) x6_2.length co21) x6_4) ∧ Aside0 (Kd.S (Kd.slice 3 (Kd.int .i64)) 53 w' w.heap.size (fun k_ => some k_ ≠ (v11 : Value).ownBlock) u7 x7_2) ∧ Aside0 (Kd.R (Kd.int .i64) 3 w' w.heap.size (fun _ => True) v11 x11_4) ∧ Aside0 (Below w.heap.size w w'))
                case atStart => exact ⟨(x6_2), (([] : List Int)), (0), (by first | rfl | (simp; done) | (simp [*]; done)), H', ⟨Nat.le_refl _⟩, ⟨by (with_reducible repeat (first | apply Kd.S_alloc | apply Kd.S_drewN | apply Kd.S_drew)); exact HO_4.out⟩, ⟨by (with_reducible repeat (first | apply Kd.R_alloc | apply Kd.R_drewN | apply Kd.R_drew)); exact HO_6.out⟩, ⟨by (with_reducible repeat (first | apply Kd.S_alloc | apply Kd.S_drewN | apply Kd.S_drew)); exact Kd.S_mono HO_7.out (fun _ hk => (by simp [Value.ownBlock]))⟩, ⟨by first | exact Kd.R_nil _ _ _ _ _ | exact Kd.N_nil _ _ _ _ _ | exact Kd.V_nil _ _ _ _ _ | exact Kd.Q_nil _ _ _ _ _ | exact Kd.S_nil _ _ _ _ _⟩, ⟨by repeat (first | (with_reducible first | exact HB.out | apply below_alloc | apply pw_below_drewN | apply below_drew1) | exact HB.out)⟩⟩
                case round =>
                 clear H'
                 try clear c1
                 try clear q1
                 try clear c2
                 try clear c2b0
                 try clear p2
                 try clear q2
                 try clear hx2
                 try clear c3
                 try clear q3
                 try clear c4
                 try clear p6
                 try clear c7
                 try clear c11
                 try clear c11b0
                 try clear c11b1
                 try clear c12
                 try clear c12b0
                 try clear c12b1
                 try clear c15
                 try clear c15b0
                 try clear c16
                 try clear c16b0
                 try clear c17
                 try clear c17b0
                 try clear q18
                 try clear c19
                 try clear c20
                 try clear p20
                 try clear q20
                 try clear hx20
                 try clear c21
                 try clear p21
                 try clear q21
                 try clear hx21
                 try clear c22
                 try clear c22b0
                 try clear c23
                 try clear c24
                 try clear c24b0
                 try clear c25
                 try clear c25b0
                 try clear q26
                 try clear c27
                 try clear c28
                 try clear c28b0
                 try clear c29
                 try clear c29b0
                 try clear c30
                 try clear c30b0
                 try clear q31
                 try clear c32
                 try clear c33
                 try clear c33b0
                 try clear c34
                 try clear c34b0
                 try clear c37
                 try clear hx207_0
                 try clear hx208_0
                 try clear hx209_0
                 try clear hx210_0
                 try clear hx211_0
                 try clear hx212_0
                 try clear p2
                 try clear p20
                 try clear p207
                 try clear p208
                 try clear p209
                 try clear p210
                 try clear p211
                 try clear p212
                 try clear p6
                 try clear q1
                 try clear q18
                 try clear q2
                 try clear q20
                 try clear q207
                 try clear q208
                 try clear q209
                 try clear q210
                 try clear q211
                 try clear q212
                 obtain ⟨x6_4, x11_4, x12_4, rfl, HA, HK4, HO_4, HO_6, HO_7, HO_11, HB⟩ := hrel
                 have hl6_4 := (Kd.R_reads' HO_6.out).1
                 rw [hl6_4] at HO_6
                 (try simp only [hl6_4])
                 (try simp only [hl6_4] at HO_4)
                 (try simp only [hl6_4] at HO_7)
                 (try simp only [hl6_4] at HO_11)
                 cases gk with
                 | zero => exact absurd HA.out (by simp [runnelref13_Components.l3])
                 | succ k4 =>
                  have H := HA.out
                  clear HA
                  simp only [runnelref13_Components.l3] at H
                  by_cases c38 : x12_4 < (l0.length : Int)
                  ·rw [if_pos c38] at H
                   have c38b0 : decide (x12_4 < (l0.length : Int)) = true := decide_eq_true c38
                   clear c38
                   have HC39 := Aside0.mk H
                   clear H
                   go_upto_region 23 with (fail)
                   go_cut [91] (fun v91 wc => ∃ (kq : Nat) (x91_38 : Bool), v91 = .bool x91_38 ∧ Aside0 (runnelref13_Components.j4 kq (l0.length : Int) x4_1 x6_4 x7_2 x8_2 x11_4 x12_4 x91_38 = some r) ∧ Aside0 (kq ≤ k4) ∧ Aside0 (Kd.S (Kd.slice 4 Kd.bool) 85 wc w.heap.size (fun k_ => some k_ ≠ ((.slice (some ad207) x6_4.length co21) : Value).ownBlock) u4 x4_1) ∧ Aside0 (Kd.R Kd.bool 4 wc w.heap.size (fun _ => True) (.slice (some ad207) x6_4.length co21) x6_4) ∧ Aside0 (Kd.S (Kd.slice 3 (Kd.int .i64)) 53 wc w.heap.size (fun k_ => some k_ ≠ (u11 : Value).ownBlock) u7 x7_2) ∧ Aside0 (Kd.R (Kd.int .i64) 3 wc w.heap.size (fun _ => True) u11 x11_4) ∧ Aside0 (Below w.heap.size w wc))
                   case first =>
                    have H := HC39.out
                    clear HC39
                    by_cases c40 : 0 ≤ x8_2
                    ·rw [if_pos c40] at H
                     have c40b0 : decide (0 ≤ x8_2) = true := decide_eq_true c40
                     clear c40
                     (first | rw [c40b0] | (simp only [i64_w, i32_w]; rw [c40b0]) | skip)
                     by_cases c41 : x8_2 < (x4_1.length : Int)
                     ·rw [if_pos c41] at H
                      have c41b0 : decide (x8_2 < (x4_1.length : Int)) = true := decide_eq_true c41
                      clear c41
                      by_cases c42 : 0 ≤ x12_4
                      ·rw [if_pos c42] at H
                       have c42b0 : decide (0 ≤ x12_4) = true := decide_eq_true c42
                       clear c42
                       by_cases c43 : x12_4 < ((rd_L3 x4_1 x8_2).length : Int)
                       ·rw [if_pos c43] at H
                        have c43b0 : decide (x12_4 < ((rd_L3 x4_1 x8_2).length : Int)) = true := decide_eq_true c43
                        clear c43
                        obtain ⟨bq44, hbq44⟩ : ∃ b_ : Bool, b_ = (rdOf false (rd_L3 x4_1 x8_2) x12_4) := ⟨_, rfl⟩
                        replace H : (if bq44 = true then (if x12_4 < (x4_1.length : Int) then (if x8_2 < ((rd_L3 x4_1 x12_4).length : Int) then (runnelref13_Components.j4 k4 (l0.length : Int) x4_1 x6_4 x7_2 x8_2 x11_4 x12_4 (rdOf false (rd_L3 x4_1 x12_4) x8_2)) else (none)) else (none)) else (runnelref13_Components.j4 k4 (l0.length : Int) x4_1 x6_4 x7_2 x8_2 x11_4 x12_4 false)) = some r := by rw [← hbq44] at H; exact H
                        have Nbq44 := Aside0.mk hbq44
                        clear hbq44
                        by_cases c45 : bq44 = true
                        ·subst c45
                         have H1 : (if x12_4 < (x4_1.length : Int) then (if x8_2 < ((rd_L3 x4_1 x12_4).length : Int) then (runnelref13_Components.j4 k4 (l0.length : Int) x4_1 x6_4 x7_2 x8_2 x11_4 x12_4 (rdOf false (rd_L3 x4_1 x12_4) x8_2)) else (none)) else (none)) = some r := by rw [if_pos rfl] at H; exact H
                         clear H
                         have H := H1
                         clear H1
                         by_cases c46 : x12_4 < (x4_1.length : Int)
                         ·rw [if_pos c46] at H
                          have c46b0 : decide (x12_4 < (x4_1.length : Int)) = true := decide_eq_true c46
                          clear c46
                          by_cases c47 : x8_2 < ((rd_L3 x4_1 x12_4).length : Int)
                          ·rw [if_pos c47] at H
                           have c47b0 : decide (x8_2 < ((rd_L3 x4_1 x12_4).length : Int)) = true := decide_eq_true c47
                           clear c47
                           have H' := Aside0.mk H
                           clear H
                           obtain ⟨Ao48, co48, eo48⟩ := Kd.S_slice HO_4.out
                           subst eo48
                           have p216 : 0 ≤ (x8_2 : Int) := of_decide_eq_true (by first | (with_reducible assumption) | assumption)
                           have q216 : x8_2 < (x4_1.length : Int) := of_decide_eq_true (by first | (with_reducible assumption) | assumption)
                           obtain ⟨ad216, A216_0, c216_0, e216, hx216_0, hl216_0, hi216_0⟩ := at_L3 (Kd.S_reads' HO_4.out).2.2 x8_2 p216 q216
                           cases e216
                           obtain ⟨ce216, hce216, hMe216, hcc216⟩ := Kd.S_get HO_4.out [] x8_2 p216 (by first | exact q216 | exact of_decide_eq_true (by first | (with_reducible assumption) | assumption) | (have e_ := (Kd.S_reads' HO_4.out).1; omega))
                           obtain ⟨ve216_0, rfl, ge216_0⟩ := hMe216
                           have hv216_0 := hcc216 0 _ rfl
                           rw [Nat.add_zero, show ((Kd.slice 4 Kd.bool)).sz = 1 from rfl, Nat.mul_one] at hv216_0
                           replace hv216_0 := Option.some.inj (hv216_0.symm.trans hx216_0)
                           rw [hv216_0] at ge216_0
                           have HL216_0 := Aside0.mk (show Kd.R Kd.bool 4 _ _ _ _ (rd_L3 x4_1 x8_2) from ge216_0)
                           clear hv216_0 ge216_0
                           clear hcc216 hce216
                           have HR216_0 := Aside0.mk hi216_0
                           have HC216_0 := Aside0.mk hl216_0
                           clear hi216_0 hl216_0
                           replace p216 := eq_true p216
                           replace q216 := eq_true q216
                           have p217 : 0 ≤ (x12_4 : Int) := of_decide_eq_true (by first | (with_reducible assumption) | assumption)
                           have q217 : x12_4 < ((rd_L3 x4_1 x8_2).length : Int) := of_decide_eq_true (by first | (with_reducible assumption) | assumption)
                           obtain ⟨ad217, e217, hx217_0⟩ := Kd.at_bool (by repeat (first | (with_reducible exact HR216_0.out) | (with_reducible refine Kd.C_alloc ?_ _) | (with_reducible refine Kd.C_drewN ?_ _) | (with_reducible refine Kd.C_drew ?_) | exact HR216_0.out)) x12_4 p217 q217
                           (try rw [← Nbq18.out] at hx217_0)
                           (try rw [← Nbq44.out] at hx217_0)
                           cases e217
                           replace p217 := eq_true p217
                           replace q217 := eq_true q217
                           have p218 : 0 ≤ (x12_4 : Int) := of_decide_eq_true (by first | (with_reducible assumption) | assumption)
                           have q218 : x12_4 < (x4_1.length : Int) := of_decide_eq_true (by first | (with_reducible assumption) | assumption)
                           obtain ⟨ad218, A218_0, c218_0, e218, hx218_0, hl218_0, hi218_0⟩ := at_L3 (Kd.S_reads' HO_4.out).2.2 x12_4 p218 q218
                           obtain rfl : ad216 = ad218 := (by injection e218)
                           obtain ⟨ce218, hce218, hMe218, hcc218⟩ := Kd.S_get HO_4.out [] x12_4 p218 (by first | exact q218 | exact of_decide_eq_true (by first | (with_reducible assumption) | assumption) | (have e_ := (Kd.S_reads' HO_4.out).1; omega))
                           obtain ⟨ve218_0, rfl, ge218_0⟩ := hMe218
                           have hv218_0 := hcc218 0 _ rfl
                           rw [Nat.add_zero, show ((Kd.slice 4 Kd.bool)).sz = 1 from rfl, Nat.mul_one] at hv218_0
                           replace hv218_0 := Option.some.inj (hv218_0.symm.trans hx218_0)
                           rw [hv218_0] at ge218_0
                           have HL218_0 := Aside0.mk (show Kd.R Kd.bool 4 _ _ _ _ (rd_L3 x4_1 x12_4) from ge218_0)
                           clear hv218_0 ge218_0
                           clear hcc218 hce218
                           have HR218_0 := Aside0.mk hi218_0
                           have HC218_0 := Aside0.mk hl218_0
                           clear hi218_0 hl218_0
                           replace p218 := eq_true p218
                           replace q218 := eq_true q218
                           have p219 : 0 ≤ (x8_2 : Int) := of_decide_eq_true (by first | (with_reducible assumption) | assumption)
                           have q219 : x8_2 < ((rd_L3 x4_1 x12_4).length : Int) := of_decide_eq_true (by first | (with_reducible assumption) | assumption)
                           obtain ⟨ad219, e219, hx219_0⟩ := Kd.at_bool (by repeat (first | (with_reducible exact HR218_0.out) | (with_reducible refine Kd.C_alloc ?_ _) | (with_reducible refine Kd.C_drewN ?_ _) | (with_reducible refine Kd.C_drew ?_) | exact HR218_0.out)) x8_2 p219 q219
                           (try rw [← Nbq18.out] at hx219_0)
                           (try rw [← Nbq44.out] at hx219_0)
                           cases e219
                           replace p219 := eq_true p219
                           replace q219 := eq_true q219
                           go_wp2
                           go_meet
                           case rel => exact ⟨_, (rdOf false (rd_L3 x4_1 x12_4) x8_2), (by first | rfl | (simp; done) | (simp [*]; done)), H', ⟨by have := HK1.out; have := HK2.out; have := HK3.out; have := HK4.out; first | omega | exact Nat.le_refl _⟩, ⟨by (try simp only [hl6_4]); (with_reducible repeat (first | apply Kd.S_alloc | apply Kd.S_drewN | apply Kd.S_drew)); exact HO_4.out⟩, ⟨by (try simp only [hl6_4]); (with_reducible repeat (first | apply Kd.R_alloc | apply Kd.R_drewN | apply Kd.R_drew)); exact HO_6.out⟩, ⟨by (try simp only [hl6_4]); (with_reducible repeat (first | apply Kd.S_alloc | apply Kd.S_drewN | apply Kd.S_drew)); exact HO_7.out⟩, ⟨by (try simp only [hl6_4]); (with_reducible repeat (first | apply Kd.R_alloc | apply Kd.R_drewN | apply Kd.R_drew)); exact HO_11.out⟩, ⟨by repeat (first | (with_reducible first | exact HB.out | apply below_alloc | apply pw_below_drewN | apply below_drew1) | exact HB.out)⟩⟩
                          ·rw [if_neg c47] at H
                           exact absurd H (by simp)
                         ·rw [if_neg c46] at H
                          exact absurd H (by simp)
                        ·replace c45 := Bool.eq_false_iff.mpr c45
                         subst c45
                         have H1 : (runnelref13_Components.j4 k4 (l0.length : Int) x4_1 x6_4 x7_2 x8_2 x11_4 x12_4 false) = some r := by rw [if_neg (show ¬ (false = true) by decide)] at H; exact H
                         clear H
                         have H := H1
                         clear H1
                         have H' := Aside0.mk H
                         clear H
                         obtain ⟨Ao49, co49, eo49⟩ := Kd.S_slice HO_4.out
                         subst eo49
                         have p216 : 0 ≤ (x8_2 : Int) := of_decide_eq_true (by first | (with_reducible assumption) | assumption)
                         have q216 : x8_2 < (x4_1.length : Int) := of_decide_eq_true (by first | (with_reducible assumption) | assumption)
                         obtain ⟨ad216, A216_0, c216_0, e216, hx216_0, hl216_0, hi216_0⟩ := at_L3 (Kd.S_reads' HO_4.out).2.2 x8_2 p216 q216
                         cases e216
                         obtain ⟨ce216, hce216, hMe216, hcc216⟩ := Kd.S_get HO_4.out [] x8_2 p216 (by first | exact q216 | exact of_decide_eq_true (by first | (with_reducible assumption) | assumption) | (have e_ := (Kd.S_reads' HO_4.out).1; omega))
                         obtain ⟨ve216_0, rfl, ge216_0⟩ := hMe216
                         have hv216_0 := hcc216 0 _ rfl
                         rw [Nat.add_zero, show ((Kd.slice 4 Kd.bool)).sz = 1 from rfl, Nat.mul_one] at hv216_0
                         replace hv216_0 := Option.some.inj (hv216_0.symm.trans hx216_0)
                         rw [hv216_0] at ge216_0
                         have HL216_0 := Aside0.mk (show Kd.R Kd.bool 4 _ _ _ _ (rd_L3 x4_1 x8_2) from ge216_0)
                         clear hv216_0 ge216_0
                         clear hcc216 hce216
                         have HR216_0 := Aside0.mk hi216_0
                         have HC216_0 := Aside0.mk hl216_0
                         clear hi216_0 hl216_0
                         replace p216 := eq_true p216
                         replace q216 := eq_true q216
                         have p217 : 0 ≤ (x12_4 : Int) := of_decide_eq_true (by first | (with_reducible assumption) | assumption)
                         have q217 : x12_4 < ((rd_L3 x4_1 x8_2).length : Int) := of_decide_eq_true (by first | (with_reducible assumption) | assumption)
                         obtain ⟨ad217, e217, hx217_0⟩ := Kd.at_bool (by repeat (first | (with_reducible exact HR216_0.out) | (with_reducible refine Kd.C_alloc ?_ _) | (with_reducible refine Kd.C_drewN ?_ _) | (with_reducible refine Kd.C_drew ?_) | exact HR216_0.out)) x12_4 p217 q217
                         (try rw [← Nbq18.out] at hx217_0)
                         (try rw [← Nbq44.out] at hx217_0)
                         cases e217
                         replace p217 := eq_true p217
                         replace q217 := eq_true q217
                         go_wp2
                         go_meet
                         case rel => exact ⟨_, (false), (by first | rfl | (simp; done) | (simp [*]; done)), H', ⟨by have := HK1.out; have := HK2.out; have := HK3.out; have := HK4.out; first | omega | exact Nat.le_refl _⟩, ⟨by (try simp only [hl6_4]); (with_reducible repeat (first | apply Kd.S_alloc | apply Kd.S_drewN | apply Kd.S_drew)); exact HO_4.out⟩, ⟨by (try simp only [hl6_4]); (with_reducible repeat (first | apply Kd.R_alloc | apply Kd.R_drewN | apply Kd.R_drew)); exact HO_6.out⟩, ⟨by (try simp only [hl6_4]); (with_reducible repeat (first | apply Kd.S_alloc | apply Kd.S_drewN | apply Kd.S_drew)); exact HO_7.out⟩, ⟨by (try simp only [hl6_4]); (with_reducible repeat (first | apply Kd.R_alloc | apply Kd.R_drewN | apply Kd.R_drew)); exact HO_11.out⟩, ⟨by repeat (first | (with_reducible first | exact HB.out | apply below_alloc | apply pw_below_drewN | apply below_drew1) | exact HB.out)⟩⟩
                       ·rw [if_neg c43] at H
                        exact absurd H (by simp)
                      ·rw [if_neg c42] at H
                       exact absurd H (by simp)
                     ·rw [if_neg c41] at H
                      exact absurd H (by simp)
                    ·rw [if_neg c40] at H
                     exact absurd H (by simp)
                   case rest =>
                    clear HC39
                    try clear c1
                    try clear q1
                    try clear c2
                    try clear c2b0
                    try clear p2
                    try clear q2
                    try clear hx2
                    try clear c3
                    try clear q3
                    try clear c4
                    try clear q4
                    try clear p6
                    try clear c7
                    try clear c11
                    try clear c11b0
                    try clear c11b1
                    try clear c12
                    try clear c12b0
                    try clear c12b1
                    try clear c15
                    try clear c15b0
                    try clear c16
                    try clear c16b0
                    try clear c17
                    try clear c17b0
                    try clear q18
                    try clear c19
                    try clear c20
                    try clear p20
                    try clear q20
                    try clear hx20
                    try clear c21
                    try clear p21
                    try clear q21
                    try clear hx21
                    try clear c22
                    try clear c22b0
                    try clear c23
                    try clear c24
                    try clear c24b0
                    try clear c25
                    try clear c25b0
                    try clear q26
                    try clear c27
                    try clear c28
                    try clear c28b0
                    try clear c29
                    try clear c29b0
                    try clear c30
                    try clear c30b0
                    try clear q31
                    try clear c32
                    try clear c33
                    try clear c33b0
                    try clear c34
                    try clear c34b0
                    try clear c37
                    try clear c38
                    try clear c38b0
                    try clear c40
                    try clear c40b0
                    try clear c41
                    try clear c41b0
                    try clear c42
                    try clear c42b0
                    try clear c43
                    try clear c43b0
                    try clear q44
                    try clear c45
                    try clear c46
                    try clear c46b0
                    try clear c47
                    try clear c47b0
                    try clear hx207_0
                    try clear hx208_0
                    try clear hx209_0
                    try clear hx210_0
                    try clear hx211_0
                    try clear hx212_0
                    try clear hx216_0
                    try clear hx217_0
                    try clear hx218_0
                    try clear hx219_0
                    try clear p2
                    try clear p20
                    try clear p207
                    try clear p208
                    try clear p209
                    try clear p21
                    try clear p210
                    try clear p211
                    try clear p212
                    try clear p216
                    try clear p217
                    try clear p218
                    try clear p219
                    try clear p6
                    try clear q1
                    try clear q18
                    try clear q2
                    try clear q20
                    try clear q207
                    try clear q208
                    try clear q209
                    try clear q21
                    try clear q210
                    try clear q211
                    try clear q212
                    try clear q216
                    try clear q217
                    try clear q218
                    try clear q219
                    try clear q26
                    try clear q3
                    try clear q31
                    obtain ⟨kq, x91_38, rfl, HA, HJ38, HO_4, HO_6, HO_7, HO_11, HB⟩ := hcut
                    cases kq with
                    | zero => exact absurd HA.out (by simp [runnelref13_Components.j4])
                    | succ kj38 =>
                     have H := HA.out
                     clear HA
                     simp only [runnelref13_Components.j4] at H
                     by_cases c50 : x91_38 = true
                     ·subst c50
                      have H1 : (if x11_4.length < 17592186044416 then (if 0 ≤ x12_4 then (if x12_4 < (x6_4.length : Int) then (runnelref13_Components.l3 kj38 (l0.length : Int) x4_1 (x6_4.set (x12_4 : Int).toNat true) x7_2 x8_2 (x11_4 ++ [x12_4]) (wrap64 (x12_4 + 1))) else (none)) else (none)) else (none)) = some r := by rw [if_pos rfl] at H; exact H
                      clear H
                      have H := H1
                      clear H1
                      by_cases c51 : x11_4.length < 17592186044416
                      ·rw [if_pos c51] at H
                       have LMc51 := Aside0.mk c51
                       clear c51
                       obtain ⟨y220, hy220⟩ : ∃ y_ : List Int, y_ = (x11_4 ++ [x12_4]) := ⟨_, rfl⟩
                       replace H : (if 0 ≤ x12_4 then (if x12_4 < (x6_4.length : Int) then (runnelref13_Components.l3 kj38 (l0.length : Int) x4_1 (x6_4.set (x12_4 : Int).toNat true) x7_2 x8_2 y220 (wrap64 (x12_4 + 1))) else (none)) else (none)) = some r := by first | (rw [hy220]; with_reducible exact H) | (have H2_ := (Option.bind_some _ _).symm.trans H; rw [hy220]; with_reducible exact H2_) | (have H2_ := (Option.bind_some _ _).symm.trans H; with_reducible exact H2_) | with_reducible exact H | (rw [hy220]; exact H) | exact H
                       have Ny220 := Aside0.mk hy220
                       clear hy220
                       by_cases c52 : 0 ≤ x12_4
                       ·rw [if_pos c52] at H
                        have c52b0 : decide (0 ≤ x12_4) = true := decide_eq_true c52
                        clear c52
                        by_cases c53 : x12_4 < (x6_4.length : Int)
                        ·rw [if_pos c53] at H
                         have c53b0 : decide (x12_4 < (x6_4.length : Int)) = true := decide_eq_true c53
                         clear c53
                         obtain ⟨y223, hy223⟩ : ∃ y_ : List Bool, y_ = (x6_4.set (x12_4 : Int).toNat true) := ⟨_, rfl⟩
                         replace H : (runnelref13_Components.l3 kj38 (l0.length : Int) x4_1 y223 x7_2 x8_2 y220 (wrap64 (x12_4 + 1))) = some r := by first | (rw [hy223]; with_reducible exact H) | (have H2_ := (Option.bind_some _ _).symm.trans H; rw [hy223]; with_reducible exact H2_) | (have H2_ := (Option.bind_some _ _).symm.trans H; with_reducible exact H2_) | with_reducible exact H | (rw [hy223]; exact H) | exact H
                         have Ny223 := Aside0.mk hy223
                         clear hy223
                         have H' := Aside0.mk H
                         clear H
                         go_wp2_with (first | ((with_reducible refine gate_builtin (b := .append) (xs := #[.tmp 92, .tmp 94]) rfl ?_); at_builtin; refine Kd.R_append (Kd.int .i64) (w0 := w) w.heap.size rfl (.tmp 92) (.tmp 94) 53 3 (.int .i64 0) 8 rfl Try.underlying53 info3 rfl (by decide) (by omega) u11 x11_4 x12_4 [.int .i64 x12_4] (fun _ => True) (fun _ => False) rfl rfl ?aP (fun _ hk => hk.elim) ?aF ?aO ?aB ?aS ?aL ?_; (case aP => exact rfl); (case aB => exact (by repeat (first | (with_reducible first | exact HB.out | apply below_alloc | apply pw_below_drewN | apply below_drew1) | exact HB.out))); (case aF => exact (fun _ _ => trivial)); (case aO => exact (by (with_reducible repeat (first | apply Kd.R_alloc | apply Kd.R_drewN | apply Kd.R_drew)); exact HO_11.out)); (case aS => exact (below_size (by repeat (first | (with_reducible first | exact HB.out | apply below_alloc | apply pw_below_drewN | apply below_drew1) | exact HB.out)))); (case aL => have := LMc51.out; omega); intro v221 w55 ho hb hg hat; rw [← Ny220.out] at ho; have n0_ := Aside0.mk (Kd.S_over' (by (with_reducible repeat (first | apply Kd.S_alloc | apply Kd.S_drewN | apply Kd.S_drew)); exact HO_4.out) (Kd.R_typed (by (with_reducible repeat (first | apply Kd.R_alloc | apply Kd.R_drewN | apply Kd.R_drew)); exact HO_11.out)) (by decide) hg); have n1_ := Aside0.mk (Kd.R_over' (by (with_reducible repeat (first | apply Kd.R_alloc | apply Kd.R_drewN | apply Kd.R_drew)); exact HO_6.out) (Kd.R_typed (by (with_reducible repeat (first | apply Kd.R_alloc | apply Kd.R_drewN | apply Kd.R_drew)); exact HO_11.out)) (by decide) hg); have n2_ := Aside0.mk (Kd.S_after (ok := (fun _ => True)) (by (with_reducible repeat (first | apply Kd.S_alloc | apply Kd.S_drewN | apply Kd.S_drew)); exact Kd.S_mono HO_7.out (fun _ hk => ⟨trivial, hk⟩)) hg hat); have n3_ := Aside0.mk (hb); have n4_ := Aside0.mk (ho); clear HO_4; clear HO_6; clear HO_7; clear HB; clear HO_11; have HO_4 := n0_; have HO_6 := n1_; have HO_7 := n2_; have HB := n3_; have HO222 := n4_; clear n0_ n1_ n2_ n3_ n4_; clear ho hb hg hat; have p54 : 0 ≤ (x12_4 : Int) := of_decide_eq_true (by first | (with_reducible assumption) | assumption); have q54 : (x12_4 : Int) < ((x6_4.length : Int) : Int) := of_decide_eq_true (by first | (with_reducible assumption) | assumption); obtain ⟨go54, co54, eo54, gb54, gl54, cl54, HG54⟩ := Kd.R_form HO_6.out (by omega); (first | cases eo54 | (injection eo54 with ea_ en_ ec_; (first | subst ea_ | (injection ea_ with ea_; subst ea_)); subst ec_; clear en_)); have GB54 := Aside0.mk gb54; have GG54 := Aside0.mk HG54; clear gb54 gl54 HG54; (first | simp only [add_plain] at hx207_0 | skip); (first | simp only [add_plain] at hx208_0 | skip); obtain ⟨hx54_0, hf54_0⟩ := Kd.R_celln false HO_6.out (x12_4 : Int) p54 q54; replace p54 := eq_true p54; replace q54 := eq_true q54; obtain ⟨hy56_, hz56_⟩ := Kd.R_celln false HO_6.out (x12_4 : Int) (of_decide_eq_true (by first | (with_reducible assumption) | assumption)) (of_decide_eq_true (by first | (with_reducible assumption) | assumption)); have HP56 := Kd.R_putg HO_6.out (x12_4 : Int) true) | ((with_reducible refine gate_store (t := 4) (p := 98) rfl ?_); refine store_event (t := 4) (p := 98) (v := ?vo_w57) (w1 := (w55.setCell ⟨go54, (x12_4 : Int).toNat, none⟩ (.bool true))) ?hg ?ho ?hn ?hr ?_; (case ho => rfl); (case hg => rfl); (case hn => rfl); (case hr => first | (go_simp; done) | (go_simp; rfl)); intro w57 hw; have hg : w55.grownBy w57 (some go54) := (by rw [hw]; exact HP56.2); have hp_ : Kd.R Kd.bool 4 w57 w.heap.size (fun _ => True) (.slice (some ⟨go54, 0, none⟩) x6_4.length co21) y223 := (by rw [hw, Ny223.out]; exact HP56.1); clear HP56; have n0_ := Aside0.mk (Kd.S_after (v := (.slice (some ⟨go54, 0, none⟩) x6_4.length co21)) (v1 := (.slice (some ⟨go54, 0, none⟩) x6_4.length co21)) (ok := (fun _ => True)) (by (with_reducible repeat (first | apply Kd.S_alloc | apply Kd.S_drewN | apply Kd.S_drew)); exact Kd.S_mono HO_4.out (fun _ hk => ⟨trivial, hk⟩)) hg (.inl rfl)); have n1_ := Aside0.mk (hp_); have n2_ := Aside0.mk (Kd.S_over' (v := (.slice (some ⟨go54, 0, none⟩) x6_4.length co21)) (by (with_reducible repeat (first | apply Kd.S_alloc | apply Kd.S_drewN | apply Kd.S_drew)); exact HO_7.out) (Kd.R_typed HO_6.out) (by decide) hg); have n3_ := Aside0.mk (Kd.R_over' (v := (.slice (some ⟨go54, 0, none⟩) x6_4.length co21)) (by (with_reducible repeat (first | apply Kd.R_alloc | apply Kd.R_drewN | apply Kd.R_drew)); exact HO222.out) (Kd.R_typed HO_6.out) (by decide) hg); have n4_ := Aside0.mk ((by rw [hw]; exact below_set (HB.out) GB54.out : Below w.heap.size w w57)); clear HO_4; clear HO_6; clear HO_7; clear HO222; clear HB; have HO_4 := n0_; have HO_6 := n1_; have HO_7 := n2_; have HO222 := n3_; have HB := n4_; clear n0_ n1_ n2_ n3_ n4_; clear hg hw hp_))
                         (try simp only [← hl6_4])
                         (try rw [← add_plain go54 x8_2.toNat])
                         go_roundg kj38
                         case measure => have := HK1.out; have := HK2.out; have := HK3.out; have := HK4.out; have := HJ38.out; omega
                         case rel => exact ⟨(y223), (y220), (wrap64 (x12_4 + 1)), (by first | rfl | (simp; done) | (simp [*]; done)), H', ⟨by have := HK1.out; have := HK2.out; have := HK3.out; have := HK4.out; have := HJ38.out; omega⟩, ⟨by (try simp only [hl6_4]); (with_reducible repeat (first | apply Kd.S_alloc | apply Kd.S_drewN | apply Kd.S_drew)); exact Kd.S_mono HO_4.out (fun _ hk => hk.2)⟩, ⟨by (try simp only [hl6_4]); (with_reducible repeat (first | apply Kd.R_alloc | apply Kd.R_drewN | apply Kd.R_drew)); exact HO_6.out⟩, ⟨by (try simp only [hl6_4]); (with_reducible repeat (first | apply Kd.S_alloc | apply Kd.S_drewN | apply Kd.S_drew)); exact Kd.S_mono HO_7.out (fun _ hk => hk.2)⟩, ⟨by (try simp only [hl6_4]); (with_reducible repeat (first | apply Kd.R_alloc | apply Kd.R_drewN | apply Kd.R_drew)); exact HO222.out⟩, ⟨by repeat (first | (with_reducible first | exact HB.out | apply below_alloc | apply pw_below_drewN | apply below_drew1) | exact HB.out)⟩⟩
                        ·rw [if_neg c53] at H
                         exact absurd H (by simp)
                       ·rw [if_neg c52] at H
                        exact absurd H (by simp)
                      ·rw [if_neg c51] at H
                       exact absurd H (by simp)
                     ·replace c50 := Bool.eq_false_iff.mpr c50
                      subst c50
                      have H1 : (runnelref13_Components.l3 kj38 (l0.length : Int) x4_1 x6_4 x7_2 x8_2 x11_4 (wrap64 (x12_4 + 1))) = some r := by rw [if_neg (show ¬ (false = true) by decide)] at H; exact H
                      clear H
                      have H := H1
                      clear H1
                      have H' := Aside0.mk H
                      clear H
                      go_wp2
                      (try simp only [← hl6_4])
                      go_roundg kj38
                      case measure => have := HK1.out; have := HK2.out; have := HK3.out; have := HK4.out; have := HJ38.out; omega
                      case rel => exact ⟨(x6_4), (x11_4), (wrap64 (x12_4 + 1)), (by first | rfl | (simp; done) | (simp [*]; done)), H', ⟨by have := HK1.out; have := HK2.out; have := HK3.out; have := HK4.out; have := HJ38.out; omega⟩, ⟨by (try simp only [hl6_4]); (with_reducible repeat (first | apply Kd.S_alloc | apply Kd.S_drewN | apply Kd.S_drew)); exact HO_4.out⟩, ⟨by (try simp only [hl6_4]); (with_reducible repeat (first | apply Kd.R_alloc | apply Kd.R_drewN | apply Kd.R_drew)); exact HO_6.out⟩, ⟨by (try simp only [hl6_4]); (with_reducible repeat (first | apply Kd.S_alloc | apply Kd.S_drewN | apply Kd.S_drew)); exact HO_7.out⟩, ⟨by (try simp only [hl6_4]); (with_reducible repeat (first | apply Kd.R_alloc | apply Kd.R_drewN | apply Kd.R_drew)); exact HO_11.out⟩, ⟨by repeat (first | (with_reducible first | exact HB.out | apply below_alloc | apply pw_below_drewN | apply below_drew1) | exact HB.out)⟩⟩
                  ·rw [if_neg c38] at H
                   have c38b0 : decide (x12_4 < (l0.length : Int)) = false := decide_eq_false c38
                   clear c38
                   by_cases c58 : x7_2.length < 5864062014805
                   ·rw [if_pos c58] at H
                    have LMc58 := Aside0.mk c58
                    clear c58
                    obtain ⟨y213, hy213⟩ : ∃ y_ : List (List Int), y_ = (x7_2 ++ [x11_4]) := ⟨_, rfl⟩
                    replace H : (runnelref13_Components.l1 k4 (l0.length : Int) x4_1 x6_4 y213 ((-1) + 1)) = some r := by first | (rw [hy213]; with_reducible exact H) | (have H2_ := (Option.bind_some _ _).symm.trans H; rw [hy213]; with_reducible exact H2_) | (have H2_ := (Option.bind_some _ _).symm.trans H; with_reducible exact H2_) | with_reducible exact H | (rw [hy213]; exact H) | exact H
                    have Ny213 := Aside0.mk hy213
                    clear hy213
                    have H' := Aside0.mk H
                    clear H
                    obtain ⟨Ao60, co60, eo60⟩ := Kd.R_slice HO_11.out
                    subst eo60
                    go_wp2_with (first | ((with_reducible refine gate_builtin (b := .append) (xs := #[.tmp 99, .tmp 101]) rfl ?_); at_builtin; refine Kd.S_append (Kd.slice 3 (Kd.int .i64)) (w0 := w) w.heap.size rfl (.tmp 99) (.tmp 101) 48 53 (.slice none 0 0) 24 rfl Try.underlying48 info53 rfl (by decide) (by omega) u7 x7_2 x11_4 [.slice Ao60 x11_4.length co60] (fun _ => True) (fun k_ => some k_ = (.slice Ao60 x11_4.length co60 : Value).ownBlock) rfl rfl ?aP (fun k_ hk_ => ((Kd.R_mono (ok' := fun k_ => ((fun _ => True)) k_ ∧ some k_ ≠ (u7 : Value).ownBlock) (Kd.R_apart' (HO_11.out) (Kd.S_typed HO_7.out) (by decide)) (fun k_ hk => ⟨trivial, hk.2⟩))).1 k_ hk_.symm) ?aF ?aO ?aB ?aS ?aL ?_; (case aP => exact Kd.M_row (Kd.R_mono (Kd.R_tight rfl (Kd.R_mono (ok' := fun k_ => ((fun _ => True)) k_ ∧ some k_ ≠ (u7 : Value).ownBlock) (Kd.R_apart' (HO_11.out) (Kd.S_typed HO_7.out) (by decide)) (fun k_ hk => ⟨trivial, hk.2⟩))) (fun _ h_ => h_))); (case aB => exact (by repeat (first | (with_reducible first | exact HB.out | apply below_alloc | apply pw_below_drewN | apply below_drew1) | exact HB.out))); (case aF => exact (fun _ _ => trivial)); (case aO => exact (by (with_reducible repeat (first | apply Kd.S_alloc | apply Kd.S_drewN | apply Kd.S_drew)); exact Kd.S_mono HO_7.out (fun k_ hk => ⟨trivial, fun e_ => hk e_⟩))); (case aS => exact (below_size (by repeat (first | (with_reducible first | exact HB.out | apply below_alloc | apply pw_below_drewN | apply below_drew1) | exact HB.out)))); (case aL => have := LMc58.out; omega); intro v214 w59 ho hb hg hat; rw [← Ny213.out] at ho; have n0_ := Aside0.mk (Kd.S_over' (by (with_reducible repeat (first | apply Kd.S_alloc | apply Kd.S_drewN | apply Kd.S_drew)); exact HO_4.out) (Kd.S_typed (by (with_reducible repeat (first | apply Kd.S_alloc | apply Kd.S_drewN | apply Kd.S_drew)); exact HO_7.out)) (by decide) hg); have n1_ := Aside0.mk (Kd.R_over' (by (with_reducible repeat (first | apply Kd.R_alloc | apply Kd.R_drewN | apply Kd.R_drew)); exact HO_6.out) (Kd.S_typed (by (with_reducible repeat (first | apply Kd.S_alloc | apply Kd.S_drewN | apply Kd.S_drew)); exact HO_7.out)) (by decide) hg); have n2_ := Aside0.mk (hb); have n3_ := Aside0.mk (ho); clear HO_4; clear HO_6; clear HB; clear HO_7; clear HO_11; have HO_4 := n0_; have HO_6 := n1_; have HB := n2_; have HO215 := n3_; clear n0_ n1_ n2_ n3_; clear ho hb hg hat))
                    (try simp only [← hl6_4])
                    go_roundg k4
                    case measure => have := HK1.out; have := HK2.out; have := HK3.out; have := HK4.out; omega
                    case rel => exact ⟨(x6_4), (y213), ((-1) + 1), (by first | rfl | (simp; done) | (simp [*]; done)), H', ⟨by have := HK1.out; have := HK2.out; have := HK3.out; have := HK4.out; omega⟩, ⟨by (try simp only [hl6_4]); (with_reducible repeat (first | apply Kd.S_alloc | apply Kd.S_drewN | apply Kd.S_drew)); exact HO_4.out⟩, ⟨by (try simp only [hl6_4]); (with_reducible repeat (first | apply Kd.R_alloc | apply Kd.R_drewN | apply Kd.R_drew)); exact HO_6.out⟩, ⟨by (try simp only [hl6_4]); (with_reducible repeat (first | apply Kd.S_alloc | apply Kd.S_drewN | apply Kd.S_drew)); exact HO215.out⟩, ⟨by repeat (first | (with_reducible first | exact HB.out | apply below_alloc | apply pw_below_drewN | apply below_drew1) | exact HB.out)⟩⟩
                   ·rw [if_neg c58] at H
                    exact absurd H (by simp)
               ·replace c37 := Bool.eq_false_iff.mpr c37
                subst c37
                have H1 : (runnelref13_Components.l1 k3 (l0.length : Int) x4_1 x6_2 x7_2 (wrap64 (x8_2 + 1))) = some r := by rw [if_neg (show ¬ (false = true) by decide)] at H; exact H
                clear H
                have H := H1
                clear H1
                have H' := Aside0.mk H
                clear H
                go_wp2
                go_roundg k3
                case measure => have := HK1.out; have := HK2.out; have := HK3.out; omega
                case rel => exact ⟨(x6_2), (x7_2), (wrap64 (x8_2 + 1)), (by first | rfl | (simp; done) | (simp [*]; done)), H', ⟨by have := HK1.out; have := HK2.out; have := HK3.out; omega⟩, ⟨by (with_reducible repeat (first | apply Kd.S_alloc | apply Kd.S_drewN | apply Kd.S_drew)); exact HO_4.out⟩, ⟨by (with_reducible repeat (first | apply Kd.R_alloc | apply Kd.R_drewN | apply Kd.R_drew)); exact HO_6.out⟩, ⟨by (with_reducible repeat (first | apply Kd.S_alloc | apply Kd.S_drewN | apply Kd.S_drew)); exact HO_7.out⟩, ⟨by repeat (first | (with_reducible first | exact HB.out | apply below_alloc | apply pw_below_drewN | apply below_drew1) | exact HB.out)⟩⟩
          ·rw [if_neg c17] at H
           exact absurd H (by simp)
         ·rw [if_neg c16] at H
          exact absurd H (by simp)
        ·rw [if_neg c15] at H
         have c15b0 : decide (x8_2 < (l0.length : Int)) = false := decide_eq_false c15
         clear c15
         obtain rfl := Option.some.inj H
         go_wp2
         go_ret
         exact ⟨_, by first | rfl | (simp [errW_none, errW_some] <;> rfl) | (simp [*, errW_none, errW_some] <;> rfl), by (with_reducible repeat (first | apply Kd.S_alloc | apply Kd.S_drewN | apply Kd.S_drew)); exact HO_7.out, by repeat (first | (with_reducible first | exact HB.out | apply below_alloc | apply pw_below_drewN | apply below_drew1) | exact HB.out)⟩
     ·rw [if_neg c12] at H
      exact absurd H (by simp)
    ·rw [if_neg c11] at H
     exact absurd H (by simp)

end Go.Proofs.Ytkgkhakjodlpgaa.C
