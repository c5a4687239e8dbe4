/- Functions of the program as plain Lean functions, and that each call comes to what they say; printed by a program. -/
import Derived.Test.YtckpffkofeoinaaGreatDoorLr0
namespace Go.Proofs.YtckpffkofeoinaaGreatDoor.Lr
open Go.RowKit Go.Proofs.YtckpffkofeoinaaGreatDoorW.PrintWords Go.Proofs.YtckpffkofeoinaaGreatDoorW.PrintLast Go.Proofs.YtckpffkofeoinaaGreatDoorW.PrintMore Go.RowKit
attribute [local go_sem] max2_int min2_int max_two min_two max_three min_three max_four min_four   -- for this text's walks alone
set_option linter.unusedVariables false
set_option linter.unusedSimpArgs false

/-- A state of type 44 at block g of W; what its slices lead to came in by w0. -/
def IsS44 (w0 W : World) (g : Nat) (f0 : List ByteArray) (f1 : List (List Bool)) : Prop := ∃ A0 c0, ∃ A1 c1, W.heap[g]? = some (.cells #[.slice A0 f0.length c0, .slice A1 f1.length c1] 44 (0, 0)) ∧ 0 ≤ g ∧ Kd.C Kd.string w0 A0 f0.length f0 ∧ Kd.C (Kd.slice 4 Kd.bool) w0 A1 f1.length f1
theorem IsS44.grown {w0 W : World} {g : Nat} {f0 : List ByteArray} {f1 : List (List Bool)} {W1 : World} {row : Option Nat} (h : IsS44 w0 W g f0 f1) (hw : W.grownBy W1 row) (hne : some g ≠ row) : IsS44 w0 W1 g f0 f1 := by
 obtain ⟨A0, c0, A1, c1, hb, hg, hr0, hr1⟩ := h
 exact ⟨A0, c0, A1, c1, blk_grown hb hw hne, hg, hr0, hr1⟩
theorem IsS44.own_neN {w0 W : World} {g : Nat} {f0 : List ByteArray} {f1 : List (List Bool)} {α : Type} {d : Kd α} {e : Nat} {base : Nat} {ok : Nat → Prop} {v : Value} {xs : List α} (h : IsS44 w0 W g f0 f1) (ho : Kd.N d e W base ok v xs) (ht : e ≠ 44) : some g ≠ v.ownBlock := by
 obtain ⟨A0, c0, A1, c1, hb, hg, hr0, hr1⟩ := h
 exact Kd.N_ne ho hb ht
theorem IsS44.fresh {w0 W : World} {g : Nat} {f0 : List ByteArray} {f1 : List (List Bool)} (h : IsS44 w0 W g f0 f1) : ∀ k, W.heap.size ≤ k → k ≠ g := by
 obtain ⟨A0, c0, A1, c1, hb, hg, hr0, hr1⟩ := h
 exact Kd.freshB hb
theorem IsS44.kept {w0 W : World} {g : Nat} {f0 : List ByteArray} {f1 : List (List Bool)} {W1 : World} {S : Nat → Prop} (h : IsS44 w0 W g f0 f1) (hk : Kept W W1 S) (hne : ¬ S g) : IsS44 w0 W1 g f0 f1 := by
 obtain ⟨A0, c0, A1, c1, hb, hg, hr0, hr1⟩ := h
 exact ⟨A0, c0, A1, c1, blk_kept hb hk hne, hg, hr0, hr1⟩
theorem IsS44.below {w0 W : World} {g : Nat} {f0 : List ByteArray} {f1 : List (List Bool)} {W1 : World} (h : IsS44 w0 W g f0 f1) (hw : Below W.heap.size W W1) : IsS44 w0 W1 g f0 f1 := h.grown (grown_of_below hw none) (by simp)
theorem IsS44.alloc {w0 W : World} {g : Nat} {f0 : List ByteArray} {f1 : List (List Bool)} (h : IsS44 w0 W g f0 f1) (o : Obj) : IsS44 w0 (W.alloc o) g f0 f1 := h.below (below_alloc (Below.refl _ _) o)
theorem IsS44.drewN {w0 W : World} {g : Nat} {f0 : List ByteArray} {f1 : List (List Bool)} (h : IsS44 w0 W g f0 f1) (m : Nat) : IsS44 w0 (W.drewN m) g f0 f1 := h
theorem IsS44.drew {w0 W : World} {g : Nat} {f0 : List ByteArray} {f1 : List (List Bool)} (h : IsS44 w0 W g f0 f1) : IsS44 w0 W.drew g f0 f1 := h
theorem IsS44.at_ {w0 W : World} {g : Nat} {f0 : List ByteArray} {f1 : List (List Bool)} {w' : World} {m : Nat} (hq : W.drewN m = w') (h : IsS44 w0 W g f0 f1) : IsS44 w0 w' g f0 f1 := by subst hq; exact IsS44.drewN h m
theorem IsS44.apart {w0 W : World} {g : Nat} {f0 : List ByteArray} {f1 : List (List Bool)} {α : Type} {d : Kd α} {e : Nat} {base : Nat} {ok : Nat → Prop} {v : Value} {xs : List α} (h : IsS44 w0 W g f0 f1) (ho : d.R e W base ok v xs) (ht : ∀ q, q ∈ e :: d.E → q ≠ 44) : d.R e W base (fun k => ok k ∧ k ≠ g) v xs := by
 obtain ⟨A0, c0, A1, c1, hb, hg, hr0, hr1⟩ := h
 exact Kd.R_types ho hb ht
theorem IsS44.own_ne {w0 W : World} {g : Nat} {f0 : List ByteArray} {f1 : List (List Bool)} {α : Type} {d : Kd α} {e : Nat} {base : Nat} {ok : Nat → Prop} {v : Value} {xs : List α} (h : IsS44 w0 W g f0 f1) (ho : d.R e W base ok v xs) (ht : e ≠ 44) : some g ≠ v.ownBlock := by
 obtain ⟨A0, c0, A1, c1, hb, hg, hr0, hr1⟩ := h
 exact Kd.R_ne ho hb ht
theorem IsS44.apartQ {w0 W : World} {g : Nat} {f0 : List ByteArray} {f1 : List (List Bool)} {α : Type} {d : Kd α} {e : Nat} {base : Nat} {ok : Nat → Prop} {v : Value} {xs : List α} (h : IsS44 w0 W g f0 f1) (ho : d.Q e W base ok v xs) (ht : ∀ q, q ∈ e :: d.E → q ≠ 44) : d.Q e W base (fun k => ok k ∧ k ≠ g) v xs := by
 obtain ⟨A0, c0, A1, c1, hb, hg, hr0, hr1⟩ := h
 exact Kd.Q_types ho hb ht
theorem IsS44.own_neQ {w0 W : World} {g : Nat} {f0 : List ByteArray} {f1 : List (List Bool)} {α : Type} {d : Kd α} {e : Nat} {base : Nat} {ok : Nat → Prop} {v : Value} {xs : List α} (h : IsS44 w0 W g f0 f1) (ho : d.Q e W base ok v xs) (ht : e ≠ 44) : some g ≠ v.ownBlock := by
 obtain ⟨A0, c0, A1, c1, hb, hg, hr0, hr1⟩ := h
 exact Kd.Q_ne ho hb ht
theorem IsS44.apartS {w0 W : World} {g : Nat} {f0 : List ByteArray} {f1 : List (List Bool)} {α : Type} {d : Kd α} {e : Nat} {base : Nat} {ok : Nat → Prop} {v : Value} {xs : List α} (h : IsS44 w0 W g f0 f1) (ho : d.S e W base ok v xs) (ht : ∀ q, q ∈ e :: d.E → q ≠ 44) : d.S e W base (fun k => ok k ∧ k ≠ g) v xs := by
 obtain ⟨A0, c0, A1, c1, hb, hg, hr0, hr1⟩ := h
 exact Kd.S_types ho hb ht
theorem IsS44.own_neS {w0 W : World} {g : Nat} {f0 : List ByteArray} {f1 : List (List Bool)} {α : Type} {d : Kd α} {e : Nat} {base : Nat} {ok : Nat → Prop} {v : Value} {xs : List α} (h : IsS44 w0 W g f0 f1) (ho : d.S e W base ok v xs) (ht : e ≠ 44) : some g ≠ v.ownBlock := by
 obtain ⟨A0, c0, A1, c1, hb, hg, hr0, hr1⟩ := h
 exact Kd.S_ne ho hb ht
theorem IsS44.lt {w0 W : World} {g : Nat} {f0 : List ByteArray} {f1 : List (List Bool)} (h : IsS44 w0 W g f0 f1) : g < W.heap.size := by
 obtain ⟨A0, c0, A1, c1, hb, hg, hr0, hr1⟩ := h
 exact blk_lt hb
theorem IsS44.ne_blk {w0 W : World} {g : Nat} {f0 : List ByteArray} {f1 : List (List Bool)} {a : Nat} {cs : Array Value} {t : TypeId} {fr : Nat × Nat} (h : IsS44 w0 W g f0 f1) (hb2 : W.heap[a]? = some (.cells cs t fr)) (ht : t ≠ 44) : g ≠ a := by
 obtain ⟨A0, c0, A1, c1, hb, hg, hr0, hr1⟩ := h
 rintro rfl
 rw [hb] at hb2
 injection hb2 with hb2
 injection hb2 with _ ht2
 exact ht ht2.symm
theorem IsS44.far {w0 W : World} {g : Nat} {f0 : List ByteArray} {f1 : List (List Bool)} {p : Addr} (h : IsS44 w0 W g f0 f1) (hne : g ≠ p.block) (u : Value) : IsS44 w0 (W.setCell p u) g f0 f1 := by
 obtain ⟨A0, c0, A1, c1, hb, hg, hr0, hr1⟩ := h
 exact ⟨A0, c0, A1, c1, blk_far hb hne u, hg, hr0, hr1⟩
theorem cellS44_0 {W : World} {g : Nat} {A0 : Option Addr} {c0 : Nat} {A1 : Option Addr} {c1 : Nat} {f0 : List ByteArray} {f1 : List (List Bool)} (h : W.heap[g]? = some (.cells #[.slice A0 f0.length c0, .slice A1 f1.length c1] 44 (0, 0))) : W.cell? ⟨g, 0, none⟩ = some (.slice A0 f0.length c0) := (blk_cell h 0).trans rfl
theorem cellS44_1 {W : World} {g : Nat} {A0 : Option Addr} {c0 : Nat} {A1 : Option Addr} {c1 : Nat} {f0 : List ByteArray} {f1 : List (List Bool)} (h : W.heap[g]? = some (.cells #[.slice A0 f0.length c0, .slice A1 f1.length c1] 44 (0, 0))) : W.cell? ⟨g, 1, none⟩ = some (.slice A1 f1.length c1) := (blk_cell h 1).trans rfl
theorem IsS44.new (w0 W : World) (A0 : Option Addr) (c0 : Nat) (A1 : Option Addr) (c1 : Nat) (f0 : List ByteArray) (f1 : List (List Bool)) (hB : Below w0.heap.size w0 W) (hr0 : Kd.C Kd.string w0 A0 f0.length f0) (hr1 : Kd.C (Kd.slice 4 Kd.bool) w0 A1 f1.length f1) : IsS44 w0 (W.alloc (.cells #[.slice A0 f0.length c0, .slice A1 f1.length c1] 44)) W.heap.size f0 f1 := ⟨A0, c0, A1, c1, by simpa using heap_alloc_new W _, Nat.zero_le _, hr0, hr1⟩

/-! ### runnelref2_Lattice_Below: function 26 -/
def runnelref2_Lattice_Below.f (s0_0 : List ByteArray) (s0_1 : List (List Bool)) (a1 : Int) (a2 : Int) : Option (Bool) := if a1 ≥ 0 then (if a2 ≥ 0 then (if a1 < (s0_0.length : Int) then (if a2 < (s0_0.length : Int) then (if 0 ≤ a1 then (if a1 < (s0_1.length : Int) then (if 0 ≤ a2 then (if a2 < ((rd_L1 s0_1 a1).length : Int) then (some (rdOf false (rd_L1 s0_1 a1) a2)) else (none)) else (none)) else (none)) else (none)) else (some false)) else (some false)) else (some false)) else (some false)
set_option maxHeartbeats 8000000 in
set_option maxRecDepth 100000 in
theorem runnelref2_Lattice_Below.calls (g : Nat) (s0_0 : List ByteArray) (s0_1 : List (List Bool)) (a1 : Int) (a2 : Int) (r : Bool) (w0 w : World) (hI : IsS44 w0 w g s0_0 s0_1) (hB : Below w0.heap.size w0 w) (h : runnelref2_Lattice_Below.f s0_0 s0_1 a1 a2 = some r) :
  Calls Tryz.prog 26 #[.pointer (some ⟨g, 0, none⟩), .int .i64 a1, .int .i64 a2] w fun e w' => e = .returned (.bool r) ∧ IsS44 w0 w' g s0_0 s0_1 ∧ Below w0.heap.size w0 w' ∧ KeepBut w w' g none := by
 have HI0 := Aside0.mk hI
 have HK := Aside0.mk (KeepBut.refl w g none)
 have HL := Aside0.mk hB.size
 clear hI
 have HW0 := Aside0.mk hB.size
 have HB := Aside0.mk hB
 clear hB
 have H : (if a1 ≥ 0 then (if a2 ≥ 0 then (if a1 < (s0_0.length : Int) then (if a2 < (s0_0.length : Int) then (if 0 ≤ a1 then (if a1 < (s0_1.length : Int) then (if 0 ≤ a2 then (if a2 < ((rd_L1 s0_1 a1).length : Int) then (some (rdOf false (rd_L1 s0_1 a1) a2)) else (none)) else (none)) else (none)) else (none)) else (some false)) else (some false)) else (some false)) else (some false)) = some r := h
 clear h
 by_cases c4 : a1 ≥ 0
 ·rw [if_pos c4] at H
  have c4b0 : decide (0 ≤ a1) = true := decide_eq_true c4
  clear c4
  by_cases c5 : a2 ≥ 0
  ·rw [if_pos c5] at H
   have c5b0 : decide (0 ≤ a2) = true := decide_eq_true c5
   clear c5
   by_cases c6 : a1 < (s0_0.length : Int)
   ·rw [if_pos c6] at H
    have c6b0 : decide (a1 < (s0_0.length : Int)) = true := decide_eq_true c6
    clear c6
    by_cases c7 : a2 < (s0_0.length : Int)
    ·rw [if_pos c7] at H
     have c7b0 : decide (a2 < (s0_0.length : Int)) = true := decide_eq_true c7
     clear c7
     by_cases c8 : 0 ≤ a1
     ·rw [if_pos c8] at H
      have c8b0 : decide (0 ≤ a1) = true := decide_eq_true c8
      clear c8
      by_cases c9 : a1 < (s0_1.length : Int)
      ·rw [if_pos c9] at H
       have c9b0 : decide (a1 < (s0_1.length : Int)) = true := decide_eq_true c9
       clear c9
       by_cases c10 : 0 ≤ a2
       ·rw [if_pos c10] at H
        have c10b0 : decide (0 ≤ a2) = true := decide_eq_true c10
        clear c10
        by_cases c11 : a2 < ((rd_L1 s0_1 a1).length : Int)
        ·rw [if_pos c11] at H
         have c11b0 : decide (a2 < ((rd_L1 s0_1 a1).length : Int)) = true := decide_eq_true c11
         clear c11
         obtain rfl := Option.some.inj H
         obtain ⟨ASz12_0, cSz12_0, ASz12_1, cSz12_1, HGz12, hgz12, HSz12_0, HSz12_1⟩ := HI0.out
         have hcz12_0 := cellS44_0 HGz12
         have hcz12_1 := cellS44_1 HGz12
         clear HGz12 hgz12
         have p101 : 0 ≤ (a1 : Int) := of_decide_eq_true (by first | (with_reducible assumption) | assumption)
         have q101 : a1 < (s0_1.length : Int) := of_decide_eq_true (by first | (with_reducible assumption) | assumption)
         obtain ⟨ad101, A101_0, c101_0, e101, hx101_0, hl101_0, hi101_0⟩ := at_L1 HSz12_1 a1 p101 q101
         cases e101
         replace hx101_0 := pw_cell_below HB.out hx101_0
         have HR101_0 := Aside0.mk hi101_0
         have HC101_0 := Aside0.mk hl101_0
         clear hi101_0 hl101_0
         replace p101 := eq_true p101
         replace q101 := eq_true q101
         have p102 : 0 ≤ (a2 : Int) := of_decide_eq_true (by first | (with_reducible assumption) | assumption)
         have q102 : a2 < ((rd_L1 s0_1 a1).length : Int) := of_decide_eq_true (by first | (with_reducible assumption) | assumption)
         obtain ⟨ad102, e102, hx102_0⟩ := Kd.at_bool HR101_0.out a2 p102 q102
         cases e102
         replace hx102_0 := pw_cell_below HB.out hx102_0
         replace p102 := eq_true p102
         replace q102 := eq_true q102
         go_enter Tryz.func26, Tryz.ntmps26
         go_wp2
         go_ret
         exact ⟨by first | rfl | (simp [errW_none, errW_some] <;> rfl) | (simp [*, errW_none, errW_some] <;> rfl), by repeat (first | (with_reducible first | exact HI0.out | apply IsS44.alloc | apply IsS44.drewN | apply IsS44.drew) | exact HI0.out), by repeat (first | (with_reducible first | exact HB.out | apply below_alloc | apply pw_below_drewN | apply below_drew1 | refine below_set ?_ (IsS44.ge HI0.out)) | exact HB.out), by repeat (first | (with_reducible first | exact HK.out | apply KeepBut.set_ | apply keep_drewN | apply keep_drew | apply keep_alloc) | exact HK.out)⟩
        ·rw [if_neg c11] at H
         exact absurd H (by simp)
       ·rw [if_neg c10] at H
        exact absurd H (by simp)
      ·rw [if_neg c9] at H
       exact absurd H (by simp)
     ·rw [if_neg c8] at H
      exact absurd H (by simp)
    ·rw [if_neg c7] at H
     have c7b0 : decide (a2 < (s0_0.length : Int)) = false := decide_eq_false c7
     clear c7
     obtain rfl := Option.some.inj H
     obtain ⟨ASz13_0, cSz13_0, ASz13_1, cSz13_1, HGz13, hgz13, HSz13_0, HSz13_1⟩ := HI0.out
     have hcz13_0 := cellS44_0 HGz13
     have hcz13_1 := cellS44_1 HGz13
     clear HGz13 hgz13
     go_enter Tryz.func26, Tryz.ntmps26
     go_wp2
     go_ret
     exact ⟨by first | rfl | (simp [errW_none, errW_some] <;> rfl) | (simp [*, errW_none, errW_some] <;> rfl), by repeat (first | (with_reducible first | exact HI0.out | apply IsS44.alloc | apply IsS44.drewN | apply IsS44.drew) | exact HI0.out), by repeat (first | (with_reducible first | exact HB.out | apply below_alloc | apply pw_below_drewN | apply below_drew1 | refine below_set ?_ (IsS44.ge HI0.out)) | exact HB.out), by repeat (first | (with_reducible first | exact HK.out | apply KeepBut.set_ | apply keep_drewN | apply keep_drew | apply keep_alloc) | exact HK.out)⟩
   ·rw [if_neg c6] at H
    have c6b0 : decide (a1 < (s0_0.length : Int)) = false := decide_eq_false c6
    clear c6
    obtain rfl := Option.some.inj H
    obtain ⟨ASz14_0, cSz14_0, ASz14_1, cSz14_1, HGz14, hgz14, HSz14_0, HSz14_1⟩ := HI0.out
    have hcz14_0 := cellS44_0 HGz14
    have hcz14_1 := cellS44_1 HGz14
    clear HGz14 hgz14
    go_enter Tryz.func26, Tryz.ntmps26
    go_wp2
    go_ret
    exact ⟨by first | rfl | (simp [errW_none, errW_some] <;> rfl) | (simp [*, errW_none, errW_some] <;> rfl), by repeat (first | (with_reducible first | exact HI0.out | apply IsS44.alloc | apply IsS44.drewN | apply IsS44.drew) | exact HI0.out), by repeat (first | (with_reducible first | exact HB.out | apply below_alloc | apply pw_below_drewN | apply below_drew1 | refine below_set ?_ (IsS44.ge HI0.out)) | exact HB.out), by repeat (first | (with_reducible first | exact HK.out | apply KeepBut.set_ | apply keep_drewN | apply keep_drew | apply keep_alloc) | exact HK.out)⟩
  ·rw [if_neg c5] at H
   have c5b0 : decide (0 ≤ a2) = false := decide_eq_false c5
   clear c5
   obtain rfl := Option.some.inj H
   obtain ⟨ASz15_0, cSz15_0, ASz15_1, cSz15_1, HGz15, hgz15, HSz15_0, HSz15_1⟩ := HI0.out
   have hcz15_0 := cellS44_0 HGz15
   have hcz15_1 := cellS44_1 HGz15
   clear HGz15 hgz15
   go_enter Tryz.func26, Tryz.ntmps26
   go_wp2
   go_ret
   exact ⟨by first | rfl | (simp [errW_none, errW_some] <;> rfl) | (simp [*, errW_none, errW_some] <;> rfl), by repeat (first | (with_reducible first | exact HI0.out | apply IsS44.alloc | apply IsS44.drewN | apply IsS44.drew) | exact HI0.out), by repeat (first | (with_reducible first | exact HB.out | apply below_alloc | apply pw_below_drewN | apply below_drew1 | refine below_set ?_ (IsS44.ge HI0.out)) | exact HB.out), by repeat (first | (with_reducible first | exact HK.out | apply KeepBut.set_ | apply keep_drewN | apply keep_drew | apply keep_alloc) | exact HK.out)⟩
 ·rw [if_neg c4] at H
  have c4b0 : decide (0 ≤ a1) = false := decide_eq_false c4
  clear c4
  obtain rfl := Option.some.inj H
  obtain ⟨ASz16_0, cSz16_0, ASz16_1, cSz16_1, HGz16, hgz16, HSz16_0, HSz16_1⟩ := HI0.out
  have hcz16_0 := cellS44_0 HGz16
  have hcz16_1 := cellS44_1 HGz16
  clear HGz16 hgz16
  go_enter Tryz.func26, Tryz.ntmps26
  go_wp2
  go_ret
  exact ⟨by first | rfl | (simp [errW_none, errW_some] <;> rfl) | (simp [*, errW_none, errW_some] <;> rfl), by repeat (first | (with_reducible first | exact HI0.out | apply IsS44.alloc | apply IsS44.drewN | apply IsS44.drew) | exact HI0.out), by repeat (first | (with_reducible first | exact HB.out | apply below_alloc | apply pw_below_drewN | apply below_drew1 | refine below_set ?_ (IsS44.ge HI0.out)) | exact HB.out), by repeat (first | (with_reducible first | exact HK.out | apply KeepBut.set_ | apply keep_drewN | apply keep_drew | apply keep_alloc) | exact HK.out)⟩

/-! ### runnelref2_Lattice_Join: function 74 -/
mutual
def runnelref2_Lattice_Join.l0 : Nat → Int → Int → Int → List ByteArray → List (List Bool) → Option (Int)
 | 0, _, _, _, _, _ => none
 | k + 1, x1, x2, x7, x1000, x1001 => if x7 < (x1000.length : Int) then ((runnelref2_Lattice_Below.f x1000 x1001 x1 x7).bind fun t103 => (if t103 = true then ((runnelref2_Lattice_Below.f x1000 x1001 x2 x7).bind fun t104 => (runnelref2_Lattice_Join.j1 k x1 x2 x7 t104 x1000 x1001)) else (runnelref2_Lattice_Join.j1 k x1 x2 x7 false x1000 x1001))) else (some (-1))
def runnelref2_Lattice_Join.j1 : Nat → Int → Int → Int → Bool → List ByteArray → List (List Bool) → Option (Int)
 | 0, _, _, _, _, _, _ => none
 | k + 1, x1, x2, x7, x8, x1000, x1001 => runnelref2_Lattice_Join.l1 k x1 x2 x7 x8 0 x1000 x1001
def runnelref2_Lattice_Join.l1 : Nat → Int → Int → Int → Bool → Int → List ByteArray → List (List Bool) → Option (Int)
 | 0, _, _, _, _, _, _, _ => none
 | k + 1, x1, x2, x7, x8, x9, x1000, x1001 => if x9 < (x1000.length : Int) then (runnelref2_Lattice_Join.j3 k x1 x2 x7 x8 x9 x8 x1000 x1001) else (runnelref2_Lattice_Join.j3 k x1 x2 x7 x8 x9 false x1000 x1001)
def runnelref2_Lattice_Join.j3 : Nat → Int → Int → Int → Bool → Int → Bool → List ByteArray → List (List Bool) → Option (Int)
 | 0, _, _, _, _, _, _, _, _ => none
 | k + 1, x1, x2, x7, x8, x9, x38, x1000, x1001 => if x38 = true then ((runnelref2_Lattice_Below.f x1000 x1001 x1 x9).bind fun t105 => (if t105 = true then ((runnelref2_Lattice_Below.f x1000 x1001 x2 x9).bind fun t106 => (if t106 = true then ((runnelref2_Lattice_Below.f x1000 x1001 x7 x9).bind fun t107 => (runnelref2_Lattice_Join.l1 k x1 x2 x7 t107 (wrap64 (x9 + 1)) x1000 x1001)) else (runnelref2_Lattice_Join.l1 k x1 x2 x7 true (wrap64 (x9 + 1)) x1000 x1001))) else (runnelref2_Lattice_Join.l1 k x1 x2 x7 true (wrap64 (x9 + 1)) x1000 x1001))) else (if x8 = true then (some x7) else (runnelref2_Lattice_Join.l0 k x1 x2 (wrap64 (x7 + 1)) x1000 x1001))
end
def runnelref2_Lattice_Join.f (k : Nat) (s0_0 : List ByteArray) (s0_1 : List (List Bool)) (a1 : Int) (a2 : Int) : Option (Int) := runnelref2_Lattice_Join.l0 k a1 a2 0 s0_0 s0_1
theorem runnelref2_Lattice_Join.mono_l : ∀ k, (∀ y0 y1 y2 y3 y4, LeO (runnelref2_Lattice_Join.l0 k y0 y1 y2 y3 y4) (runnelref2_Lattice_Join.l0 (k + 1) y0 y1 y2 y3 y4)) ∧ (∀ y0 y1 y2 y3 y4 y5, LeO (runnelref2_Lattice_Join.j1 k y0 y1 y2 y3 y4 y5) (runnelref2_Lattice_Join.j1 (k + 1) y0 y1 y2 y3 y4 y5)) ∧ (∀ y0 y1 y2 y3 y4 y5 y6, LeO (runnelref2_Lattice_Join.l1 k y0 y1 y2 y3 y4 y5 y6) (runnelref2_Lattice_Join.l1 (k + 1) y0 y1 y2 y3 y4 y5 y6)) ∧ (∀ y0 y1 y2 y3 y4 y5 y6 y7, LeO (runnelref2_Lattice_Join.j3 k y0 y1 y2 y3 y4 y5 y6 y7) (runnelref2_Lattice_Join.j3 (k + 1) y0 y1 y2 y3 y4 y5 y6 y7))
 | 0 => ⟨fun _ _ _ _ _ r h => by simp [runnelref2_Lattice_Join.l0] at h, fun _ _ _ _ _ _ r h => by simp [runnelref2_Lattice_Join.j1] at h, fun _ _ _ _ _ _ _ r h => by simp [runnelref2_Lattice_Join.l1] at h, fun _ _ _ _ _ _ _ _ r h => by simp [runnelref2_Lattice_Join.j3] at h⟩
 | k + 1 => by
  obtain ⟨ih0, ih1, ih2, ih3⟩ := runnelref2_Lattice_Join.mono_l k
  refine ⟨?_, ?_, ?_, ?_⟩
  ·intro y0 y1 y2 y3 y4
   unfold runnelref2_Lattice_Join.l0
   repeat' first
   | (with_reducible exact ih0 _ _ _ _ _)
   | (with_reducible exact ih1 _ _ _ _ _ _)
   | (with_reducible exact ih2 _ _ _ _ _ _ _)
   | (with_reducible exact ih3 _ _ _ _ _ _ _ _)
   | (with_reducible exact LeO.refl _)
   | (with_reducible exact LeO.none _)
   | (with_reducible refine LeO.ite ?_ ?_)
   | (with_reducible refine LeO.bind ?_ (fun _ => ?_))
   | exact ih0 _ _ _ _ _
   | exact ih1 _ _ _ _ _ _
   | exact ih2 _ _ _ _ _ _ _
   | exact ih3 _ _ _ _ _ _ _ _
   | exact LeO.none _
   | refine LeO.ite ?_ ?_
   | refine LeO.bind ?_ (fun _ => ?_)
  ·intro y0 y1 y2 y3 y4 y5
   unfold runnelref2_Lattice_Join.j1
   repeat' first
   | (with_reducible exact ih0 _ _ _ _ _)
   | (with_reducible exact ih1 _ _ _ _ _ _)
   | (with_reducible exact ih2 _ _ _ _ _ _ _)
   | (with_reducible exact ih3 _ _ _ _ _ _ _ _)
   | (with_reducible exact LeO.refl _)
   | (with_reducible exact LeO.none _)
   | (with_reducible refine LeO.ite ?_ ?_)
   | (with_reducible refine LeO.bind ?_ (fun _ => ?_))
   | exact ih0 _ _ _ _ _
   | exact ih1 _ _ _ _ _ _
   | exact ih2 _ _ _ _ _ _ _
   | exact ih3 _ _ _ _ _ _ _ _
   | exact LeO.none _
   | refine LeO.ite ?_ ?_
   | refine LeO.bind ?_ (fun _ => ?_)
  ·intro y0 y1 y2 y3 y4 y5 y6
   unfold runnelref2_Lattice_Join.l1
   repeat' first
   | (with_reducible exact ih0 _ _ _ _ _)
   | (with_reducible exact ih1 _ _ _ _ _ _)
   | (with_reducible exact ih2 _ _ _ _ _ _ _)
   | (with_reducible exact ih3 _ _ _ _ _ _ _ _)
   | (with_reducible exact LeO.refl _)
   | (with_reducible exact LeO.none _)
   | (with_reducible refine LeO.ite ?_ ?_)
   | (with_reducible refine LeO.bind ?_ (fun _ => ?_))
   | exact ih0 _ _ _ _ _
   | exact ih1 _ _ _ _ _ _
   | exact ih2 _ _ _ _ _ _ _
   | exact ih3 _ _ _ _ _ _ _ _
   | exact LeO.none _
   | refine LeO.ite ?_ ?_
   | refine LeO.bind ?_ (fun _ => ?_)
  ·intro y0 y1 y2 y3 y4 y5 y6 y7
   unfold runnelref2_Lattice_Join.j3
   repeat' first
   | (with_reducible exact ih0 _ _ _ _ _)
   | (with_reducible exact ih1 _ _ _ _ _ _)
   | (with_reducible exact ih2 _ _ _ _ _ _ _)
   | (with_reducible exact ih3 _ _ _ _ _ _ _ _)
   | (with_reducible exact LeO.refl _)
   | (with_reducible exact LeO.none _)
   | (with_reducible refine LeO.ite ?_ ?_)
   | (with_reducible refine LeO.bind ?_ (fun _ => ?_))
   | exact ih0 _ _ _ _ _
   | exact ih1 _ _ _ _ _ _
   | exact ih2 _ _ _ _ _ _ _
   | exact ih3 _ _ _ _ _ _ _ _
   | exact LeO.none _
   | refine LeO.ite ?_ ?_
   | refine LeO.bind ?_ (fun _ => ?_)
theorem runnelref2_Lattice_Join.mono : ∀ a0 a1 a2 a3 k, LeO (runnelref2_Lattice_Join.f k a0 a1 a2 a3) (runnelref2_Lattice_Join.f (k + 1) a0 a1 a2 a3) := by
 intro a0 a1 a2 a3 k
 obtain ⟨ih0, ih1, ih2, ih3⟩ := runnelref2_Lattice_Join.mono_l k
 unfold runnelref2_Lattice_Join.f
 repeat' first
   | (with_reducible exact ih0 _ _ _ _ _)
   | (with_reducible exact ih1 _ _ _ _ _ _)
   | (with_reducible exact ih2 _ _ _ _ _ _ _)
   | (with_reducible exact ih3 _ _ _ _ _ _ _ _)
   | (with_reducible exact LeO.refl _)
   | (with_reducible exact LeO.none _)
   | (with_reducible refine LeO.ite ?_ ?_)
   | (with_reducible refine LeO.bind ?_ (fun _ => ?_))
   | exact ih0 _ _ _ _ _
   | exact ih1 _ _ _ _ _ _
   | exact ih2 _ _ _ _ _ _ _
   | exact ih3 _ _ _ _ _ _ _ _
   | exact LeO.none _
   | refine LeO.ite ?_ ?_
   | refine LeO.bind ?_ (fun _ => ?_)
set_option maxHeartbeats 8000000 in
set_option maxRecDepth 100000 in
theorem runnelref2_Lattice_Join.calls (k : Nat) (g : Nat) (s0_0 : List ByteArray) (s0_1 : List (List Bool)) (a1 : Int) (a2 : Int) (r : Int) (w0 w : World) (hI : IsS44 w0 w g s0_0 s0_1) (hB : Below w0.heap.size w0 w) (h : runnelref2_Lattice_Join.f k s0_0 s0_1 a1 a2 = some r) :
  Calls Tryz.prog 74 #[.pointer (some ⟨g, 0, none⟩), .int .i64 a1, .int .i64 a2] w fun e w' => e = .returned (.int .i64 r) ∧ IsS44 w0 w' g s0_0 s0_1 ∧ Below w0.heap.size w0 w' ∧ KeepBut w w' g none := by
 have HI0 := Aside0.mk hI
 have HK := Aside0.mk (KeepBut.refl w g none)
 have HL := Aside0.mk hB.size
 clear hI
 have HW0 := Aside0.mk hB.size
 have HB := Aside0.mk hB
 clear hB
 have H : (runnelref2_Lattice_Join.l0 k a1 a2 0 s0_0 s0_1) = some r := h
 clear h
 have H' := Aside0.mk H
 clear H
 go_enter Tryz.func74, Tryz.ntmps74
 go_wp2
 go_loopg [7] k (fun kq v7 w' => ∃ (x7_1 : Int), v7 = .int .i64 x7_1 ∧ Aside0 (runnelref2_Lattice_Join.l0 kq a1 a2 x7_1 s0_0 s0_1 = some r) ∧ Aside0 (kq ≤ k) ∧ Aside0 (IsS44 w0 w' g s0_0 s0_1) ∧ Aside0 (KeepBut w w' g none) ∧ Aside0 (Below w0.heap.size w0 w'))
 case atStart => exact ⟨(0), (by first | rfl | (simp; done) | (simp [*]; done)), H', ⟨Nat.le_refl _⟩, ⟨by repeat (first | (with_reducible first | exact HI0.out | apply IsS44.alloc | apply IsS44.drewN | apply IsS44.drew) | exact HI0.out)⟩, ⟨by repeat (first | (with_reducible first | exact HK.out | apply KeepBut.set_ | apply keep_drewN | apply keep_drew | apply keep_alloc) | exact HK.out)⟩, ⟨by repeat (first | (with_reducible first | exact HB.out | apply below_alloc | apply pw_below_drewN | apply below_drew1 | refine below_set ?_ (IsS44.ge HI0.out)) | exact HB.out)⟩⟩
 case round =>
  clear H'
  try clear p2
  obtain ⟨x7_1, rfl, HA, HK1, HI0, HK, HB⟩ := hrel
  cases gk with
  | zero => exact absurd HA.out (by simp [runnelref2_Lattice_Join.l0])
  | succ k1 =>
   have H := HA.out
   clear HA
   simp only [runnelref2_Lattice_Join.l0] at H
   by_cases c4 : x7_1 < (s0_0.length : Int)
   ·rw [if_pos c4] at H
    have c4b0 : decide (x7_1 < (s0_0.length : Int)) = true := decide_eq_true c4
    clear c4
    have HC5 := Aside0.mk H
    clear H
    obtain ⟨ASz6_0, cSz6_0, ASz6_1, cSz6_1, HGz6, hgz6, HSz6_0, HSz6_1⟩ := HI0.out
    have hcz6_0 := cellS44_0 HGz6
    have hcz6_1 := cellS44_1 HGz6
    clear HGz6 hgz6
    go_upto_region 4 with (fail)
    go_cut [8] (fun v8 wc => ∃ (kq : Nat) (x8_4 : Bool), v8 = .bool x8_4 ∧ Aside0 (runnelref2_Lattice_Join.j1 kq a1 a2 x7_1 x8_4 s0_0 s0_1 = some r) ∧ Aside0 (kq ≤ k1) ∧ Aside0 (IsS44 w0 wc g s0_0 s0_1) ∧ Aside0 (KeepBut w wc g none) ∧ Aside0 (Below w0.heap.size w0 wc))
    case first =>
     have H := HC5.out
     clear HC5
     replace H := Option.bind_eq_some_iff.mp H
     obtain ⟨t103, A70, H⟩ := H
     replace H : (if t103 = true then ((runnelref2_Lattice_Below.f s0_0 s0_1 a2 x7_1).bind fun t104 => (runnelref2_Lattice_Join.j1 k1 a1 a2 x7_1 t104 s0_0 s0_1)) else (runnelref2_Lattice_Join.j1 k1 a1 a2 x7_1 false s0_0 s0_1)) = some r := H
     have A7 := Aside0.mk A70
     clear A70
     by_cases c8 : t103 = true
     ·subst c8
      have H1 : ((runnelref2_Lattice_Below.f s0_0 s0_1 a2 x7_1).bind fun t104 => (runnelref2_Lattice_Join.j1 k1 a1 a2 x7_1 t104 s0_0 s0_1)) = some r := by rw [if_pos rfl] at H; exact H
      clear H
      have H := H1
      clear H1
      replace H := Option.bind_eq_some_iff.mp H
      obtain ⟨t104, A90, H⟩ := H
      replace H : (runnelref2_Lattice_Join.j1 k1 a1 a2 x7_1 t104 s0_0 s0_1) = some r := H
      have A9 := Aside0.mk A90
      clear A90
      have H' := Aside0.mk H
      clear H
      go_wp2_with (first | ((with_reducible refine gate_callee (f := 26) rfl ?_); refine goesL_ (some 22) rfl rfl Tryz.func26 (by kernel_rfl) rfl #[.pointer (some ⟨g, 0, none⟩), .int .i64 a1, .int .i64 x7_1] rfl (by (try simp only [List.map_toArray, List.map_cons, List.map_nil]); first | done | rfl | (simp only [List.length_drop, List.length_take]; rfl)) ?_; (with_reducible refine (runnelref2_Lattice_Below.calls g s0_0 s0_1 a1 x7_1 true w0 _ ?side1 ?side2 A7.out).mono ?_); (case side1 => repeat (first | (with_reducible first | exact HI0.out | apply IsS44.alloc | apply IsS44.drewN | apply IsS44.drew) | exact HI0.out)); (case side2 => repeat (first | (with_reducible first | exact HB.out | apply below_alloc | apply pw_below_drewN | apply below_drew1 | refine below_set ?_ (IsS44.ge HI0.out)) | exact HB.out)); rintro e w10 ⟨rfl, hi, hb, hk⟩; refine ⟨_, rfl, ?_⟩; have n0_ := Aside0.mk (KeepBut.trans (by repeat (first | (with_reducible first | exact HK.out | apply KeepBut.set_ | apply keep_drewN | apply keep_drew | apply keep_alloc) | exact HK.out)) hk (.inl rfl)); have n1_ := Aside0.mk (hb); have n2_ := Aside0.mk (hi); clear HK; clear HB; clear HI0; have HK := n0_; have HB := n1_; have HI0 := n2_; clear n0_ n1_ n2_; (try clear hb); (try clear hb2); (try clear hk); (try clear hi)) | (go_at_call 26; (with_reducible refine (runnelref2_Lattice_Below.calls g s0_0 s0_1 a2 x7_1 t104 w0 _ ?side1 ?side2 A9.out).mono ?_); (case side1 => repeat (first | (with_reducible first | exact HI0.out | apply IsS44.alloc | apply IsS44.drewN | apply IsS44.drew) | exact HI0.out)); (case side2 => repeat (first | (with_reducible first | exact HB.out | apply below_alloc | apply pw_below_drewN | apply below_drew1 | refine below_set ?_ (IsS44.ge HI0.out)) | exact HB.out)); rintro e w11 ⟨rfl, hi, hb, hk⟩; have n0_ := Aside0.mk (KeepBut.trans (by repeat (first | (with_reducible first | exact HK.out | apply KeepBut.set_ | apply keep_drewN | apply keep_drew | apply keep_alloc) | exact HK.out)) hk (.inl rfl)); have n1_ := Aside0.mk (hb); have n2_ := Aside0.mk (hi); clear HK; clear HB; clear HI0; have HK := n0_; have HB := n1_; have HI0 := n2_; clear n0_ n1_ n2_; (try clear hb); (try clear hb2); (try clear hk); (try clear hi)))
      go_meet
      case rel => exact ⟨_, (t104), (by first | rfl | (simp; done) | (simp [*]; done)), H', ⟨by have := HK1.out; first | omega | exact Nat.le_refl _⟩, ⟨by repeat (first | (with_reducible first | exact HI0.out | apply IsS44.alloc | apply IsS44.drewN | apply IsS44.drew) | exact HI0.out)⟩, ⟨by repeat (first | (with_reducible first | exact HK.out | apply KeepBut.set_ | apply keep_drewN | apply keep_drew | apply keep_alloc) | exact HK.out)⟩, ⟨by repeat (first | (with_reducible first | exact HB.out | apply below_alloc | apply pw_below_drewN | apply below_drew1 | refine below_set ?_ (IsS44.ge HI0.out)) | exact HB.out)⟩⟩
     ·replace c8 := Bool.eq_false_iff.mpr c8
      subst c8
      have H1 : (runnelref2_Lattice_Join.j1 k1 a1 a2 x7_1 false s0_0 s0_1) = some r := by rw [if_neg (show ¬ (false = true) by decide)] at H; exact H
      clear H
      have H := H1
      clear H1
      have H' := Aside0.mk H
      clear H
      go_wp2_with (first | ((with_reducible refine gate_callee (f := 26) rfl ?_); refine goesL_ (some 22) rfl rfl Tryz.func26 (by kernel_rfl) rfl #[.pointer (some ⟨g, 0, none⟩), .int .i64 a1, .int .i64 x7_1] rfl (by (try simp only [List.map_toArray, List.map_cons, List.map_nil]); first | done | rfl | (simp only [List.length_drop, List.length_take]; rfl)) ?_; (with_reducible refine (runnelref2_Lattice_Below.calls g s0_0 s0_1 a1 x7_1 false w0 _ ?side1 ?side2 A7.out).mono ?_); (case side1 => repeat (first | (with_reducible first | exact HI0.out | apply IsS44.alloc | apply IsS44.drewN | apply IsS44.drew) | exact HI0.out)); (case side2 => repeat (first | (with_reducible first | exact HB.out | apply below_alloc | apply pw_below_drewN | apply below_drew1 | refine below_set ?_ (IsS44.ge HI0.out)) | exact HB.out)); rintro e w12 ⟨rfl, hi, hb, hk⟩; refine ⟨_, rfl, ?_⟩; have n0_ := Aside0.mk (KeepBut.trans (by repeat (first | (with_reducible first | exact HK.out | apply KeepBut.set_ | apply keep_drewN | apply keep_drew | apply keep_alloc) | exact HK.out)) hk (.inl rfl)); have n1_ := Aside0.mk (hb); have n2_ := Aside0.mk (hi); clear HK; clear HB; clear HI0; have HK := n0_; have HB := n1_; have HI0 := n2_; clear n0_ n1_ n2_; (try clear hb); (try clear hb2); (try clear hk); (try clear hi)))
      go_meet
      case rel => exact ⟨_, (false), (by first | rfl | (simp; done) | (simp [*]; done)), H', ⟨by have := HK1.out; first | omega | exact Nat.le_refl _⟩, ⟨by repeat (first | (with_reducible first | exact HI0.out | apply IsS44.alloc | apply IsS44.drewN | apply IsS44.drew) | exact HI0.out)⟩, ⟨by repeat (first | (with_reducible first | exact HK.out | apply KeepBut.set_ | apply keep_drewN | apply keep_drew | apply keep_alloc) | exact HK.out)⟩, ⟨by repeat (first | (with_reducible first | exact HB.out | apply below_alloc | apply pw_below_drewN | apply below_drew1 | refine below_set ?_ (IsS44.ge HI0.out)) | exact HB.out)⟩⟩
    case rest =>
     clear HC5
     try clear c2
     try clear p2
     try clear c4
     try clear c4b0
     try clear c7
     try clear c8
     try clear hcz6_0
     try clear hcz6_1
     try clear p2
     obtain ⟨kq, x8_4, rfl, HA, HJ4, HI0, HK, HB⟩ := hcut
     cases kq with
     | zero => exact absurd HA.out (by simp [runnelref2_Lattice_Join.j1])
     | succ kj4 =>
      have H := HA.out
      clear HA
      simp only [runnelref2_Lattice_Join.j1] at H
      have H' := Aside0.mk H
      clear H
      go_wp2
      go_loopg [8, 9] kj4 (fun kq v8 v9 w' => ∃ (x8_3 : Bool) (x9_3 : Int), v8 = .bool x8_3 ∧ v9 = .int .i64 x9_3 ∧ Aside0 (runnelref2_Lattice_Join.l1 kq a1 a2 x7_1 x8_3 x9_3 s0_0 s0_1 = some r) ∧ Aside0 (kq ≤ kj4) ∧ Aside0 (IsS44 w0 w' g s0_0 s0_1) ∧ Aside0 (KeepBut w w' g none) ∧ Aside0 (Below w0.heap.size w0 w'))
      case atStart => exact ⟨(x8_4), (0), (by first | rfl | (simp; done) | (simp [*]; done)), (by first | rfl | (simp; done) | (simp [*]; done)), H', ⟨Nat.le_refl _⟩, ⟨by repeat (first | (with_reducible first | exact HI0.out | apply IsS44.alloc | apply IsS44.drewN | apply IsS44.drew) | exact HI0.out)⟩, ⟨by repeat (first | (with_reducible first | exact HK.out | apply KeepBut.set_ | apply keep_drewN | apply keep_drew | apply keep_alloc) | exact HK.out)⟩, ⟨by repeat (first | (with_reducible first | exact HB.out | apply below_alloc | apply pw_below_drewN | apply below_drew1 | refine below_set ?_ (IsS44.ge HI0.out)) | exact HB.out)⟩⟩
      case round =>
       clear H'
       try clear c2
       try clear p2
       try clear c4
       try clear c4b0
       try clear c7
       try clear c8
       try clear hcz6_0
       try clear hcz6_1
       try clear p2
       obtain ⟨x8_3, x9_3, rfl, rfl, HA, HK3, HI0, HK, HB⟩ := hrel
       cases gk with
       | zero => exact absurd HA.out (by simp [runnelref2_Lattice_Join.l1])
       | succ k3 =>
        have H := HA.out
        clear HA
        simp only [runnelref2_Lattice_Join.l1] at H
        have HC13 := Aside0.mk H
        clear H
        go_upto_region 6 with (fail)
        go_cut [38] (fun v38 wc => ∃ (kq : Nat) (x38_12 : Bool), v38 = .bool x38_12 ∧ Aside0 (runnelref2_Lattice_Join.j3 kq a1 a2 x7_1 x8_3 x9_3 x38_12 s0_0 s0_1 = some r) ∧ Aside0 (kq ≤ k3) ∧ Aside0 (IsS44 w0 wc g s0_0 s0_1) ∧ Aside0 (KeepBut w wc g none) ∧ Aside0 (Below w0.heap.size w0 wc))
        case first =>
         have H := HC13.out
         clear HC13
         by_cases c14 : x9_3 < (s0_0.length : Int)
         ·rw [if_pos c14] at H
          have c14b0 : decide (x9_3 < (s0_0.length : Int)) = true := decide_eq_true c14
          clear c14
          (first | rw [c14b0] | (simp only [i64_w, i32_w]; rw [c14b0]) | skip)
          have H' := Aside0.mk H
          clear H
          obtain ⟨ASz15_0, cSz15_0, ASz15_1, cSz15_1, HGz15, hgz15, HSz15_0, HSz15_1⟩ := HI0.out
          have hcz15_0 := cellS44_0 HGz15
          have hcz15_1 := cellS44_1 HGz15
          clear HGz15 hgz15
          go_wp2
          go_meet
          case rel => exact ⟨_, (x8_3), (by first | rfl | (simp; done) | (simp [*]; done)), H', ⟨by have := HK1.out; have := HJ4.out; have := HK3.out; first | omega | exact Nat.le_refl _⟩, ⟨by repeat (first | (with_reducible first | exact HI0.out | apply IsS44.alloc | apply IsS44.drewN | apply IsS44.drew) | exact HI0.out)⟩, ⟨by repeat (first | (with_reducible first | exact HK.out | apply KeepBut.set_ | apply keep_drewN | apply keep_drew | apply keep_alloc) | exact HK.out)⟩, ⟨by repeat (first | (with_reducible first | exact HB.out | apply below_alloc | apply pw_below_drewN | apply below_drew1 | refine below_set ?_ (IsS44.ge HI0.out)) | exact HB.out)⟩⟩
         ·rw [if_neg c14] at H
          have c14b0 : decide (x9_3 < (s0_0.length : Int)) = false := decide_eq_false c14
          clear c14
          (first | rw [c14b0] | (simp only [i64_w, i32_w]; rw [c14b0]) | skip)
          have H' := Aside0.mk H
          clear H
          obtain ⟨ASz16_0, cSz16_0, ASz16_1, cSz16_1, HGz16, hgz16, HSz16_0, HSz16_1⟩ := HI0.out
          have hcz16_0 := cellS44_0 HGz16
          have hcz16_1 := cellS44_1 HGz16
          clear HGz16 hgz16
          go_wp2
          go_meet
          case rel => exact ⟨_, (false), (by first | rfl | (simp; done) | (simp [*]; done)), H', ⟨by have := HK1.out; have := HJ4.out; have := HK3.out; first | omega | exact Nat.le_refl _⟩, ⟨by repeat (first | (with_reducible first | exact HI0.out | apply IsS44.alloc | apply IsS44.drewN | apply IsS44.drew) | exact HI0.out)⟩, ⟨by repeat (first | (with_reducible first | exact HK.out | apply KeepBut.set_ | apply keep_drewN | apply keep_drew | apply keep_alloc) | exact HK.out)⟩, ⟨by repeat (first | (with_reducible first | exact HB.out | apply below_alloc | apply pw_below_drewN | apply below_drew1 | refine below_set ?_ (IsS44.ge HI0.out)) | exact HB.out)⟩⟩
        case rest =>
         clear HC13
         try clear c1
         try clear c2
         try clear p2
         try clear c4
         try clear c4b0
         try clear c7
         try clear c8
         try clear c14
         try clear c14b0
         try clear hcz15_0
         try clear hcz15_1
         try clear hcz16_0
         try clear hcz16_1
         try clear hcz6_0
         try clear hcz6_1
         try clear p2
         obtain ⟨kq, x38_12, rfl, HA, HJ12, HI0, HK, HB⟩ := hcut
         cases kq with
         | zero => exact absurd HA.out (by simp [runnelref2_Lattice_Join.j3])
         | succ kj12 =>
          have H := HA.out
          clear HA
          simp only [runnelref2_Lattice_Join.j3] at H
          by_cases c17 : x38_12 = true
          ·subst c17
           have H1 : ((runnelref2_Lattice_Below.f s0_0 s0_1 a1 x9_3).bind fun t105 => (if t105 = true then ((runnelref2_Lattice_Below.f s0_0 s0_1 a2 x9_3).bind fun t106 => (if t106 = true then ((runnelref2_Lattice_Below.f s0_0 s0_1 x7_1 x9_3).bind fun t107 => (runnelref2_Lattice_Join.l1 kj12 a1 a2 x7_1 t107 (wrap64 (x9_3 + 1)) s0_0 s0_1)) else (runnelref2_Lattice_Join.l1 kj12 a1 a2 x7_1 true (wrap64 (x9_3 + 1)) s0_0 s0_1))) else (runnelref2_Lattice_Join.l1 kj12 a1 a2 x7_1 true (wrap64 (x9_3 + 1)) s0_0 s0_1))) = some r := by rw [if_pos rfl] at H; exact H
           clear H
           have H := H1
           clear H1
           replace H := Option.bind_eq_some_iff.mp H
           obtain ⟨t105, A180, H⟩ := H
           replace H : (if t105 = true then ((runnelref2_Lattice_Below.f s0_0 s0_1 a2 x9_3).bind fun t106 => (if t106 = true then ((runnelref2_Lattice_Below.f s0_0 s0_1 x7_1 x9_3).bind fun t107 => (runnelref2_Lattice_Join.l1 kj12 a1 a2 x7_1 t107 (wrap64 (x9_3 + 1)) s0_0 s0_1)) else (runnelref2_Lattice_Join.l1 kj12 a1 a2 x7_1 true (wrap64 (x9_3 + 1)) s0_0 s0_1))) else (runnelref2_Lattice_Join.l1 kj12 a1 a2 x7_1 true (wrap64 (x9_3 + 1)) s0_0 s0_1)) = some r := H
           have A18 := Aside0.mk A180
           clear A180
           by_cases c19 : t105 = true
           ·subst c19
            have H1 : ((runnelref2_Lattice_Below.f s0_0 s0_1 a2 x9_3).bind fun t106 => (if t106 = true then ((runnelref2_Lattice_Below.f s0_0 s0_1 x7_1 x9_3).bind fun t107 => (runnelref2_Lattice_Join.l1 kj12 a1 a2 x7_1 t107 (wrap64 (x9_3 + 1)) s0_0 s0_1)) else (runnelref2_Lattice_Join.l1 kj12 a1 a2 x7_1 true (wrap64 (x9_3 + 1)) s0_0 s0_1))) = some r := by rw [if_pos rfl] at H; exact H
            clear H
            have H := H1
            clear H1
            replace H := Option.bind_eq_some_iff.mp H
            obtain ⟨t106, A200, H⟩ := H
            replace H : (if t106 = true then ((runnelref2_Lattice_Below.f s0_0 s0_1 x7_1 x9_3).bind fun t107 => (runnelref2_Lattice_Join.l1 kj12 a1 a2 x7_1 t107 (wrap64 (x9_3 + 1)) s0_0 s0_1)) else (runnelref2_Lattice_Join.l1 kj12 a1 a2 x7_1 true (wrap64 (x9_3 + 1)) s0_0 s0_1)) = some r := H
            have A20 := Aside0.mk A200
            clear A200
            by_cases c21 : t106 = true
            ·subst c21
             have H1 : ((runnelref2_Lattice_Below.f s0_0 s0_1 x7_1 x9_3).bind fun t107 => (runnelref2_Lattice_Join.l1 kj12 a1 a2 x7_1 t107 (wrap64 (x9_3 + 1)) s0_0 s0_1)) = some r := by rw [if_pos rfl] at H; exact H
             clear H
             have H := H1
             clear H1
             replace H := Option.bind_eq_some_iff.mp H
             obtain ⟨t107, A220, H⟩ := H
             replace H : (runnelref2_Lattice_Join.l1 kj12 a1 a2 x7_1 t107 (wrap64 (x9_3 + 1)) s0_0 s0_1) = some r := H
             have A22 := Aside0.mk A220
             clear A220
             have H' := Aside0.mk H
             clear H
             go_wp2_with (first | ((with_reducible refine gate_callee (f := 26) rfl ?_); refine goesL_ (some 44) rfl rfl Tryz.func26 (by kernel_rfl) rfl #[.pointer (some ⟨g, 0, none⟩), .int .i64 a1, .int .i64 x9_3] rfl (by (try simp only [List.map_toArray, List.map_cons, List.map_nil]); first | done | rfl | (simp only [List.length_drop, List.length_take]; rfl)) ?_; (with_reducible refine (runnelref2_Lattice_Below.calls g s0_0 s0_1 a1 x9_3 true w0 _ ?side1 ?side2 A18.out).mono ?_); (case side1 => repeat (first | (with_reducible first | exact HI0.out | apply IsS44.alloc | apply IsS44.drewN | apply IsS44.drew) | exact HI0.out)); (case side2 => repeat (first | (with_reducible first | exact HB.out | apply below_alloc | apply pw_below_drewN | apply below_drew1 | refine below_set ?_ (IsS44.ge HI0.out)) | exact HB.out)); rintro e w23 ⟨rfl, hi, hb, hk⟩; refine ⟨_, rfl, ?_⟩; have n0_ := Aside0.mk (KeepBut.trans (by repeat (first | (with_reducible first | exact HK.out | apply KeepBut.set_ | apply keep_drewN | apply keep_drew | apply keep_alloc) | exact HK.out)) hk (.inl rfl)); have n1_ := Aside0.mk (hb); have n2_ := Aside0.mk (hi); clear HK; clear HB; clear HI0; have HK := n0_; have HB := n1_; have HI0 := n2_; clear n0_ n1_ n2_; (try clear hb); (try clear hb2); (try clear hk); (try clear hi)) | (go_at_call 26; (with_reducible refine (runnelref2_Lattice_Below.calls g s0_0 s0_1 a2 x9_3 true w0 _ ?side1 ?side2 A20.out).mono ?_); (case side1 => repeat (first | (with_reducible first | exact HI0.out | apply IsS44.alloc | apply IsS44.drewN | apply IsS44.drew) | exact HI0.out)); (case side2 => repeat (first | (with_reducible first | exact HB.out | apply below_alloc | apply pw_below_drewN | apply below_drew1 | refine below_set ?_ (IsS44.ge HI0.out)) | exact HB.out)); rintro e w24 ⟨rfl, hi, hb, hk⟩; have n0_ := Aside0.mk (KeepBut.trans (by repeat (first | (with_reducible first | exact HK.out | apply KeepBut.set_ | apply keep_drewN | apply keep_drew | apply keep_alloc) | exact HK.out)) hk (.inl rfl)); have n1_ := Aside0.mk (hb); have n2_ := Aside0.mk (hi); clear HK; clear HB; clear HI0; have HK := n0_; have HB := n1_; have HI0 := n2_; clear n0_ n1_ n2_; (try clear hb); (try clear hb2); (try clear hk); (try clear hi)) | (go_at_call 26; (with_reducible refine (runnelref2_Lattice_Below.calls g s0_0 s0_1 x7_1 x9_3 t107 w0 _ ?side1 ?side2 A22.out).mono ?_); (case side1 => repeat (first | (with_reducible first | exact HI0.out | apply IsS44.alloc | apply IsS44.drewN | apply IsS44.drew) | exact HI0.out)); (case side2 => repeat (first | (with_reducible first | exact HB.out | apply below_alloc | apply pw_below_drewN | apply below_drew1 | refine below_set ?_ (IsS44.ge HI0.out)) | exact HB.out)); rintro e w25 ⟨rfl, hi, hb, hk⟩; have n0_ := Aside0.mk (KeepBut.trans (by repeat (first | (with_reducible first | exact HK.out | apply KeepBut.set_ | apply keep_drewN | apply keep_drew | apply keep_alloc) | exact HK.out)) hk (.inl rfl)); have n1_ := Aside0.mk (hb); have n2_ := Aside0.mk (hi); clear HK; clear HB; clear HI0; have HK := n0_; have HB := n1_; have HI0 := n2_; clear n0_ n1_ n2_; (try clear hb); (try clear hb2); (try clear hk); (try clear hi)))
             go_roundg kj12
             case measure => have := HK1.out; have := HJ4.out; have := HK3.out; have := HJ12.out; omega
             case rel => exact ⟨(t107), (wrap64 (x9_3 + 1)), (by first | rfl | (simp; done) | (simp [*]; done)), (by first | rfl | (simp; done) | (simp [*]; done)), H', ⟨by have := HK1.out; have := HJ4.out; have := HK3.out; have := HJ12.out; omega⟩, ⟨by repeat (first | (with_reducible first | exact HI0.out | apply IsS44.alloc | apply IsS44.drewN | apply IsS44.drew) | exact HI0.out)⟩, ⟨by repeat (first | (with_reducible first | exact HK.out | apply KeepBut.set_ | apply keep_drewN | apply keep_drew | apply keep_alloc) | exact HK.out)⟩, ⟨by repeat (first | (with_reducible first | exact HB.out | apply below_alloc | apply pw_below_drewN | apply below_drew1 | refine below_set ?_ (IsS44.ge HI0.out)) | exact HB.out)⟩⟩
            ·replace c21 := Bool.eq_false_iff.mpr c21
             subst c21
             have H1 : (runnelref2_Lattice_Join.l1 kj12 a1 a2 x7_1 true (wrap64 (x9_3 + 1)) s0_0 s0_1) = some r := by rw [if_neg (show ¬ (false = true) by decide)] at H; exact H
             clear H
             have H := H1
             clear H1
             have H' := Aside0.mk H
             clear H
             go_wp2_with (first | ((with_reducible refine gate_callee (f := 26) rfl ?_); refine goesL_ (some 44) rfl rfl Tryz.func26 (by kernel_rfl) rfl #[.pointer (some ⟨g, 0, none⟩), .int .i64 a1, .int .i64 x9_3] rfl (by (try simp only [List.map_toArray, List.map_cons, List.map_nil]); first | done | rfl | (simp only [List.length_drop, List.length_take]; rfl)) ?_; (with_reducible refine (runnelref2_Lattice_Below.calls g s0_0 s0_1 a1 x9_3 true w0 _ ?side1 ?side2 A18.out).mono ?_); (case side1 => repeat (first | (with_reducible first | exact HI0.out | apply IsS44.alloc | apply IsS44.drewN | apply IsS44.drew) | exact HI0.out)); (case side2 => repeat (first | (with_reducible first | exact HB.out | apply below_alloc | apply pw_below_drewN | apply below_drew1 | refine below_set ?_ (IsS44.ge HI0.out)) | exact HB.out)); rintro e w26 ⟨rfl, hi, hb, hk⟩; refine ⟨_, rfl, ?_⟩; have n0_ := Aside0.mk (KeepBut.trans (by repeat (first | (with_reducible first | exact HK.out | apply KeepBut.set_ | apply keep_drewN | apply keep_drew | apply keep_alloc) | exact HK.out)) hk (.inl rfl)); have n1_ := Aside0.mk (hb); have n2_ := Aside0.mk (hi); clear HK; clear HB; clear HI0; have HK := n0_; have HB := n1_; have HI0 := n2_; clear n0_ n1_ n2_; (try clear hb); (try clear hb2); (try clear hk); (try clear hi)) | (go_at_call 26; (with_reducible refine (runnelref2_Lattice_Below.calls g s0_0 s0_1 a2 x9_3 false w0 _ ?side1 ?side2 A20.out).mono ?_); (case side1 => repeat (first | (with_reducible first | exact HI0.out | apply IsS44.alloc | apply IsS44.drewN | apply IsS44.drew) | exact HI0.out)); (case side2 => repeat (first | (with_reducible first | exact HB.out | apply below_alloc | apply pw_below_drewN | apply below_drew1 | refine below_set ?_ (IsS44.ge HI0.out)) | exact HB.out)); rintro e w27 ⟨rfl, hi, hb, hk⟩; have n0_ := Aside0.mk (KeepBut.trans (by repeat (first | (with_reducible first | exact HK.out | apply KeepBut.set_ | apply keep_drewN | apply keep_drew | apply keep_alloc) | exact HK.out)) hk (.inl rfl)); have n1_ := Aside0.mk (hb); have n2_ := Aside0.mk (hi); clear HK; clear HB; clear HI0; have HK := n0_; have HB := n1_; have HI0 := n2_; clear n0_ n1_ n2_; (try clear hb); (try clear hb2); (try clear hk); (try clear hi)))
             go_roundg kj12
             case measure => have := HK1.out; have := HJ4.out; have := HK3.out; have := HJ12.out; omega
             case rel => exact ⟨(true), (wrap64 (x9_3 + 1)), (by first | rfl | (simp; done) | (simp [*]; done)), (by first | rfl | (simp; done) | (simp [*]; done)), H', ⟨by have := HK1.out; have := HJ4.out; have := HK3.out; have := HJ12.out; omega⟩, ⟨by repeat (first | (with_reducible first | exact HI0.out | apply IsS44.alloc | apply IsS44.drewN | apply IsS44.drew) | exact HI0.out)⟩, ⟨by repeat (first | (with_reducible first | exact HK.out | apply KeepBut.set_ | apply keep_drewN | apply keep_drew | apply keep_alloc) | exact HK.out)⟩, ⟨by repeat (first | (with_reducible first | exact HB.out | apply below_alloc | apply pw_below_drewN | apply below_drew1 | refine below_set ?_ (IsS44.ge HI0.out)) | exact HB.out)⟩⟩
           ·replace c19 := Bool.eq_false_iff.mpr c19
            subst c19
            have H1 : (runnelref2_Lattice_Join.l1 kj12 a1 a2 x7_1 true (wrap64 (x9_3 + 1)) s0_0 s0_1) = some r := by rw [if_neg (show ¬ (false = true) by decide)] at H; exact H
            clear H
            have H := H1
            clear H1
            have H' := Aside0.mk H
            clear H
            go_wp2_with (first | ((with_reducible refine gate_callee (f := 26) rfl ?_); refine goesL_ (some 44) rfl rfl Tryz.func26 (by kernel_rfl) rfl #[.pointer (some ⟨g, 0, none⟩), .int .i64 a1, .int .i64 x9_3] rfl (by (try simp only [List.map_toArray, List.map_cons, List.map_nil]); first | done | rfl | (simp only [List.length_drop, List.length_take]; rfl)) ?_; (with_reducible refine (runnelref2_Lattice_Below.calls g s0_0 s0_1 a1 x9_3 false w0 _ ?side1 ?side2 A18.out).mono ?_); (case side1 => repeat (first | (with_reducible first | exact HI0.out | apply IsS44.alloc | apply IsS44.drewN | apply IsS44.drew) | exact HI0.out)); (case side2 => repeat (first | (with_reducible first | exact HB.out | apply below_alloc | apply pw_below_drewN | apply below_drew1 | refine below_set ?_ (IsS44.ge HI0.out)) | exact HB.out)); rintro e w28 ⟨rfl, hi, hb, hk⟩; refine ⟨_, rfl, ?_⟩; have n0_ := Aside0.mk (KeepBut.trans (by repeat (first | (with_reducible first | exact HK.out | apply KeepBut.set_ | apply keep_drewN | apply keep_drew | apply keep_alloc) | exact HK.out)) hk (.inl rfl)); have n1_ := Aside0.mk (hb); have n2_ := Aside0.mk (hi); clear HK; clear HB; clear HI0; have HK := n0_; have HB := n1_; have HI0 := n2_; clear n0_ n1_ n2_; (try clear hb); (try clear hb2); (try clear hk); (try clear hi)))
            go_roundg kj12
            case measure => have := HK1.out; have := HJ4.out; have := HK3.out; have := HJ12.out; omega
            case rel => exact ⟨(true), (wrap64 (x9_3 + 1)), (by first | rfl | (simp; done) | (simp [*]; done)), (by first | rfl | (simp; done) | (simp [*]; done)), H', ⟨by have := HK1.out; have := HJ4.out; have := HK3.out; have := HJ12.out; omega⟩, ⟨by repeat (first | (with_reducible first | exact HI0.out | apply IsS44.alloc | apply IsS44.drewN | apply IsS44.drew) | exact HI0.out)⟩, ⟨by repeat (first | (with_reducible first | exact HK.out | apply KeepBut.set_ | apply keep_drewN | apply keep_drew | apply keep_alloc) | exact HK.out)⟩, ⟨by repeat (first | (with_reducible first | exact HB.out | apply below_alloc | apply pw_below_drewN | apply below_drew1 | refine below_set ?_ (IsS44.ge HI0.out)) | exact HB.out)⟩⟩
          ·replace c17 := Bool.eq_false_iff.mpr c17
           subst c17
           have H1 : (if x8_3 = true then (some x7_1) else (runnelref2_Lattice_Join.l0 kj12 a1 a2 (wrap64 (x7_1 + 1)) s0_0 s0_1)) = some r := by rw [if_neg (show ¬ (false = true) by decide)] at H; exact H
           clear H
           have H := H1
           clear H1
           by_cases c29 : x8_3 = true
           ·subst c29
            have H1 : (some x7_1) = some r := by rw [if_pos rfl] at H; exact H
            clear H
            have H := H1
            clear H1
            obtain rfl := Option.some.inj H
            go_wp2
            go_ret
            exact ⟨by first | rfl | (simp [errW_none, errW_some] <;> rfl) | (simp [*, errW_none, errW_some] <;> rfl), by repeat (first | (with_reducible first | exact HI0.out | apply IsS44.alloc | apply IsS44.drewN | apply IsS44.drew) | exact HI0.out), by repeat (first | (with_reducible first | exact HB.out | apply below_alloc | apply pw_below_drewN | apply below_drew1 | refine below_set ?_ (IsS44.ge HI0.out)) | exact HB.out), by repeat (first | (with_reducible first | exact HK.out | apply KeepBut.set_ | apply keep_drewN | apply keep_drew | apply keep_alloc) | exact HK.out)⟩
           ·replace c29 := Bool.eq_false_iff.mpr c29
            subst c29
            have H1 : (runnelref2_Lattice_Join.l0 kj12 a1 a2 (wrap64 (x7_1 + 1)) s0_0 s0_1) = some r := by rw [if_neg (show ¬ (false = true) by decide)] at H; exact H
            clear H
            have H := H1
            clear H1
            have H' := Aside0.mk H
            clear H
            go_wp2
            go_roundg kj12
            case measure => have := HK1.out; have := HJ4.out; have := HK3.out; have := HJ12.out; omega
            case rel => exact ⟨(wrap64 (x7_1 + 1)), (by first | rfl | (simp; done) | (simp [*]; done)), H', ⟨by have := HK1.out; have := HJ4.out; have := HK3.out; have := HJ12.out; omega⟩, ⟨by repeat (first | (with_reducible first | exact HI0.out | apply IsS44.alloc | apply IsS44.drewN | apply IsS44.drew) | exact HI0.out)⟩, ⟨by repeat (first | (with_reducible first | exact HK.out | apply KeepBut.set_ | apply keep_drewN | apply keep_drew | apply keep_alloc) | exact HK.out)⟩, ⟨by repeat (first | (with_reducible first | exact HB.out | apply below_alloc | apply pw_below_drewN | apply below_drew1 | refine below_set ?_ (IsS44.ge HI0.out)) | exact HB.out)⟩⟩
   ·rw [if_neg c4] at H
    have c4b0 : decide (x7_1 < (s0_0.length : Int)) = false := decide_eq_false c4
    clear c4
    obtain rfl := Option.some.inj H
    obtain ⟨ASz30_0, cSz30_0, ASz30_1, cSz30_1, HGz30, hgz30, HSz30_0, HSz30_1⟩ := HI0.out
    have hcz30_0 := cellS44_0 HGz30
    have hcz30_1 := cellS44_1 HGz30
    clear HGz30 hgz30
    go_wp2
    go_ret
    exact ⟨by first | rfl | (simp [errW_none, errW_some] <;> rfl) | (simp [*, errW_none, errW_some] <;> rfl), by repeat (first | (with_reducible first | exact HI0.out | apply IsS44.alloc | apply IsS44.drewN | apply IsS44.drew) | exact HI0.out), by repeat (first | (with_reducible first | exact HB.out | apply below_alloc | apply pw_below_drewN | apply below_drew1 | refine below_set ?_ (IsS44.ge HI0.out)) | exact HB.out), by repeat (first | (with_reducible first | exact HK.out | apply KeepBut.set_ | apply keep_drewN | apply keep_drew | apply keep_alloc) | exact HK.out)⟩

/-! ### runnelref2_Lattice_Meet: function 75 -/
mutual
def runnelref2_Lattice_Meet.l0 : Nat → Int → Int → Int → List ByteArray → List (List Bool) → Option (Int)
 | 0, _, _, _, _, _ => none
 | k + 1, x1, x2, x7, x1000, x1001 => if x7 < (x1000.length : Int) then ((runnelref2_Lattice_Below.f x1000 x1001 x7 x1).bind fun t108 => (if t108 = true then ((runnelref2_Lattice_Below.f x1000 x1001 x7 x2).bind fun t109 => (runnelref2_Lattice_Meet.j1 k x1 x2 x7 t109 x1000 x1001)) else (runnelref2_Lattice_Meet.j1 k x1 x2 x7 false x1000 x1001))) else (some (-1))
def runnelref2_Lattice_Meet.j1 : Nat → Int → Int → Int → Bool → List ByteArray → List (List Bool) → Option (Int)
 | 0, _, _, _, _, _, _ => none
 | k + 1, x1, x2, x7, x8, x1000, x1001 => runnelref2_Lattice_Meet.l1 k x1 x2 x7 x8 0 x1000 x1001
def runnelref2_Lattice_Meet.l1 : Nat → Int → Int → Int → Bool → Int → List ByteArray → List (List Bool) → Option (Int)
 | 0, _, _, _, _, _, _, _ => none
 | k + 1, x1, x2, x7, x8, x9, x1000, x1001 => if x9 < (x1000.length : Int) then (runnelref2_Lattice_Meet.j3 k x1 x2 x7 x8 x9 x8 x1000 x1001) else (runnelref2_Lattice_Meet.j3 k x1 x2 x7 x8 x9 false x1000 x1001)
def runnelref2_Lattice_Meet.j3 : Nat → Int → Int → Int → Bool → Int → Bool → List ByteArray → List (List Bool) → Option (Int)
 | 0, _, _, _, _, _, _, _, _ => none
 | k + 1, x1, x2, x7, x8, x9, x38, x1000, x1001 => if x38 = true then ((runnelref2_Lattice_Below.f x1000 x1001 x9 x1).bind fun t110 => (if t110 = true then ((runnelref2_Lattice_Below.f x1000 x1001 x9 x2).bind fun t111 => (if t111 = true then ((runnelref2_Lattice_Below.f x1000 x1001 x9 x7).bind fun t112 => (runnelref2_Lattice_Meet.l1 k x1 x2 x7 t112 (wrap64 (x9 + 1)) x1000 x1001)) else (runnelref2_Lattice_Meet.l1 k x1 x2 x7 true (wrap64 (x9 + 1)) x1000 x1001))) else (runnelref2_Lattice_Meet.l1 k x1 x2 x7 true (wrap64 (x9 + 1)) x1000 x1001))) else (if x8 = true then (some x7) else (runnelref2_Lattice_Meet.l0 k x1 x2 (wrap64 (x7 + 1)) x1000 x1001))
end
def runnelref2_Lattice_Meet.f (k : Nat) (s0_0 : List ByteArray) (s0_1 : List (List Bool)) (a1 : Int) (a2 : Int) : Option (Int) := runnelref2_Lattice_Meet.l0 k a1 a2 0 s0_0 s0_1
theorem runnelref2_Lattice_Meet.mono_l : ∀ k, (∀ y0 y1 y2 y3 y4, LeO (runnelref2_Lattice_Meet.l0 k y0 y1 y2 y3 y4) (runnelref2_Lattice_Meet.l0 (k + 1) y0 y1 y2 y3 y4)) ∧ (∀ y0 y1 y2 y3 y4 y5, LeO (runnelref2_Lattice_Meet.j1 k y0 y1 y2 y3 y4 y5) (runnelref2_Lattice_Meet.j1 (k + 1) y0 y1 y2 y3 y4 y5)) ∧ (∀ y0 y1 y2 y3 y4 y5 y6, LeO (runnelref2_Lattice_Meet.l1 k y0 y1 y2 y3 y4 y5 y6) (runnelref2_Lattice_Meet.l1 (k + 1) y0 y1 y2 y3 y4 y5 y6)) ∧ (∀ y0 y1 y2 y3 y4 y5 y6 y7, LeO (runnelref2_Lattice_Meet.j3 k y0 y1 y2 y3 y4 y5 y6 y7) (runnelref2_Lattice_Meet.j3 (k + 1) y0 y1 y2 y3 y4 y5 y6 y7))
 | 0 => ⟨fun _ _ _ _ _ r h => by simp [runnelref2_Lattice_Meet.l0] at h, fun _ _ _ _ _ _ r h => by simp [runnelref2_Lattice_Meet.j1] at h, fun _ _ _ _ _ _ _ r h => by simp [runnelref2_Lattice_Meet.l1] at h, fun _ _ _ _ _ _ _ _ r h => by simp [runnelref2_Lattice_Meet.j3] at h⟩
 | k + 1 => by
  obtain ⟨ih0, ih1, ih2, ih3⟩ := runnelref2_Lattice_Meet.mono_l k
  refine ⟨?_, ?_, ?_, ?_⟩
  ·intro y0 y1 y2 y3 y4
   unfold runnelref2_Lattice_Meet.l0
   repeat' first
   | (with_reducible exact ih0 _ _ _ _ _)
   | (with_reducible exact ih1 _ _ _ _ _ _)
   | (with_reducible exact ih2 _ _ _ _ _ _ _)
   | (with_reducible exact ih3 _ _ _ _ _ _ _ _)
   | (with_reducible exact LeO.refl _)
   | (with_reducible exact LeO.none _)
   | (with_reducible refine LeO.ite ?_ ?_)
   | (with_reducible refine LeO.bind ?_ (fun _ => ?_))
   | exact ih0 _ _ _ _ _
   | exact ih1 _ _ _ _ _ _
   | exact ih2 _ _ _ _ _ _ _
   | exact ih3 _ _ _ _ _ _ _ _
   | exact LeO.none _
   | refine LeO.ite ?_ ?_
   | refine LeO.bind ?_ (fun _ => ?_)
  ·intro y0 y1 y2 y3 y4 y5
   unfold runnelref2_Lattice_Meet.j1
   repeat' first
   | (with_reducible exact ih0 _ _ _ _ _)
   | (with_reducible exact ih1 _ _ _ _ _ _)
   | (with_reducible exact ih2 _ _ _ _ _ _ _)
   | (with_reducible exact ih3 _ _ _ _ _ _ _ _)
   | (with_reducible exact LeO.refl _)
   | (with_reducible exact LeO.none _)
   | (with_reducible refine LeO.ite ?_ ?_)
   | (with_reducible refine LeO.bind ?_ (fun _ => ?_))
   | exact ih0 _ _ _ _ _
   | exact ih1 _ _ _ _ _ _
   | exact ih2 _ _ _ _ _ _ _
   | exact ih3 _ _ _ _ _ _ _ _
   | exact LeO.none _
   | refine LeO.ite ?_ ?_
   | refine LeO.bind ?_ (fun _ => ?_)
  ·intro y0 y1 y2 y3 y4 y5 y6
   unfold runnelref2_Lattice_Meet.l1
   repeat' first
   | (with_reducible exact ih0 _ _ _ _ _)
   | (with_reducible exact ih1 _ _ _ _ _ _)
   | (with_reducible exact ih2 _ _ _ _ _ _ _)
   | (with_reducible exact ih3 _ _ _ _ _ _ _ _)
   | (with_reducible exact LeO.refl _)
   | (with_reducible exact LeO.none _)
   | (with_reducible refine LeO.ite ?_ ?_)
   | (with_reducible refine LeO.bind ?_ (fun _ => ?_))
   | exact ih0 _ _ _ _ _
   | exact ih1 _ _ _ _ _ _
   | exact ih2 _ _ _ _ _ _ _
   | exact ih3 _ _ _ _ _ _ _ _
   | exact LeO.none _
   | refine LeO.ite ?_ ?_
   | refine LeO.bind ?_ (fun _ => ?_)
  ·intro y0 y1 y2 y3 y4 y5 y6 y7
   unfold runnelref2_Lattice_Meet.j3
   repeat' first
   | (with_reducible exact ih0 _ _ _ _ _)
   | (with_reducible exact ih1 _ _ _ _ _ _)
   | (with_reducible exact ih2 _ _ _ _ _ _ _)
   | (with_reducible exact ih3 _ _ _ _ _ _ _ _)
   | (with_reducible exact LeO.refl _)
   | (with_reducible exact LeO.none _)
   | (with_reducible refine LeO.ite ?_ ?_)
   | (with_reducible refine LeO.bind ?_ (fun _ => ?_))
   | exact ih0 _ _ _ _ _
   | exact ih1 _ _ _ _ _ _
   | exact ih2 _ _ _ _ _ _ _
   | exact ih3 _ _ _ _ _ _ _ _
   | exact LeO.none _
   | refine LeO.ite ?_ ?_
   | refine LeO.bind ?_ (fun _ => ?_)
theorem runnelref2_Lattice_Meet.mono : ∀ a0 a1 a2 a3 k, LeO (runnelref2_Lattice_Meet.f k a0 a1 a2 a3) (runnelref2_Lattice_Meet.f (k + 1) a0 a1 a2 a3) := by
 intro a0 a1 a2 a3 k
 obtain ⟨ih0, ih1, ih2, ih3⟩ := runnelref2_Lattice_Meet.mono_l k
 unfold runnelref2_Lattice_Meet.f
 repeat' first
   | (with_reducible exact ih0 _ _ _ _ _)
   | (with_reducible exact ih1 _ _ _ _ _ _)
   | (with_reducible exact ih2 _ _ _ _ _ _ _)
   | (with_reducible exact ih3 _ _ _ _ _ _ _ _)
   | (with_reducible exact LeO.refl _)
   | (with_reducible exact LeO.none _)
   | (with_reducible refine LeO.ite ?_ ?_)
   | (with_reducible refine LeO.bind ?_ (fun _ => ?_))
   | exact ih0 _ _ _ _ _
   | exact ih1 _ _ _ _ _ _
   | exact ih2 _ _ _ _ _ _ _
   | exact ih3 _ _ _ _ _ _ _ _
   | exact LeO.none _
   | refine LeO.ite ?_ ?_
   | refine LeO.bind ?_ (fun _ => ?_)
set_option maxHeartbeats 8000000 in
set_option maxRecDepth 100000 in
theorem runnelref2_Lattice_Meet.calls (k : Nat) (g : Nat) (s0_0 : List ByteArray) (s0_1 : List (List Bool)) (a1 : Int) (a2 : Int) (r : Int) (w0 w : World) (hI : IsS44 w0 w g s0_0 s0_1) (hB : Below w0.heap.size w0 w) (h : runnelref2_Lattice_Meet.f k s0_0 s0_1 a1 a2 = some r) :
  Calls Tryz.prog 75 #[.pointer (some ⟨g, 0, none⟩), .int .i64 a1, .int .i64 a2] w fun e w' => e = .returned (.int .i64 r) ∧ IsS44 w0 w' g s0_0 s0_1 ∧ Below w0.heap.size w0 w' ∧ KeepBut w w' g none := by
 have HI0 := Aside0.mk hI
 have HK := Aside0.mk (KeepBut.refl w g none)
 have HL := Aside0.mk hB.size
 clear hI
 have HW0 := Aside0.mk hB.size
 have HB := Aside0.mk hB
 clear hB
 have H : (runnelref2_Lattice_Meet.l0 k a1 a2 0 s0_0 s0_1) = some r := h
 clear h
 have H' := Aside0.mk H
 clear H
 go_enter Tryz.func75, Tryz.ntmps75
 go_wp2
 go_loopg [7] k (fun kq v7 w' => ∃ (x7_1 : Int), v7 = .int .i64 x7_1 ∧ Aside0 (runnelref2_Lattice_Meet.l0 kq a1 a2 x7_1 s0_0 s0_1 = some r) ∧ Aside0 (kq ≤ k) ∧ Aside0 (IsS44 w0 w' g s0_0 s0_1) ∧ Aside0 (KeepBut w w' g none) ∧ Aside0 (Below w0.heap.size w0 w'))
 case atStart => exact ⟨(0), (by first | rfl | (simp; done) | (simp [*]; done)), H', ⟨Nat.le_refl _⟩, ⟨by repeat (first | (with_reducible first | exact HI0.out | apply IsS44.alloc | apply IsS44.drewN | apply IsS44.drew) | exact HI0.out)⟩, ⟨by repeat (first | (with_reducible first | exact HK.out | apply KeepBut.set_ | apply keep_drewN | apply keep_drew | apply keep_alloc) | exact HK.out)⟩, ⟨by repeat (first | (with_reducible first | exact HB.out | apply below_alloc | apply pw_below_drewN | apply below_drew1 | refine below_set ?_ (IsS44.ge HI0.out)) | exact HB.out)⟩⟩
 case round =>
  clear H'
  try clear p2
  obtain ⟨x7_1, rfl, HA, HK1, HI0, HK, HB⟩ := hrel
  cases gk with
  | zero => exact absurd HA.out (by simp [runnelref2_Lattice_Meet.l0])
  | succ k1 =>
   have H := HA.out
   clear HA
   simp only [runnelref2_Lattice_Meet.l0] at H
   by_cases c4 : x7_1 < (s0_0.length : Int)
   ·rw [if_pos c4] at H
    have c4b0 : decide (x7_1 < (s0_0.length : Int)) = true := decide_eq_true c4
    clear c4
    have HC5 := Aside0.mk H
    clear H
    obtain ⟨ASz6_0, cSz6_0, ASz6_1, cSz6_1, HGz6, hgz6, HSz6_0, HSz6_1⟩ := HI0.out
    have hcz6_0 := cellS44_0 HGz6
    have hcz6_1 := cellS44_1 HGz6
    clear HGz6 hgz6
    go_upto_region 4 with (fail)
    go_cut [8] (fun v8 wc => ∃ (kq : Nat) (x8_4 : Bool), v8 = .bool x8_4 ∧ Aside0 (runnelref2_Lattice_Meet.j1 kq a1 a2 x7_1 x8_4 s0_0 s0_1 = some r) ∧ Aside0 (kq ≤ k1) ∧ Aside0 (IsS44 w0 wc g s0_0 s0_1) ∧ Aside0 (KeepBut w wc g none) ∧ Aside0 (Below w0.heap.size w0 wc))
    case first =>
     have H := HC5.out
     clear HC5
     replace H := Option.bind_eq_some_iff.mp H
     obtain ⟨t108, A70, H⟩ := H
     replace H : (if t108 = true then ((runnelref2_Lattice_Below.f s0_0 s0_1 x7_1 a2).bind fun t109 => (runnelref2_Lattice_Meet.j1 k1 a1 a2 x7_1 t109 s0_0 s0_1)) else (runnelref2_Lattice_Meet.j1 k1 a1 a2 x7_1 false s0_0 s0_1)) = some r := H
     have A7 := Aside0.mk A70
     clear A70
     by_cases c8 : t108 = true
     ·subst c8
      have H1 : ((runnelref2_Lattice_Below.f s0_0 s0_1 x7_1 a2).bind fun t109 => (runnelref2_Lattice_Meet.j1 k1 a1 a2 x7_1 t109 s0_0 s0_1)) = some r := by rw [if_pos rfl] at H; exact H
      clear H
      have H := H1
      clear H1
      replace H := Option.bind_eq_some_iff.mp H
      obtain ⟨t109, A90, H⟩ := H
      replace H : (runnelref2_Lattice_Meet.j1 k1 a1 a2 x7_1 t109 s0_0 s0_1) = some r := H
      have A9 := Aside0.mk A90
      clear A90
      have H' := Aside0.mk H
      clear H
      go_wp2_with (first | ((with_reducible refine gate_callee (f := 26) rfl ?_); refine goesL_ (some 22) rfl rfl Tryz.func26 (by kernel_rfl) rfl #[.pointer (some ⟨g, 0, none⟩), .int .i64 x7_1, .int .i64 a1] rfl (by (try simp only [List.map_toArray, List.map_cons, List.map_nil]); first | done | rfl | (simp only [List.length_drop, List.length_take]; rfl)) ?_; (with_reducible refine (runnelref2_Lattice_Below.calls g s0_0 s0_1 x7_1 a1 true w0 _ ?side1 ?side2 A7.out).mono ?_); (case side1 => repeat (first | (with_reducible first | exact HI0.out | apply IsS44.alloc | apply IsS44.drewN | apply IsS44.drew) | exact HI0.out)); (case side2 => repeat (first | (with_reducible first | exact HB.out | apply below_alloc | apply pw_below_drewN | apply below_drew1 | refine below_set ?_ (IsS44.ge HI0.out)) | exact HB.out)); rintro e w10 ⟨rfl, hi, hb, hk⟩; refine ⟨_, rfl, ?_⟩; have n0_ := Aside0.mk (KeepBut.trans (by repeat (first | (with_reducible first | exact HK.out | apply KeepBut.set_ | apply keep_drewN | apply keep_drew | apply keep_alloc) | exact HK.out)) hk (.inl rfl)); have n1_ := Aside0.mk (hb); have n2_ := Aside0.mk (hi); clear HK; clear HB; clear HI0; have HK := n0_; have HB := n1_; have HI0 := n2_; clear n0_ n1_ n2_; (try clear hb); (try clear hb2); (try clear hk); (try clear hi)) | (go_at_call 26; (with_reducible refine (runnelref2_Lattice_Below.calls g s0_0 s0_1 x7_1 a2 t109 w0 _ ?side1 ?side2 A9.out).mono ?_); (case side1 => repeat (first | (with_reducible first | exact HI0.out | apply IsS44.alloc | apply IsS44.drewN | apply IsS44.drew) | exact HI0.out)); (case side2 => repeat (first | (with_reducible first | exact HB.out | apply below_alloc | apply pw_below_drewN | apply below_drew1 | refine below_set ?_ (IsS44.ge HI0.out)) | exact HB.out)); rintro e w11 ⟨rfl, hi, hb, hk⟩; have n0_ := Aside0.mk (KeepBut.trans (by repeat (first | (with_reducible first | exact HK.out | apply KeepBut.set_ | apply keep_drewN | apply keep_drew | apply keep_alloc) | exact HK.out)) hk (.inl rfl)); have n1_ := Aside0.mk (hb); have n2_ := Aside0.mk (hi); clear HK; clear HB; clear HI0; have HK := n0_; have HB := n1_; have HI0 := n2_; clear n0_ n1_ n2_; (try clear hb); (try clear hb2); (try clear hk); (try clear hi)))
      go_meet
      case rel => exact ⟨_, (t109), (by first | rfl | (simp; done) | (simp [*]; done)), H', ⟨by have := HK1.out; first | omega | exact Nat.le_refl _⟩, ⟨by repeat (first | (with_reducible first | exact HI0.out | apply IsS44.alloc | apply IsS44.drewN | apply IsS44.drew) | exact HI0.out)⟩, ⟨by repeat (first | (with_reducible first | exact HK.out | apply KeepBut.set_ | apply keep_drewN | apply keep_drew | apply keep_alloc) | exact HK.out)⟩, ⟨by repeat (first | (with_reducible first | exact HB.out | apply below_alloc | apply pw_below_drewN | apply below_drew1 | refine below_set ?_ (IsS44.ge HI0.out)) | exact HB.out)⟩⟩
     ·replace c8 := Bool.eq_false_iff.mpr c8
      subst c8
      have H1 : (runnelref2_Lattice_Meet.j1 k1 a1 a2 x7_1 false s0_0 s0_1) = some r := by rw [if_neg (show ¬ (false = true) by decide)] at H; exact H
      clear H
      have H := H1
      clear H1
      have H' := Aside0.mk H
      clear H
      go_wp2_with (first | ((with_reducible refine gate_callee (f := 26) rfl ?_); refine goesL_ (some 22) rfl rfl Tryz.func26 (by kernel_rfl) rfl #[.pointer (some ⟨g, 0, none⟩), .int .i64 x7_1, .int .i64 a1] rfl (by (try simp only [List.map_toArray, List.map_cons, List.map_nil]); first | done | rfl | (simp only [List.length_drop, List.length_take]; rfl)) ?_; (with_reducible refine (runnelref2_Lattice_Below.calls g s0_0 s0_1 x7_1 a1 false w0 _ ?side1 ?side2 A7.out).mono ?_); (case side1 => repeat (first | (with_reducible first | exact HI0.out | apply IsS44.alloc | apply IsS44.drewN | apply IsS44.drew) | exact HI0.out)); (case side2 => repeat (first | (with_reducible first | exact HB.out | apply below_alloc | apply pw_below_drewN | apply below_drew1 | refine below_set ?_ (IsS44.ge HI0.out)) | exact HB.out)); rintro e w12 ⟨rfl, hi, hb, hk⟩; refine ⟨_, rfl, ?_⟩; have n0_ := Aside0.mk (KeepBut.trans (by repeat (first | (with_reducible first | exact HK.out | apply KeepBut.set_ | apply keep_drewN | apply keep_drew | apply keep_alloc) | exact HK.out)) hk (.inl rfl)); have n1_ := Aside0.mk (hb); have n2_ := Aside0.mk (hi); clear HK; clear HB; clear HI0; have HK := n0_; have HB := n1_; have HI0 := n2_; clear n0_ n1_ n2_; (try clear hb); (try clear hb2); (try clear hk); (try clear hi)))
      go_meet
      case rel => exact ⟨_, (false), (by first | rfl | (simp; done) | (simp [*]; done)), H', ⟨by have := HK1.out; first | omega | exact Nat.le_refl _⟩, ⟨by repeat (first | (with_reducible first | exact HI0.out | apply IsS44.alloc | apply IsS44.drewN | apply IsS44.drew) | exact HI0.out)⟩, ⟨by repeat (first | (with_reducible first | exact HK.out | apply KeepBut.set_ | apply keep_drewN | apply keep_drew | apply keep_alloc) | exact HK.out)⟩, ⟨by repeat (first | (with_reducible first | exact HB.out | apply below_alloc | apply pw_below_drewN | apply below_drew1 | refine below_set ?_ (IsS44.ge HI0.out)) | exact HB.out)⟩⟩
    case rest =>
     clear HC5
     try clear c2
     try clear p2
     try clear c4
     try clear c4b0
     try clear c7
     try clear c8
     try clear hcz6_0
     try clear hcz6_1
     try clear p2
     obtain ⟨kq, x8_4, rfl, HA, HJ4, HI0, HK, HB⟩ := hcut
     cases kq with
     | zero => exact absurd HA.out (by simp [runnelref2_Lattice_Meet.j1])
     | succ kj4 =>
      have H := HA.out
      clear HA
      simp only [runnelref2_Lattice_Meet.j1] at H
      have H' := Aside0.mk H
      clear H
      go_wp2
      go_loopg [8, 9] kj4 (fun kq v8 v9 w' => ∃ (x8_3 : Bool) (x9_3 : Int), v8 = .bool x8_3 ∧ v9 = .int .i64 x9_3 ∧ Aside0 (runnelref2_Lattice_Meet.l1 kq a1 a2 x7_1 x8_3 x9_3 s0_0 s0_1 = some r) ∧ Aside0 (kq ≤ kj4) ∧ Aside0 (IsS44 w0 w' g s0_0 s0_1) ∧ Aside0 (KeepBut w w' g none) ∧ Aside0 (Below w0.heap.size w0 w'))
      case atStart => exact ⟨(x8_4), (0), (by first | rfl | (simp; done) | (simp [*]; done)), (by first | rfl | (simp; done) | (simp [*]; done)), H', ⟨Nat.le_refl _⟩, ⟨by repeat (first | (with_reducible first | exact HI0.out | apply IsS44.alloc | apply IsS44.drewN | apply IsS44.drew) | exact HI0.out)⟩, ⟨by repeat (first | (with_reducible first | exact HK.out | apply KeepBut.set_ | apply keep_drewN | apply keep_drew | apply keep_alloc) | exact HK.out)⟩, ⟨by repeat (first | (with_reducible first | exact HB.out | apply below_alloc | apply pw_below_drewN | apply below_drew1 | refine below_set ?_ (IsS44.ge HI0.out)) | exact HB.out)⟩⟩
      case round =>
       clear H'
       try clear c2
       try clear p2
       try clear c4
       try clear c4b0
       try clear c7
       try clear c8
       try clear hcz6_0
       try clear hcz6_1
       try clear p2
       obtain ⟨x8_3, x9_3, rfl, rfl, HA, HK3, HI0, HK, HB⟩ := hrel
       cases gk with
       | zero => exact absurd HA.out (by simp [runnelref2_Lattice_Meet.l1])
       | succ k3 =>
        have H := HA.out
        clear HA
        simp only [runnelref2_Lattice_Meet.l1] at H
        have HC13 := Aside0.mk H
        clear H
        go_upto_region 6 with (fail)
        go_cut [38] (fun v38 wc => ∃ (kq : Nat) (x38_12 : Bool), v38 = .bool x38_12 ∧ Aside0 (runnelref2_Lattice_Meet.j3 kq a1 a2 x7_1 x8_3 x9_3 x38_12 s0_0 s0_1 = some r) ∧ Aside0 (kq ≤ k3) ∧ Aside0 (IsS44 w0 wc g s0_0 s0_1) ∧ Aside0 (KeepBut w wc g none) ∧ Aside0 (Below w0.heap.size w0 wc))
        case first =>
         have H := HC13.out
         clear HC13
         by_cases c14 : x9_3 < (s0_0.length : Int)
         ·rw [if_pos c14] at H
          have c14b0 : decide (x9_3 < (s0_0.length : Int)) = true := decide_eq_true c14
          clear c14
          (first | rw [c14b0] | (simp only [i64_w, i32_w]; rw [c14b0]) | skip)
          have H' := Aside0.mk H
          clear H
          obtain ⟨ASz15_0, cSz15_0, ASz15_1, cSz15_1, HGz15, hgz15, HSz15_0, HSz15_1⟩ := HI0.out
          have hcz15_0 := cellS44_0 HGz15
          have hcz15_1 := cellS44_1 HGz15
          clear HGz15 hgz15
          go_wp2
          go_meet
          case rel => exact ⟨_, (x8_3), (by first | rfl | (simp; done) | (simp [*]; done)), H', ⟨by have := HK1.out; have := HJ4.out; have := HK3.out; first | omega | exact Nat.le_refl _⟩, ⟨by repeat (first | (with_reducible first | exact HI0.out | apply IsS44.alloc | apply IsS44.drewN | apply IsS44.drew) | exact HI0.out)⟩, ⟨by repeat (first | (with_reducible first | exact HK.out | apply KeepBut.set_ | apply keep_drewN | apply keep_drew | apply keep_alloc) | exact HK.out)⟩, ⟨by repeat (first | (with_reducible first | exact HB.out | apply below_alloc | apply pw_below_drewN | apply below_drew1 | refine below_set ?_ (IsS44.ge HI0.out)) | exact HB.out)⟩⟩
         ·rw [if_neg c14] at H
          have c14b0 : decide (x9_3 < (s0_0.length : Int)) = false := decide_eq_false c14
          clear c14
          (first | rw [c14b0] | (simp only [i64_w, i32_w]; rw [c14b0]) | skip)
          have H' := Aside0.mk H
          clear H
          obtain ⟨ASz16_0, cSz16_0, ASz16_1, cSz16_1, HGz16, hgz16, HSz16_0, HSz16_1⟩ := HI0.out
          have hcz16_0 := cellS44_0 HGz16
          have hcz16_1 := cellS44_1 HGz16
          clear HGz16 hgz16
          go_wp2
          go_meet
          case rel => exact ⟨_, (false), (by first | rfl | (simp; done) | (simp [*]; done)), H', ⟨by have := HK1.out; have := HJ4.out; have := HK3.out; first | omega | exact Nat.le_refl _⟩, ⟨by repeat (first | (with_reducible first | exact HI0.out | apply IsS44.alloc | apply IsS44.drewN | apply IsS44.drew) | exact HI0.out)⟩, ⟨by repeat (first | (with_reducible first | exact HK.out | apply KeepBut.set_ | apply keep_drewN | apply keep_drew | apply keep_alloc) | exact HK.out)⟩, ⟨by repeat (first | (with_reducible first | exact HB.out | apply below_alloc | apply pw_below_drewN | apply below_drew1 | refine below_set ?_ (IsS44.ge HI0.out)) | exact HB.out)⟩⟩
        case rest =>
         clear HC13
         try clear c1
         try clear c2
         try clear p2
         try clear c4
         try clear c4b0
         try clear c7
         try clear c8
         try clear c14
         try clear c14b0
         try clear hcz15_0
         try clear hcz15_1
         try clear hcz16_0
         try clear hcz16_1
         try clear hcz6_0
         try clear hcz6_1
         try clear p2
         obtain ⟨kq, x38_12, rfl, HA, HJ12, HI0, HK, HB⟩ := hcut
         cases kq with
         | zero => exact absurd HA.out (by simp [runnelref2_Lattice_Meet.j3])
         | succ kj12 =>
          have H := HA.out
          clear HA
          simp only [runnelref2_Lattice_Meet.j3] at H
          by_cases c17 : x38_12 = true
          ·subst c17
           have H1 : ((runnelref2_Lattice_Below.f s0_0 s0_1 x9_3 a1).bind fun t110 => (if t110 = true then ((runnelref2_Lattice_Below.f s0_0 s0_1 x9_3 a2).bind fun t111 => (if t111 = true then ((runnelref2_Lattice_Below.f s0_0 s0_1 x9_3 x7_1).bind fun t112 => (runnelref2_Lattice_Meet.l1 kj12 a1 a2 x7_1 t112 (wrap64 (x9_3 + 1)) s0_0 s0_1)) else (runnelref2_Lattice_Meet.l1 kj12 a1 a2 x7_1 true (wrap64 (x9_3 + 1)) s0_0 s0_1))) else (runnelref2_Lattice_Meet.l1 kj12 a1 a2 x7_1 true (wrap64 (x9_3 + 1)) s0_0 s0_1))) = some r := by rw [if_pos rfl] at H; exact H
           clear H
           have H := H1
           clear H1
           replace H := Option.bind_eq_some_iff.mp H
           obtain ⟨t110, A180, H⟩ := H
           replace H : (if t110 = true then ((runnelref2_Lattice_Below.f s0_0 s0_1 x9_3 a2).bind fun t111 => (if t111 = true then ((runnelref2_Lattice_Below.f s0_0 s0_1 x9_3 x7_1).bind fun t112 => (runnelref2_Lattice_Meet.l1 kj12 a1 a2 x7_1 t112 (wrap64 (x9_3 + 1)) s0_0 s0_1)) else (runnelref2_Lattice_Meet.l1 kj12 a1 a2 x7_1 true (wrap64 (x9_3 + 1)) s0_0 s0_1))) else (runnelref2_Lattice_Meet.l1 kj12 a1 a2 x7_1 true (wrap64 (x9_3 + 1)) s0_0 s0_1)) = some r := H
           have A18 := Aside0.mk A180
           clear A180
           by_cases c19 : t110 = true
           ·subst c19
            have H1 : ((runnelref2_Lattice_Below.f s0_0 s0_1 x9_3 a2).bind fun t111 => (if t111 = true then ((runnelref2_Lattice_Below.f s0_0 s0_1 x9_3 x7_1).bind fun t112 => (runnelref2_Lattice_Meet.l1 kj12 a1 a2 x7_1 t112 (wrap64 (x9_3 + 1)) s0_0 s0_1)) else (runnelref2_Lattice_Meet.l1 kj12 a1 a2 x7_1 true (wrap64 (x9_3 + 1)) s0_0 s0_1))) = some r := by rw [if_pos rfl] at H; exact H
            clear H
            have H := H1
            clear H1
            replace H := Option.bind_eq_some_iff.mp H
            obtain ⟨t111, A200, H⟩ := H
            replace H : (if t111 = true then ((runnelref2_Lattice_Below.f s0_0 s0_1 x9_3 x7_1).bind fun t112 => (runnelref2_Lattice_Meet.l1 kj12 a1 a2 x7_1 t112 (wrap64 (x9_3 + 1)) s0_0 s0_1)) else (runnelref2_Lattice_Meet.l1 kj12 a1 a2 x7_1 true (wrap64 (x9_3 + 1)) s0_0 s0_1)) = some r := H
            have A20 := Aside0.mk A200
            clear A200
            by_cases c21 : t111 = true
            ·subst c21
             have H1 : ((runnelref2_Lattice_Below.f s0_0 s0_1 x9_3 x7_1).bind fun t112 => (runnelref2_Lattice_Meet.l1 kj12 a1 a2 x7_1 t112 (wrap64 (x9_3 + 1)) s0_0 s0_1)) = some r := by rw [if_pos rfl] at H; exact H
             clear H
             have H := H1
             clear H1
             replace H := Option.bind_eq_some_iff.mp H
             obtain ⟨t112, A220, H⟩ := H
             replace H : (runnelref2_Lattice_Meet.l1 kj12 a1 a2 x7_1 t112 (wrap64 (x9_3 + 1)) s0_0 s0_1) = some r := H
             have A22 := Aside0.mk A220
             clear A220
             have H' := Aside0.mk H
             clear H
             go_wp2_with (first | ((with_reducible refine gate_callee (f := 26) rfl ?_); refine goesL_ (some 44) rfl rfl Tryz.func26 (by kernel_rfl) rfl #[.pointer (some ⟨g, 0, none⟩), .int .i64 x9_3, .int .i64 a1] rfl (by (try simp only [List.map_toArray, List.map_cons, List.map_nil]); first | done | rfl | (simp only [List.length_drop, List.length_take]; rfl)) ?_; (with_reducible refine (runnelref2_Lattice_Below.calls g s0_0 s0_1 x9_3 a1 true w0 _ ?side1 ?side2 A18.out).mono ?_); (case side1 => repeat (first | (with_reducible first | exact HI0.out | apply IsS44.alloc | apply IsS44.drewN | apply IsS44.drew) | exact HI0.out)); (case side2 => repeat (first | (with_reducible first | exact HB.out | apply below_alloc | apply pw_below_drewN | apply below_drew1 | refine below_set ?_ (IsS44.ge HI0.out)) | exact HB.out)); rintro e w23 ⟨rfl, hi, hb, hk⟩; refine ⟨_, rfl, ?_⟩; have n0_ := Aside0.mk (KeepBut.trans (by repeat (first | (with_reducible first | exact HK.out | apply KeepBut.set_ | apply keep_drewN | apply keep_drew | apply keep_alloc) | exact HK.out)) hk (.inl rfl)); have n1_ := Aside0.mk (hb); have n2_ := Aside0.mk (hi); clear HK; clear HB; clear HI0; have HK := n0_; have HB := n1_; have HI0 := n2_; clear n0_ n1_ n2_; (try clear hb); (try clear hb2); (try clear hk); (try clear hi)) | (go_at_call 26; (with_reducible refine (runnelref2_Lattice_Below.calls g s0_0 s0_1 x9_3 a2 true w0 _ ?side1 ?side2 A20.out).mono ?_); (case side1 => repeat (first | (with_reducible first | exact HI0.out | apply IsS44.alloc | apply IsS44.drewN | apply IsS44.drew) | exact HI0.out)); (case side2 => repeat (first | (with_reducible first | exact HB.out | apply below_alloc | apply pw_below_drewN | apply below_drew1 | refine below_set ?_ (IsS44.ge HI0.out)) | exact HB.out)); rintro e w24 ⟨rfl, hi, hb, hk⟩; have n0_ := Aside0.mk (KeepBut.trans (by repeat (first | (with_reducible first | exact HK.out | apply KeepBut.set_ | apply keep_drewN | apply keep_drew | apply keep_alloc) | exact HK.out)) hk (.inl rfl)); have n1_ := Aside0.mk (hb); have n2_ := Aside0.mk (hi); clear HK; clear HB; clear HI0; have HK := n0_; have HB := n1_; have HI0 := n2_; clear n0_ n1_ n2_; (try clear hb); (try clear hb2); (try clear hk); (try clear hi)) | (go_at_call 26; (with_reducible refine (runnelref2_Lattice_Below.calls g s0_0 s0_1 x9_3 x7_1 t112 w0 _ ?side1 ?side2 A22.out).mono ?_); (case side1 => repeat (first | (with_reducible first | exact HI0.out | apply IsS44.alloc | apply IsS44.drewN | apply IsS44.drew) | exact HI0.out)); (case side2 => repeat (first | (with_reducible first | exact HB.out | apply below_alloc | apply pw_below_drewN | apply below_drew1 | refine below_set ?_ (IsS44.ge HI0.out)) | exact HB.out)); rintro e w25 ⟨rfl, hi, hb, hk⟩; have n0_ := Aside0.mk (KeepBut.trans (by repeat (first | (with_reducible first | exact HK.out | apply KeepBut.set_ | apply keep_drewN | apply keep_drew | apply keep_alloc) | exact HK.out)) hk (.inl rfl)); have n1_ := Aside0.mk (hb); have n2_ := Aside0.mk (hi); clear HK; clear HB; clear HI0; have HK := n0_; have HB := n1_; have HI0 := n2_; clear n0_ n1_ n2_; (try clear hb); (try clear hb2); (try clear hk); (try clear hi)))
             go_roundg kj12
             case measure => have := HK1.out; have := HJ4.out; have := HK3.out; have := HJ12.out; omega
             case rel => exact ⟨(t112), (wrap64 (x9_3 + 1)), (by first | rfl | (simp; done) | (simp [*]; done)), (by first | rfl | (simp; done) | (simp [*]; done)), H', ⟨by have := HK1.out; have := HJ4.out; have := HK3.out; have := HJ12.out; omega⟩, ⟨by repeat (first | (with_reducible first | exact HI0.out | apply IsS44.alloc | apply IsS44.drewN | apply IsS44.drew) | exact HI0.out)⟩, ⟨by repeat (first | (with_reducible first | exact HK.out | apply KeepBut.set_ | apply keep_drewN | apply keep_drew | apply keep_alloc) | exact HK.out)⟩, ⟨by repeat (first | (with_reducible first | exact HB.out | apply below_alloc | apply pw_below_drewN | apply below_drew1 | refine below_set ?_ (IsS44.ge HI0.out)) | exact HB.out)⟩⟩
            ·replace c21 := Bool.eq_false_iff.mpr c21
             subst c21
             have H1 : (runnelref2_Lattice_Meet.l1 kj12 a1 a2 x7_1 true (wrap64 (x9_3 + 1)) s0_0 s0_1) = some r := by rw [if_neg (show ¬ (false = true) by decide)] at H; exact H
             clear H
             have H := H1
             clear H1
             have H' := Aside0.mk H
             clear H
             go_wp2_with (first | ((with_reducible refine gate_callee (f := 26) rfl ?_); refine goesL_ (some 44) rfl rfl Tryz.func26 (by kernel_rfl) rfl #[.pointer (some ⟨g, 0, none⟩), .int .i64 x9_3, .int .i64 a1] rfl (by (try simp only [List.map_toArray, List.map_cons, List.map_nil]); first | done | rfl | (simp only [List.length_drop, List.length_take]; rfl)) ?_; (with_reducible refine (runnelref2_Lattice_Below.calls g s0_0 s0_1 x9_3 a1 true w0 _ ?side1 ?side2 A18.out).mono ?_); (case side1 => repeat (first | (with_reducible first | exact HI0.out | apply IsS44.alloc | apply IsS44.drewN | apply IsS44.drew) | exact HI0.out)); (case side2 => repeat (first | (with_reducible first | exact HB.out | apply below_alloc | apply pw_below_drewN | apply below_drew1 | refine below_set ?_ (IsS44.ge HI0.out)) | exact HB.out)); rintro e w26 ⟨rfl, hi, hb, hk⟩; refine ⟨_, rfl, ?_⟩; have n0_ := Aside0.mk (KeepBut.trans (by repeat (first | (with_reducible first | exact HK.out | apply KeepBut.set_ | apply keep_drewN | apply keep_drew | apply keep_alloc) | exact HK.out)) hk (.inl rfl)); have n1_ := Aside0.mk (hb); have n2_ := Aside0.mk (hi); clear HK; clear HB; clear HI0; have HK := n0_; have HB := n1_; have HI0 := n2_; clear n0_ n1_ n2_; (try clear hb); (try clear hb2); (try clear hk); (try clear hi)) | (go_at_call 26; (with_reducible refine (runnelref2_Lattice_Below.calls g s0_0 s0_1 x9_3 a2 false w0 _ ?side1 ?side2 A20.out).mono ?_); (case side1 => repeat (first | (with_reducible first | exact HI0.out | apply IsS44.alloc | apply IsS44.drewN | apply IsS44.drew) | exact HI0.out)); (case side2 => repeat (first | (with_reducible first | exact HB.out | apply below_alloc | apply pw_below_drewN | apply below_drew1 | refine below_set ?_ (IsS44.ge HI0.out)) | exact HB.out)); rintro e w27 ⟨rfl, hi, hb, hk⟩; have n0_ := Aside0.mk (KeepBut.trans (by repeat (first | (with_reducible first | exact HK.out | apply KeepBut.set_ | apply keep_drewN | apply keep_drew | apply keep_alloc) | exact HK.out)) hk (.inl rfl)); have n1_ := Aside0.mk (hb); have n2_ := Aside0.mk (hi); clear HK; clear HB; clear HI0; have HK := n0_; have HB := n1_; have HI0 := n2_; clear n0_ n1_ n2_; (try clear hb); (try clear hb2); (try clear hk); (try clear hi)))
             go_roundg kj12
             case measure => have := HK1.out; have := HJ4.out; have := HK3.out; have := HJ12.out; omega
             case rel => exact ⟨(true), (wrap64 (x9_3 + 1)), (by first | rfl | (simp; done) | (simp [*]; done)), (by first | rfl | (simp; done) | (simp [*]; done)), H', ⟨by have := HK1.out; have := HJ4.out; have := HK3.out; have := HJ12.out; omega⟩, ⟨by repeat (first | (with_reducible first | exact HI0.out | apply IsS44.alloc | apply IsS44.drewN | apply IsS44.drew) | exact HI0.out)⟩, ⟨by repeat (first | (with_reducible first | exact HK.out | apply KeepBut.set_ | apply keep_drewN | apply keep_drew | apply keep_alloc) | exact HK.out)⟩, ⟨by repeat (first | (with_reducible first | exact HB.out | apply below_alloc | apply pw_below_drewN | apply below_drew1 | refine below_set ?_ (IsS44.ge HI0.out)) | exact HB.out)⟩⟩
           ·replace c19 := Bool.eq_false_iff.mpr c19
            subst c19
            have H1 : (runnelref2_Lattice_Meet.l1 kj12 a1 a2 x7_1 true (wrap64 (x9_3 + 1)) s0_0 s0_1) = some r := by rw [if_neg (show ¬ (false = true) by decide)] at H; exact H
            clear H
            have H := H1
            clear H1
            have H' := Aside0.mk H
            clear H
            go_wp2_with (first | ((with_reducible refine gate_callee (f := 26) rfl ?_); refine goesL_ (some 44) rfl rfl Tryz.func26 (by kernel_rfl) rfl #[.pointer (some ⟨g, 0, none⟩), .int .i64 x9_3, .int .i64 a1] rfl (by (try simp only [List.map_toArray, List.map_cons, List.map_nil]); first | done | rfl | (simp only [List.length_drop, List.length_take]; rfl)) ?_; (with_reducible refine (runnelref2_Lattice_Below.calls g s0_0 s0_1 x9_3 a1 false w0 _ ?side1 ?side2 A18.out).mono ?_); (case side1 => repeat (first | (with_reducible first | exact HI0.out | apply IsS44.alloc | apply IsS44.drewN | apply IsS44.drew) | exact HI0.out)); (case side2 => repeat (first | (with_reducible first | exact HB.out | apply below_alloc | apply pw_below_drewN | apply below_drew1 | refine below_set ?_ (IsS44.ge HI0.out)) | exact HB.out)); rintro e w28 ⟨rfl, hi, hb, hk⟩; refine ⟨_, rfl, ?_⟩; have n0_ := Aside0.mk (KeepBut.trans (by repeat (first | (with_reducible first | exact HK.out | apply KeepBut.set_ | apply keep_drewN | apply keep_drew | apply keep_alloc) | exact HK.out)) hk (.inl rfl)); have n1_ := Aside0.mk (hb); have n2_ := Aside0.mk (hi); clear HK; clear HB; clear HI0; have HK := n0_; have HB := n1_; have HI0 := n2_; clear n0_ n1_ n2_; (try clear hb); (try clear hb2); (try clear hk); (try clear hi)))
            go_roundg kj12
            case measure => have := HK1.out; have := HJ4.out; have := HK3.out; have := HJ12.out; omega
            case rel => exact ⟨(true), (wrap64 (x9_3 + 1)), (by first | rfl | (simp; done) | (simp [*]; done)), (by first | rfl | (simp; done) | (simp [*]; done)), H', ⟨by have := HK1.out; have := HJ4.out; have := HK3.out; have := HJ12.out; omega⟩, ⟨by repeat (first | (with_reducible first | exact HI0.out | apply IsS44.alloc | apply IsS44.drewN | apply IsS44.drew) | exact HI0.out)⟩, ⟨by repeat (first | (with_reducible first | exact HK.out | apply KeepBut.set_ | apply keep_drewN | apply keep_drew | apply keep_alloc) | exact HK.out)⟩, ⟨by repeat (first | (with_reducible first | exact HB.out | apply below_alloc | apply pw_below_drewN | apply below_drew1 | refine below_set ?_ (IsS44.ge HI0.out)) | exact HB.out)⟩⟩
          ·replace c17 := Bool.eq_false_iff.mpr c17
           subst c17
           have H1 : (if x8_3 = true then (some x7_1) else (runnelref2_Lattice_Meet.l0 kj12 a1 a2 (wrap64 (x7_1 + 1)) s0_0 s0_1)) = some r := by rw [if_neg (show ¬ (false = true) by decide)] at H; exact H
           clear H
           have H := H1
           clear H1
           by_cases c29 : x8_3 = true
           ·subst c29
            have H1 : (some x7_1) = some r := by rw [if_pos rfl] at H; exact H
            clear H
            have H := H1
            clear H1
            obtain rfl := Option.some.inj H
            go_wp2
            go_ret
            exact ⟨by first | rfl | (simp [errW_none, errW_some] <;> rfl) | (simp [*, errW_none, errW_some] <;> rfl), by repeat (first | (with_reducible first | exact HI0.out | apply IsS44.alloc | apply IsS44.drewN | apply IsS44.drew) | exact HI0.out), by repeat (first | (with_reducible first | exact HB.out | apply below_alloc | apply pw_below_drewN | apply below_drew1 | refine below_set ?_ (IsS44.ge HI0.out)) | exact HB.out), by repeat (first | (with_reducible first | exact HK.out | apply KeepBut.set_ | apply keep_drewN | apply keep_drew | apply keep_alloc) | exact HK.out)⟩
           ·replace c29 := Bool.eq_false_iff.mpr c29
            subst c29
            have H1 : (runnelref2_Lattice_Meet.l0 kj12 a1 a2 (wrap64 (x7_1 + 1)) s0_0 s0_1) = some r := by rw [if_neg (show ¬ (false = true) by decide)] at H; exact H
            clear H
            have H := H1
            clear H1
            have H' := Aside0.mk H
            clear H
            go_wp2
            go_roundg kj12
            case measure => have := HK1.out; have := HJ4.out; have := HK3.out; have := HJ12.out; omega
            case rel => exact ⟨(wrap64 (x7_1 + 1)), (by first | rfl | (simp; done) | (simp [*]; done)), H', ⟨by have := HK1.out; have := HJ4.out; have := HK3.out; have := HJ12.out; omega⟩, ⟨by repeat (first | (with_reducible first | exact HI0.out | apply IsS44.alloc | apply IsS44.drewN | apply IsS44.drew) | exact HI0.out)⟩, ⟨by repeat (first | (with_reducible first | exact HK.out | apply KeepBut.set_ | apply keep_drewN | apply keep_drew | apply keep_alloc) | exact HK.out)⟩, ⟨by repeat (first | (with_reducible first | exact HB.out | apply below_alloc | apply pw_below_drewN | apply below_drew1 | refine below_set ?_ (IsS44.ge HI0.out)) | exact HB.out)⟩⟩
   ·rw [if_neg c4] at H
    have c4b0 : decide (x7_1 < (s0_0.length : Int)) = false := decide_eq_false c4
    clear c4
    obtain rfl := Option.some.inj H
    obtain ⟨ASz30_0, cSz30_0, ASz30_1, cSz30_1, HGz30, hgz30, HSz30_0, HSz30_1⟩ := HI0.out
    have hcz30_0 := cellS44_0 HGz30
    have hcz30_1 := cellS44_1 HGz30
    clear HGz30 hgz30
    go_wp2
    go_ret
    exact ⟨by first | rfl | (simp [errW_none, errW_some] <;> rfl) | (simp [*, errW_none, errW_some] <;> rfl), by repeat (first | (with_reducible first | exact HI0.out | apply IsS44.alloc | apply IsS44.drewN | apply IsS44.drew) | exact HI0.out), by repeat (first | (with_reducible first | exact HB.out | apply below_alloc | apply pw_below_drewN | apply below_drew1 | refine below_set ?_ (IsS44.ge HI0.out)) | exact HB.out), by repeat (first | (with_reducible first | exact HK.out | apply KeepBut.set_ | apply keep_drewN | apply keep_drew | apply keep_alloc) | exact HK.out)⟩

/-! ### runnelref2_Lattice_lattice: function 53 -/
mutual
def runnelref2_Lattice_lattice.l0 : Nat → Int → List ByteArray → List (List Bool) → Option (Bool)
 | 0, _, _, _ => none
 | k + 1, x3, x1000, x1001 => if x3 < (x1000.length : Int) then (runnelref2_Lattice_lattice.l1 k x3 0 x1000 x1001) else (some true)
def runnelref2_Lattice_lattice.l1 : Nat → Int → Int → List ByteArray → List (List Bool) → Option (Bool)
 | 0, _, _, _, _ => none
 | k + 1, x3, x4, x1000, x1001 => if x4 < (x1000.length : Int) then (if x3 = x4 then ((runnelref2_Lattice_Join.f k x1000 x1001 x3 x4).bind fun t113 => (if t113 < 0 then (some false) else ((runnelref2_Lattice_Meet.f k x1000 x1001 x3 x4).bind fun t114 => (if t114 < 0 then (some false) else (runnelref2_Lattice_lattice.l1 k x3 (wrap64 (x4 + 1)) x1000 x1001))))) else ((runnelref2_Lattice_Below.f x1000 x1001 x3 x4).bind fun t115 => (if t115 = true then ((runnelref2_Lattice_Below.f x1000 x1001 x4 x3).bind fun t116 => (if t116 = true then (some false) else ((runnelref2_Lattice_Join.f k x1000 x1001 x3 x4).bind fun t117 => (if t117 < 0 then (some false) else ((runnelref2_Lattice_Meet.f k x1000 x1001 x3 x4).bind fun t118 => (if t118 < 0 then (some false) else (runnelref2_Lattice_lattice.l1 k x3 (wrap64 (x4 + 1)) x1000 x1001))))))) else ((runnelref2_Lattice_Join.f k x1000 x1001 x3 x4).bind fun t119 => (if t119 < 0 then (some false) else ((runnelref2_Lattice_Meet.f k x1000 x1001 x3 x4).bind fun t120 => (if t120 < 0 then (some false) else (runnelref2_Lattice_lattice.l1 k x3 (wrap64 (x4 + 1)) x1000 x1001)))))))) else (runnelref2_Lattice_lattice.l0 k (wrap64 (x3 + 1)) x1000 x1001)
end
def runnelref2_Lattice_lattice.f (k : Nat) (s0_0 : List ByteArray) (s0_1 : List (List Bool)) : Option (Bool) := runnelref2_Lattice_lattice.l0 k 0 s0_0 s0_1
theorem runnelref2_Lattice_lattice.mono_l : ∀ k, (∀ y0 y1 y2, LeO (runnelref2_Lattice_lattice.l0 k y0 y1 y2) (runnelref2_Lattice_lattice.l0 (k + 1) y0 y1 y2)) ∧ (∀ y0 y1 y2 y3, LeO (runnelref2_Lattice_lattice.l1 k y0 y1 y2 y3) (runnelref2_Lattice_lattice.l1 (k + 1) y0 y1 y2 y3))
 | 0 => ⟨fun _ _ _ r h => by simp [runnelref2_Lattice_lattice.l0] at h, fun _ _ _ _ r h => by simp [runnelref2_Lattice_lattice.l1] at h⟩
 | k + 1 => by
  obtain ⟨ih0, ih1⟩ := runnelref2_Lattice_lattice.mono_l k
  refine ⟨?_, ?_⟩
  ·intro y0 y1 y2
   unfold runnelref2_Lattice_lattice.l0
   repeat' first
   | (with_reducible exact ih0 _ _ _)
   | (with_reducible exact ih1 _ _ _ _)
   | (with_reducible exact runnelref2_Lattice_Join.mono _ _ _ _ _)
   | (with_reducible exact runnelref2_Lattice_Meet.mono _ _ _ _ _)
   | (with_reducible exact LeO.refl _)
   | (with_reducible exact LeO.none _)
   | (with_reducible refine LeO.ite ?_ ?_)
   | (with_reducible refine LeO.bind ?_ (fun _ => ?_))
   | exact ih0 _ _ _
   | exact ih1 _ _ _ _
   | exact runnelref2_Lattice_Join.mono _ _ _ _ _
   | exact runnelref2_Lattice_Meet.mono _ _ _ _ _
   | exact LeO.none _
   | refine LeO.ite ?_ ?_
   | refine LeO.bind ?_ (fun _ => ?_)
  ·intro y0 y1 y2 y3
   unfold runnelref2_Lattice_lattice.l1
   repeat' first
   | (with_reducible exact ih0 _ _ _)
   | (with_reducible exact ih1 _ _ _ _)
   | (with_reducible exact runnelref2_Lattice_Join.mono _ _ _ _ _)
   | (with_reducible exact runnelref2_Lattice_Meet.mono _ _ _ _ _)
   | (with_reducible exact LeO.refl _)
   | (with_reducible exact LeO.none _)
   | (with_reducible refine LeO.ite ?_ ?_)
   | (with_reducible refine LeO.bind ?_ (fun _ => ?_))
   | exact ih0 _ _ _
   | exact ih1 _ _ _ _
   | exact runnelref2_Lattice_Join.mono _ _ _ _ _
   | exact runnelref2_Lattice_Meet.mono _ _ _ _ _
   | exact LeO.none _
   | refine LeO.ite ?_ ?_
   | refine LeO.bind ?_ (fun _ => ?_)
theorem runnelref2_Lattice_lattice.mono : ∀ a0 a1 k, LeO (runnelref2_Lattice_lattice.f k a0 a1) (runnelref2_Lattice_lattice.f (k + 1) a0 a1) := by
 intro a0 a1 k
 obtain ⟨ih0, ih1⟩ := runnelref2_Lattice_lattice.mono_l k
 unfold runnelref2_Lattice_lattice.f
 repeat' first
   | (with_reducible exact ih0 _ _ _)
   | (with_reducible exact ih1 _ _ _ _)
   | (with_reducible exact runnelref2_Lattice_Join.mono _ _ _ _ _)
   | (with_reducible exact runnelref2_Lattice_Meet.mono _ _ _ _ _)
   | (with_reducible exact LeO.refl _)
   | (with_reducible exact LeO.none _)
   | (with_reducible refine LeO.ite ?_ ?_)
   | (with_reducible refine LeO.bind ?_ (fun _ => ?_))
   | exact ih0 _ _ _
   | exact ih1 _ _ _ _
   | exact runnelref2_Lattice_Join.mono _ _ _ _ _
   | exact runnelref2_Lattice_Meet.mono _ _ _ _ _
   | exact LeO.none _
   | refine LeO.ite ?_ ?_
   | refine LeO.bind ?_ (fun _ => ?_)
set_option maxHeartbeats 8000000 in
set_option maxRecDepth 100000 in
theorem runnelref2_Lattice_lattice.calls (k : Nat) (g : Nat) (s0_0 : List ByteArray) (s0_1 : List (List Bool)) (r : Bool) (w0 w : World) (hI : IsS44 w0 w g s0_0 s0_1) (hB : Below w0.heap.size w0 w) (h : runnelref2_Lattice_lattice.f k s0_0 s0_1 = some r) :
  Calls Tryz.prog 53 #[.pointer (some ⟨g, 0, none⟩)] w fun e w' => e = .returned (.bool r) ∧ IsS44 w0 w' g s0_0 s0_1 ∧ Below w0.heap.size w0 w' ∧ KeepBut w w' g none := by
 have HI0 := Aside0.mk hI
 have HK := Aside0.mk (KeepBut.refl w g none)
 have HL := Aside0.mk hB.size
 clear hI
 have HW0 := Aside0.mk hB.size
 have HB := Aside0.mk hB
 clear hB
 have H : (runnelref2_Lattice_lattice.l0 k 0 s0_0 s0_1) = some r := h
 clear h
 have H' := Aside0.mk H
 clear H
 go_enter Tryz.func53, Tryz.ntmps53
 go_wp2
 go_loopg [3] k (fun kq v3 w' => ∃ (x3_1 : Int), v3 = .int .i64 x3_1 ∧ Aside0 (runnelref2_Lattice_lattice.l0 kq x3_1 s0_0 s0_1 = some r) ∧ Aside0 (kq ≤ k) ∧ Aside0 (IsS44 w0 w' g s0_0 s0_1) ∧ Aside0 (KeepBut w w' g none) ∧ Aside0 (Below w0.heap.size w0 w'))
 case atStart => exact ⟨(0), (by first | rfl | (simp; done) | (simp [*]; done)), H', ⟨Nat.le_refl _⟩, ⟨by repeat (first | (with_reducible first | exact HI0.out | apply IsS44.alloc | apply IsS44.drewN | apply IsS44.drew) | exact HI0.out)⟩, ⟨by repeat (first | (with_reducible first | exact HK.out | apply KeepBut.set_ | apply keep_drewN | apply keep_drew | apply keep_alloc) | exact HK.out)⟩, ⟨by repeat (first | (with_reducible first | exact HB.out | apply below_alloc | apply pw_below_drewN | apply below_drew1 | refine below_set ?_ (IsS44.ge HI0.out)) | exact HB.out)⟩⟩
 case round =>
  clear H'
  obtain ⟨x3_1, rfl, HA, HK1, HI0, HK, HB⟩ := hrel
  cases gk with
  | zero => exact absurd HA.out (by simp [runnelref2_Lattice_lattice.l0])
  | succ k1 =>
   have H := HA.out
   clear HA
   simp only [runnelref2_Lattice_lattice.l0] at H
   by_cases c2 : x3_1 < (s0_0.length : Int)
   ·rw [if_pos c2] at H
    have c2b0 : decide (x3_1 < (s0_0.length : Int)) = true := decide_eq_true c2
    clear c2
    have H' := Aside0.mk H
    clear H
    obtain ⟨ASz3_0, cSz3_0, ASz3_1, cSz3_1, HGz3, hgz3, HSz3_0, HSz3_1⟩ := HI0.out
    have hcz3_0 := cellS44_0 HGz3
    have hcz3_1 := cellS44_1 HGz3
    clear HGz3 hgz3
    go_wp2
    go_loopg [4] k1 (fun kq v4 w' => ∃ (x4_2 : Int), v4 = .int .i64 x4_2 ∧ Aside0 (runnelref2_Lattice_lattice.l1 kq x3_1 x4_2 s0_0 s0_1 = some r) ∧ Aside0 (kq ≤ k1) ∧ Aside0 (IsS44 w0 w' g s0_0 s0_1) ∧ Aside0 (KeepBut w w' g none) ∧ Aside0 (Below w0.heap.size w0 w'))
    case atStart => exact ⟨(0), (by first | rfl | (simp; done) | (simp [*]; done)), H', ⟨Nat.le_refl _⟩, ⟨by repeat (first | (with_reducible first | exact HI0.out | apply IsS44.alloc | apply IsS44.drewN | apply IsS44.drew) | exact HI0.out)⟩, ⟨by repeat (first | (with_reducible first | exact HK.out | apply KeepBut.set_ | apply keep_drewN | apply keep_drew | apply keep_alloc) | exact HK.out)⟩, ⟨by repeat (first | (with_reducible first | exact HB.out | apply below_alloc | apply pw_below_drewN | apply below_drew1 | refine below_set ?_ (IsS44.ge HI0.out)) | exact HB.out)⟩⟩
    case round =>
     clear H'
     try clear c2
     try clear c2b0
     try clear p2
     try clear hcz3_0
     try clear hcz3_1
     obtain ⟨x4_2, rfl, HA, HK2, HI0, HK, HB⟩ := hrel
     cases gk with
     | zero => exact absurd HA.out (by simp [runnelref2_Lattice_lattice.l1])
     | succ k2 =>
      have H := HA.out
      clear HA
      simp only [runnelref2_Lattice_lattice.l1] at H
      by_cases c4 : x4_2 < (s0_0.length : Int)
      ·rw [if_pos c4] at H
       have c4b0 : decide (x4_2 < (s0_0.length : Int)) = true := decide_eq_true c4
       clear c4
       by_cases c5 : x3_1 = x4_2
       ·rw [if_pos c5] at H
        have c5b0 : (x3_1 == x4_2) = true := beq_iff_eq.mpr c5
        have c5b1 : (x3_1 != x4_2) = false := bne_eq_false_iff_eq.mpr c5
        clear c5
        replace H := Option.bind_eq_some_iff.mp H
        obtain ⟨t113, A60, H⟩ := H
        replace H : (if t113 < 0 then (some false) else ((runnelref2_Lattice_Meet.f k2 s0_0 s0_1 x3_1 x4_2).bind fun t114 => (if t114 < 0 then (some false) else (runnelref2_Lattice_lattice.l1 k2 x3_1 (wrap64 (x4_2 + 1)) s0_0 s0_1)))) = some r := H
        have A6 := Aside0.mk A60
        clear A60
        by_cases c7 : t113 < 0
        ·rw [if_pos c7] at H
         have c7b0 : decide (t113 < 0) = true := decide_eq_true c7
         clear c7
         obtain rfl := Option.some.inj H
         obtain ⟨ASz8_0, cSz8_0, ASz8_1, cSz8_1, HGz8, hgz8, HSz8_0, HSz8_1⟩ := HI0.out
         have hcz8_0 := cellS44_0 HGz8
         have hcz8_1 := cellS44_1 HGz8
         clear HGz8 hgz8
         go_wp2_with (first | (go_at_call 74; (with_reducible refine (runnelref2_Lattice_Join.calls k2 g s0_0 s0_1 x3_1 x4_2 t113 w0 _ ?side1 ?side2 A6.out).mono ?_); (case side1 => repeat (first | (with_reducible first | exact HI0.out | apply IsS44.alloc | apply IsS44.drewN | apply IsS44.drew) | exact HI0.out)); (case side2 => repeat (first | (with_reducible first | exact HB.out | apply below_alloc | apply pw_below_drewN | apply below_drew1 | refine below_set ?_ (IsS44.ge HI0.out)) | exact HB.out)); rintro e w9 ⟨rfl, hi, hb, hk⟩; have n0_ := Aside0.mk (KeepBut.trans (by repeat (first | (with_reducible first | exact HK.out | apply KeepBut.set_ | apply keep_drewN | apply keep_drew | apply keep_alloc) | exact HK.out)) hk (.inl rfl)); have n1_ := Aside0.mk (hb); have n2_ := Aside0.mk (hi); clear HK; clear HB; clear HI0; have HK := n0_; have HB := n1_; have HI0 := n2_; clear n0_ n1_ n2_; (try clear hb); (try clear hb2); (try clear hk); (try clear hi)))
         go_ret
         exact ⟨by first | rfl | (simp [errW_none, errW_some] <;> rfl) | (simp [*, errW_none, errW_some] <;> rfl), by repeat (first | (with_reducible first | exact HI0.out | apply IsS44.alloc | apply IsS44.drewN | apply IsS44.drew) | exact HI0.out), by repeat (first | (with_reducible first | exact HB.out | apply below_alloc | apply pw_below_drewN | apply below_drew1 | refine below_set ?_ (IsS44.ge HI0.out)) | exact HB.out), by repeat (first | (with_reducible first | exact HK.out | apply KeepBut.set_ | apply keep_drewN | apply keep_drew | apply keep_alloc) | exact HK.out)⟩
        ·rw [if_neg c7] at H
         have c7b0 : decide (t113 < 0) = false := decide_eq_false c7
         clear c7
         replace H := Option.bind_eq_some_iff.mp H
         obtain ⟨t114, A100, H⟩ := H
         replace H : (if t114 < 0 then (some false) else (runnelref2_Lattice_lattice.l1 k2 x3_1 (wrap64 (x4_2 + 1)) s0_0 s0_1)) = some r := H
         have A10 := Aside0.mk A100
         clear A100
         by_cases c11 : t114 < 0
         ·rw [if_pos c11] at H
          have c11b0 : decide (t114 < 0) = true := decide_eq_true c11
          clear c11
          obtain rfl := Option.some.inj H
          obtain ⟨ASz12_0, cSz12_0, ASz12_1, cSz12_1, HGz12, hgz12, HSz12_0, HSz12_1⟩ := HI0.out
          have hcz12_0 := cellS44_0 HGz12
          have hcz12_1 := cellS44_1 HGz12
          clear HGz12 hgz12
          go_wp2_with (first | (go_at_call 74; (with_reducible refine (runnelref2_Lattice_Join.calls k2 g s0_0 s0_1 x3_1 x4_2 t113 w0 _ ?side1 ?side2 A6.out).mono ?_); (case side1 => repeat (first | (with_reducible first | exact HI0.out | apply IsS44.alloc | apply IsS44.drewN | apply IsS44.drew) | exact HI0.out)); (case side2 => repeat (first | (with_reducible first | exact HB.out | apply below_alloc | apply pw_below_drewN | apply below_drew1 | refine below_set ?_ (IsS44.ge HI0.out)) | exact HB.out)); rintro e w13 ⟨rfl, hi, hb, hk⟩; have n0_ := Aside0.mk (KeepBut.trans (by repeat (first | (with_reducible first | exact HK.out | apply KeepBut.set_ | apply keep_drewN | apply keep_drew | apply keep_alloc) | exact HK.out)) hk (.inl rfl)); have n1_ := Aside0.mk (hb); have n2_ := Aside0.mk (hi); clear HK; clear HB; clear HI0; have HK := n0_; have HB := n1_; have HI0 := n2_; clear n0_ n1_ n2_; (try clear hb); (try clear hb2); (try clear hk); (try clear hi)) | (go_at_call 75; (with_reducible refine (runnelref2_Lattice_Meet.calls k2 g s0_0 s0_1 x3_1 x4_2 t114 w0 _ ?side1 ?side2 A10.out).mono ?_); (case side1 => repeat (first | (with_reducible first | exact HI0.out | apply IsS44.alloc | apply IsS44.drewN | apply IsS44.drew) | exact HI0.out)); (case side2 => repeat (first | (with_reducible first | exact HB.out | apply below_alloc | apply pw_below_drewN | apply below_drew1 | refine below_set ?_ (IsS44.ge HI0.out)) | exact HB.out)); rintro e w14 ⟨rfl, hi, hb, hk⟩; have n0_ := Aside0.mk (KeepBut.trans (by repeat (first | (with_reducible first | exact HK.out | apply KeepBut.set_ | apply keep_drewN | apply keep_drew | apply keep_alloc) | exact HK.out)) hk (.inl rfl)); have n1_ := Aside0.mk (hb); have n2_ := Aside0.mk (hi); clear HK; clear HB; clear HI0; have HK := n0_; have HB := n1_; have HI0 := n2_; clear n0_ n1_ n2_; (try clear hb); (try clear hb2); (try clear hk); (try clear hi)))
          go_ret
          exact ⟨by first | rfl | (simp [errW_none, errW_some] <;> rfl) | (simp [*, errW_none, errW_some] <;> rfl), by repeat (first | (with_reducible first | exact HI0.out | apply IsS44.alloc | apply IsS44.drewN | apply IsS44.drew) | exact HI0.out), by repeat (first | (with_reducible first | exact HB.out | apply below_alloc | apply pw_below_drewN | apply below_drew1 | refine below_set ?_ (IsS44.ge HI0.out)) | exact HB.out), by repeat (first | (with_reducible first | exact HK.out | apply KeepBut.set_ | apply keep_drewN | apply keep_drew | apply keep_alloc) | exact HK.out)⟩
         ·rw [if_neg c11] at H
          have c11b0 : decide (t114 < 0) = false := decide_eq_false c11
          clear c11
          have H' := Aside0.mk H
          clear H
          obtain ⟨ASz15_0, cSz15_0, ASz15_1, cSz15_1, HGz15, hgz15, HSz15_0, HSz15_1⟩ := HI0.out
          have hcz15_0 := cellS44_0 HGz15
          have hcz15_1 := cellS44_1 HGz15
          clear HGz15 hgz15
          go_wp2_with (first | (go_at_call 74; (with_reducible refine (runnelref2_Lattice_Join.calls k2 g s0_0 s0_1 x3_1 x4_2 t113 w0 _ ?side1 ?side2 A6.out).mono ?_); (case side1 => repeat (first | (with_reducible first | exact HI0.out | apply IsS44.alloc | apply IsS44.drewN | apply IsS44.drew) | exact HI0.out)); (case side2 => repeat (first | (with_reducible first | exact HB.out | apply below_alloc | apply pw_below_drewN | apply below_drew1 | refine below_set ?_ (IsS44.ge HI0.out)) | exact HB.out)); rintro e w16 ⟨rfl, hi, hb, hk⟩; have n0_ := Aside0.mk (KeepBut.trans (by repeat (first | (with_reducible first | exact HK.out | apply KeepBut.set_ | apply keep_drewN | apply keep_drew | apply keep_alloc) | exact HK.out)) hk (.inl rfl)); have n1_ := Aside0.mk (hb); have n2_ := Aside0.mk (hi); clear HK; clear HB; clear HI0; have HK := n0_; have HB := n1_; have HI0 := n2_; clear n0_ n1_ n2_; (try clear hb); (try clear hb2); (try clear hk); (try clear hi)) | (go_at_call 75; (with_reducible refine (runnelref2_Lattice_Meet.calls k2 g s0_0 s0_1 x3_1 x4_2 t114 w0 _ ?side1 ?side2 A10.out).mono ?_); (case side1 => repeat (first | (with_reducible first | exact HI0.out | apply IsS44.alloc | apply IsS44.drewN | apply IsS44.drew) | exact HI0.out)); (case side2 => repeat (first | (with_reducible first | exact HB.out | apply below_alloc | apply pw_below_drewN | apply below_drew1 | refine below_set ?_ (IsS44.ge HI0.out)) | exact HB.out)); rintro e w17 ⟨rfl, hi, hb, hk⟩; have n0_ := Aside0.mk (KeepBut.trans (by repeat (first | (with_reducible first | exact HK.out | apply KeepBut.set_ | apply keep_drewN | apply keep_drew | apply keep_alloc) | exact HK.out)) hk (.inl rfl)); have n1_ := Aside0.mk (hb); have n2_ := Aside0.mk (hi); clear HK; clear HB; clear HI0; have HK := n0_; have HB := n1_; have HI0 := n2_; clear n0_ n1_ n2_; (try clear hb); (try clear hb2); (try clear hk); (try clear hi)))
          go_roundg k2
          case measure => have := HK1.out; have := HK2.out; omega
          case rel => exact ⟨(wrap64 (x4_2 + 1)), (by first | rfl | (simp; done) | (simp [*]; done)), H', ⟨by have := HK1.out; have := HK2.out; omega⟩, ⟨by repeat (first | (with_reducible first | exact HI0.out | apply IsS44.alloc | apply IsS44.drewN | apply IsS44.drew) | exact HI0.out)⟩, ⟨by repeat (first | (with_reducible first | exact HK.out | apply KeepBut.set_ | apply keep_drewN | apply keep_drew | apply keep_alloc) | exact HK.out)⟩, ⟨by repeat (first | (with_reducible first | exact HB.out | apply below_alloc | apply pw_below_drewN | apply below_drew1 | refine below_set ?_ (IsS44.ge HI0.out)) | exact HB.out)⟩⟩
       ·rw [if_neg c5] at H
        have c5b0 : (x3_1 == x4_2) = false := beq_eq_false_iff_ne.mpr c5
        have c5b1 : (x3_1 != x4_2) = true := bne_iff_ne.mpr c5
        replace H := Option.bind_eq_some_iff.mp H
        obtain ⟨t115, A180, H⟩ := H
        replace H : (if t115 = true then ((runnelref2_Lattice_Below.f s0_0 s0_1 x4_2 x3_1).bind fun t116 => (if t116 = true then (some false) else ((runnelref2_Lattice_Join.f k2 s0_0 s0_1 x3_1 x4_2).bind fun t117 => (if t117 < 0 then (some false) else ((runnelref2_Lattice_Meet.f k2 s0_0 s0_1 x3_1 x4_2).bind fun t118 => (if t118 < 0 then (some false) else (runnelref2_Lattice_lattice.l1 k2 x3_1 (wrap64 (x4_2 + 1)) s0_0 s0_1))))))) else ((runnelref2_Lattice_Join.f k2 s0_0 s0_1 x3_1 x4_2).bind fun t119 => (if t119 < 0 then (some false) else ((runnelref2_Lattice_Meet.f k2 s0_0 s0_1 x3_1 x4_2).bind fun t120 => (if t120 < 0 then (some false) else (runnelref2_Lattice_lattice.l1 k2 x3_1 (wrap64 (x4_2 + 1)) s0_0 s0_1)))))) = some r := H
        have A18 := Aside0.mk A180
        clear A180
        by_cases c19 : t115 = true
        ·subst c19
         have H1 : ((runnelref2_Lattice_Below.f s0_0 s0_1 x4_2 x3_1).bind fun t116 => (if t116 = true then (some false) else ((runnelref2_Lattice_Join.f k2 s0_0 s0_1 x3_1 x4_2).bind fun t117 => (if t117 < 0 then (some false) else ((runnelref2_Lattice_Meet.f k2 s0_0 s0_1 x3_1 x4_2).bind fun t118 => (if t118 < 0 then (some false) else (runnelref2_Lattice_lattice.l1 k2 x3_1 (wrap64 (x4_2 + 1)) s0_0 s0_1))))))) = some r := by rw [if_pos rfl] at H; exact H
         clear H
         have H := H1
         clear H1
         replace H := Option.bind_eq_some_iff.mp H
         obtain ⟨t116, A200, H⟩ := H
         replace H : (if t116 = true then (some false) else ((runnelref2_Lattice_Join.f k2 s0_0 s0_1 x3_1 x4_2).bind fun t117 => (if t117 < 0 then (some false) else ((runnelref2_Lattice_Meet.f k2 s0_0 s0_1 x3_1 x4_2).bind fun t118 => (if t118 < 0 then (some false) else (runnelref2_Lattice_lattice.l1 k2 x3_1 (wrap64 (x4_2 + 1)) s0_0 s0_1)))))) = some r := H
         have A20 := Aside0.mk A200
         clear A200
         by_cases c21 : t116 = true
         ·subst c21
          have H1 : (some false) = some r := by rw [if_pos rfl] at H; exact H
          clear H
          have H := H1
          clear H1
          obtain rfl := Option.some.inj H
          obtain ⟨ASz22_0, cSz22_0, ASz22_1, cSz22_1, HGz22, hgz22, HSz22_0, HSz22_1⟩ := HI0.out
          have hcz22_0 := cellS44_0 HGz22
          have hcz22_1 := cellS44_1 HGz22
          clear HGz22 hgz22
          go_wp2_with (first | (go_at_call 26; (with_reducible refine (runnelref2_Lattice_Below.calls g s0_0 s0_1 x3_1 x4_2 true w0 _ ?side1 ?side2 A18.out).mono ?_); (case side1 => repeat (first | (with_reducible first | exact HI0.out | apply IsS44.alloc | apply IsS44.drewN | apply IsS44.drew) | exact HI0.out)); (case side2 => repeat (first | (with_reducible first | exact HB.out | apply below_alloc | apply pw_below_drewN | apply below_drew1 | refine below_set ?_ (IsS44.ge HI0.out)) | exact HB.out)); rintro e w23 ⟨rfl, hi, hb, hk⟩; have n0_ := Aside0.mk (KeepBut.trans (by repeat (first | (with_reducible first | exact HK.out | apply KeepBut.set_ | apply keep_drewN | apply keep_drew | apply keep_alloc) | exact HK.out)) hk (.inl rfl)); have n1_ := Aside0.mk (hb); have n2_ := Aside0.mk (hi); clear HK; clear HB; clear HI0; have HK := n0_; have HB := n1_; have HI0 := n2_; clear n0_ n1_ n2_; (try clear hb); (try clear hb2); (try clear hk); (try clear hi)) | (go_at_call 26; (with_reducible refine (runnelref2_Lattice_Below.calls g s0_0 s0_1 x4_2 x3_1 true w0 _ ?side1 ?side2 A20.out).mono ?_); (case side1 => repeat (first | (with_reducible first | exact HI0.out | apply IsS44.alloc | apply IsS44.drewN | apply IsS44.drew) | exact HI0.out)); (case side2 => repeat (first | (with_reducible first | exact HB.out | apply below_alloc | apply pw_below_drewN | apply below_drew1 | refine below_set ?_ (IsS44.ge HI0.out)) | exact HB.out)); rintro e w24 ⟨rfl, hi, hb, hk⟩; have n0_ := Aside0.mk (KeepBut.trans (by repeat (first | (with_reducible first | exact HK.out | apply KeepBut.set_ | apply keep_drewN | apply keep_drew | apply keep_alloc) | exact HK.out)) hk (.inl rfl)); have n1_ := Aside0.mk (hb); have n2_ := Aside0.mk (hi); clear HK; clear HB; clear HI0; have HK := n0_; have HB := n1_; have HI0 := n2_; clear n0_ n1_ n2_; (try clear hb); (try clear hb2); (try clear hk); (try clear hi)))
          go_ret
          exact ⟨by first | rfl | (simp [errW_none, errW_some] <;> rfl) | (simp [*, errW_none, errW_some] <;> rfl), by repeat (first | (with_reducible first | exact HI0.out | apply IsS44.alloc | apply IsS44.drewN | apply IsS44.drew) | exact HI0.out), by repeat (first | (with_reducible first | exact HB.out | apply below_alloc | apply pw_below_drewN | apply below_drew1 | refine below_set ?_ (IsS44.ge HI0.out)) | exact HB.out), by repeat (first | (with_reducible first | exact HK.out | apply KeepBut.set_ | apply keep_drewN | apply keep_drew | apply keep_alloc) | exact HK.out)⟩
         ·replace c21 := Bool.eq_false_iff.mpr c21
          subst c21
          have H1 : ((runnelref2_Lattice_Join.f k2 s0_0 s0_1 x3_1 x4_2).bind fun t117 => (if t117 < 0 then (some false) else ((runnelref2_Lattice_Meet.f k2 s0_0 s0_1 x3_1 x4_2).bind fun t118 => (if t118 < 0 then (some false) else (runnelref2_Lattice_lattice.l1 k2 x3_1 (wrap64 (x4_2 + 1)) s0_0 s0_1))))) = some r := by rw [if_neg (show ¬ (false = true) by decide)] at H; exact H
          clear H
          have H := H1
          clear H1
          replace H := Option.bind_eq_some_iff.mp H
          obtain ⟨t117, A250, H⟩ := H
          replace H : (if t117 < 0 then (some false) else ((runnelref2_Lattice_Meet.f k2 s0_0 s0_1 x3_1 x4_2).bind fun t118 => (if t118 < 0 then (some false) else (runnelref2_Lattice_lattice.l1 k2 x3_1 (wrap64 (x4_2 + 1)) s0_0 s0_1)))) = some r := H
          have A25 := Aside0.mk A250
          clear A250
          by_cases c26 : t117 < 0
          ·rw [if_pos c26] at H
           have c26b0 : decide (t117 < 0) = true := decide_eq_true c26
           clear c26
           obtain rfl := Option.some.inj H
           obtain ⟨ASz27_0, cSz27_0, ASz27_1, cSz27_1, HGz27, hgz27, HSz27_0, HSz27_1⟩ := HI0.out
           have hcz27_0 := cellS44_0 HGz27
           have hcz27_1 := cellS44_1 HGz27
           clear HGz27 hgz27
           go_wp2_with (first | (go_at_call 26; (with_reducible refine (runnelref2_Lattice_Below.calls g s0_0 s0_1 x3_1 x4_2 true w0 _ ?side1 ?side2 A18.out).mono ?_); (case side1 => repeat (first | (with_reducible first | exact HI0.out | apply IsS44.alloc | apply IsS44.drewN | apply IsS44.drew) | exact HI0.out)); (case side2 => repeat (first | (with_reducible first | exact HB.out | apply below_alloc | apply pw_below_drewN | apply below_drew1 | refine below_set ?_ (IsS44.ge HI0.out)) | exact HB.out)); rintro e w28 ⟨rfl, hi, hb, hk⟩; have n0_ := Aside0.mk (KeepBut.trans (by repeat (first | (with_reducible first | exact HK.out | apply KeepBut.set_ | apply keep_drewN | apply keep_drew | apply keep_alloc) | exact HK.out)) hk (.inl rfl)); have n1_ := Aside0.mk (hb); have n2_ := Aside0.mk (hi); clear HK; clear HB; clear HI0; have HK := n0_; have HB := n1_; have HI0 := n2_; clear n0_ n1_ n2_; (try clear hb); (try clear hb2); (try clear hk); (try clear hi)) | (go_at_call 26; (with_reducible refine (runnelref2_Lattice_Below.calls g s0_0 s0_1 x4_2 x3_1 false w0 _ ?side1 ?side2 A20.out).mono ?_); (case side1 => repeat (first | (with_reducible first | exact HI0.out | apply IsS44.alloc | apply IsS44.drewN | apply IsS44.drew) | exact HI0.out)); (case side2 => repeat (first | (with_reducible first | exact HB.out | apply below_alloc | apply pw_below_drewN | apply below_drew1 | refine below_set ?_ (IsS44.ge HI0.out)) | exact HB.out)); rintro e w29 ⟨rfl, hi, hb, hk⟩; have n0_ := Aside0.mk (KeepBut.trans (by repeat (first | (with_reducible first | exact HK.out | apply KeepBut.set_ | apply keep_drewN | apply keep_drew | apply keep_alloc) | exact HK.out)) hk (.inl rfl)); have n1_ := Aside0.mk (hb); have n2_ := Aside0.mk (hi); clear HK; clear HB; clear HI0; have HK := n0_; have HB := n1_; have HI0 := n2_; clear n0_ n1_ n2_; (try clear hb); (try clear hb2); (try clear hk); (try clear hi)) | (go_at_call 74; (with_reducible refine (runnelref2_Lattice_Join.calls k2 g s0_0 s0_1 x3_1 x4_2 t117 w0 _ ?side1 ?side2 A25.out).mono ?_); (case side1 => repeat (first | (with_reducible first | exact HI0.out | apply IsS44.alloc | apply IsS44.drewN | apply IsS44.drew) | exact HI0.out)); (case side2 => repeat (first | (with_reducible first | exact HB.out | apply below_alloc | apply pw_below_drewN | apply below_drew1 | refine below_set ?_ (IsS44.ge HI0.out)) | exact HB.out)); rintro e w30 ⟨rfl, hi, hb, hk⟩; have n0_ := Aside0.mk (KeepBut.trans (by repeat (first | (with_reducible first | exact HK.out | apply KeepBut.set_ | apply keep_drewN | apply keep_drew | apply keep_alloc) | exact HK.out)) hk (.inl rfl)); have n1_ := Aside0.mk (hb); have n2_ := Aside0.mk (hi); clear HK; clear HB; clear HI0; have HK := n0_; have HB := n1_; have HI0 := n2_; clear n0_ n1_ n2_; (try clear hb); (try clear hb2); (try clear hk); (try clear hi)))
           go_ret
           exact ⟨by first | rfl | (simp [errW_none, errW_some] <;> rfl) | (simp [*, errW_none, errW_some] <;> rfl), by repeat (first | (with_reducible first | exact HI0.out | apply IsS44.alloc | apply IsS44.drewN | apply IsS44.drew) | exact HI0.out), by repeat (first | (with_reducible first | exact HB.out | apply below_alloc | apply pw_below_drewN | apply below_drew1 | refine below_set ?_ (IsS44.ge HI0.out)) | exact HB.out), by repeat (first | (with_reducible first | exact HK.out | apply KeepBut.set_ | apply keep_drewN | apply keep_drew | apply keep_alloc) | exact HK.out)⟩
          ·rw [if_neg c26] at H
           have c26b0 : decide (t117 < 0) = false := decide_eq_false c26
           clear c26
           replace H := Option.bind_eq_some_iff.mp H
           obtain ⟨t118, A310, H⟩ := H
           replace H : (if t118 < 0 then (some false) else (runnelref2_Lattice_lattice.l1 k2 x3_1 (wrap64 (x4_2 + 1)) s0_0 s0_1)) = some r := H
           have A31 := Aside0.mk A310
           clear A310
           by_cases c32 : t118 < 0
           ·rw [if_pos c32] at H
            have c32b0 : decide (t118 < 0) = true := decide_eq_true c32
            clear c32
            obtain rfl := Option.some.inj H
            obtain ⟨ASz33_0, cSz33_0, ASz33_1, cSz33_1, HGz33, hgz33, HSz33_0, HSz33_1⟩ := HI0.out
            have hcz33_0 := cellS44_0 HGz33
            have hcz33_1 := cellS44_1 HGz33
            clear HGz33 hgz33
            go_wp2_with (first | (go_at_call 26; (with_reducible refine (runnelref2_Lattice_Below.calls g s0_0 s0_1 x3_1 x4_2 true w0 _ ?side1 ?side2 A18.out).mono ?_); (case side1 => repeat (first | (with_reducible first | exact HI0.out | apply IsS44.alloc | apply IsS44.drewN | apply IsS44.drew) | exact HI0.out)); (case side2 => repeat (first | (with_reducible first | exact HB.out | apply below_alloc | apply pw_below_drewN | apply below_drew1 | refine below_set ?_ (IsS44.ge HI0.out)) | exact HB.out)); rintro e w34 ⟨rfl, hi, hb, hk⟩; have n0_ := Aside0.mk (KeepBut.trans (by repeat (first | (with_reducible first | exact HK.out | apply KeepBut.set_ | apply keep_drewN | apply keep_drew | apply keep_alloc) | exact HK.out)) hk (.inl rfl)); have n1_ := Aside0.mk (hb); have n2_ := Aside0.mk (hi); clear HK; clear HB; clear HI0; have HK := n0_; have HB := n1_; have HI0 := n2_; clear n0_ n1_ n2_; (try clear hb); (try clear hb2); (try clear hk); (try clear hi)) | (go_at_call 26; (with_reducible refine (runnelref2_Lattice_Below.calls g s0_0 s0_1 x4_2 x3_1 false w0 _ ?side1 ?side2 A20.out).mono ?_); (case side1 => repeat (first | (with_reducible first | exact HI0.out | apply IsS44.alloc | apply IsS44.drewN | apply IsS44.drew) | exact HI0.out)); (case side2 => repeat (first | (with_reducible first | exact HB.out | apply below_alloc | apply pw_below_drewN | apply below_drew1 | refine below_set ?_ (IsS44.ge HI0.out)) | exact HB.out)); rintro e w35 ⟨rfl, hi, hb, hk⟩; have n0_ := Aside0.mk (KeepBut.trans (by repeat (first | (with_reducible first | exact HK.out | apply KeepBut.set_ | apply keep_drewN | apply keep_drew | apply keep_alloc) | exact HK.out)) hk (.inl rfl)); have n1_ := Aside0.mk (hb); have n2_ := Aside0.mk (hi); clear HK; clear HB; clear HI0; have HK := n0_; have HB := n1_; have HI0 := n2_; clear n0_ n1_ n2_; (try clear hb); (try clear hb2); (try clear hk); (try clear hi)) | (go_at_call 74; (with_reducible refine (runnelref2_Lattice_Join.calls k2 g s0_0 s0_1 x3_1 x4_2 t117 w0 _ ?side1 ?side2 A25.out).mono ?_); (case side1 => repeat (first | (with_reducible first | exact HI0.out | apply IsS44.alloc | apply IsS44.drewN | apply IsS44.drew) | exact HI0.out)); (case side2 => repeat (first | (with_reducible first | exact HB.out | apply below_alloc | apply pw_below_drewN | apply below_drew1 | refine below_set ?_ (IsS44.ge HI0.out)) | exact HB.out)); rintro e w36 ⟨rfl, hi, hb, hk⟩; have n0_ := Aside0.mk (KeepBut.trans (by repeat (first | (with_reducible first | exact HK.out | apply KeepBut.set_ | apply keep_drewN | apply keep_drew | apply keep_alloc) | exact HK.out)) hk (.inl rfl)); have n1_ := Aside0.mk (hb); have n2_ := Aside0.mk (hi); clear HK; clear HB; clear HI0; have HK := n0_; have HB := n1_; have HI0 := n2_; clear n0_ n1_ n2_; (try clear hb); (try clear hb2); (try clear hk); (try clear hi)) | (go_at_call 75; (with_reducible refine (runnelref2_Lattice_Meet.calls k2 g s0_0 s0_1 x3_1 x4_2 t118 w0 _ ?side1 ?side2 A31.out).mono ?_); (case side1 => repeat (first | (with_reducible first | exact HI0.out | apply IsS44.alloc | apply IsS44.drewN | apply IsS44.drew) | exact HI0.out)); (case side2 => repeat (first | (with_reducible first | exact HB.out | apply below_alloc | apply pw_below_drewN | apply below_drew1 | refine below_set ?_ (IsS44.ge HI0.out)) | exact HB.out)); rintro e w37 ⟨rfl, hi, hb, hk⟩; have n0_ := Aside0.mk (KeepBut.trans (by repeat (first | (with_reducible first | exact HK.out | apply KeepBut.set_ | apply keep_drewN | apply keep_drew | apply keep_alloc) | exact HK.out)) hk (.inl rfl)); have n1_ := Aside0.mk (hb); have n2_ := Aside0.mk (hi); clear HK; clear HB; clear HI0; have HK := n0_; have HB := n1_; have HI0 := n2_; clear n0_ n1_ n2_; (try clear hb); (try clear hb2); (try clear hk); (try clear hi)))
            go_ret
            exact ⟨by first | rfl | (simp [errW_none, errW_some] <;> rfl) | (simp [*, errW_none, errW_some] <;> rfl), by repeat (first | (with_reducible first | exact HI0.out | apply IsS44.alloc | apply IsS44.drewN | apply IsS44.drew) | exact HI0.out), by repeat (first | (with_reducible first | exact HB.out | apply below_alloc | apply pw_below_drewN | apply below_drew1 | refine below_set ?_ (IsS44.ge HI0.out)) | exact HB.out), by repeat (first | (with_reducible first | exact HK.out | apply KeepBut.set_ | apply keep_drewN | apply keep_drew | apply keep_alloc) | exact HK.out)⟩
           ·rw [if_neg c32] at H
            have c32b0 : decide (t118 < 0) = false := decide_eq_false c32
            clear c32
            have H' := Aside0.mk H
            clear H
            obtain ⟨ASz38_0, cSz38_0, ASz38_1, cSz38_1, HGz38, hgz38, HSz38_0, HSz38_1⟩ := HI0.out
            have hcz38_0 := cellS44_0 HGz38
            have hcz38_1 := cellS44_1 HGz38
            clear HGz38 hgz38
            go_wp2_with (first | (go_at_call 26; (with_reducible refine (runnelref2_Lattice_Below.calls g s0_0 s0_1 x3_1 x4_2 true w0 _ ?side1 ?side2 A18.out).mono ?_); (case side1 => repeat (first | (with_reducible first | exact HI0.out | apply IsS44.alloc | apply IsS44.drewN | apply IsS44.drew) | exact HI0.out)); (case side2 => repeat (first | (with_reducible first | exact HB.out | apply below_alloc | apply pw_below_drewN | apply below_drew1 | refine below_set ?_ (IsS44.ge HI0.out)) | exact HB.out)); rintro e w39 ⟨rfl, hi, hb, hk⟩; have n0_ := Aside0.mk (KeepBut.trans (by repeat (first | (with_reducible first | exact HK.out | apply KeepBut.set_ | apply keep_drewN | apply keep_drew | apply keep_alloc) | exact HK.out)) hk (.inl rfl)); have n1_ := Aside0.mk (hb); have n2_ := Aside0.mk (hi); clear HK; clear HB; clear HI0; have HK := n0_; have HB := n1_; have HI0 := n2_; clear n0_ n1_ n2_; (try clear hb); (try clear hb2); (try clear hk); (try clear hi)) | (go_at_call 26; (with_reducible refine (runnelref2_Lattice_Below.calls g s0_0 s0_1 x4_2 x3_1 false w0 _ ?side1 ?side2 A20.out).mono ?_); (case side1 => repeat (first | (with_reducible first | exact HI0.out | apply IsS44.alloc | apply IsS44.drewN | apply IsS44.drew) | exact HI0.out)); (case side2 => repeat (first | (with_reducible first | exact HB.out | apply below_alloc | apply pw_below_drewN | apply below_drew1 | refine below_set ?_ (IsS44.ge HI0.out)) | exact HB.out)); rintro e w40 ⟨rfl, hi, hb, hk⟩; have n0_ := Aside0.mk (KeepBut.trans (by repeat (first | (with_reducible first | exact HK.out | apply KeepBut.set_ | apply keep_drewN | apply keep_drew | apply keep_alloc) | exact HK.out)) hk (.inl rfl)); have n1_ := Aside0.mk (hb); have n2_ := Aside0.mk (hi); clear HK; clear HB; clear HI0; have HK := n0_; have HB := n1_; have HI0 := n2_; clear n0_ n1_ n2_; (try clear hb); (try clear hb2); (try clear hk); (try clear hi)) | (go_at_call 74; (with_reducible refine (runnelref2_Lattice_Join.calls k2 g s0_0 s0_1 x3_1 x4_2 t117 w0 _ ?side1 ?side2 A25.out).mono ?_); (case side1 => repeat (first | (with_reducible first | exact HI0.out | apply IsS44.alloc | apply IsS44.drewN | apply IsS44.drew) | exact HI0.out)); (case side2 => repeat (first | (with_reducible first | exact HB.out | apply below_alloc | apply pw_below_drewN | apply below_drew1 | refine below_set ?_ (IsS44.ge HI0.out)) | exact HB.out)); rintro e w41 ⟨rfl, hi, hb, hk⟩; have n0_ := Aside0.mk (KeepBut.trans (by repeat (first | (with_reducible first | exact HK.out | apply KeepBut.set_ | apply keep_drewN | apply keep_drew | apply keep_alloc) | exact HK.out)) hk (.inl rfl)); have n1_ := Aside0.mk (hb); have n2_ := Aside0.mk (hi); clear HK; clear HB; clear HI0; have HK := n0_; have HB := n1_; have HI0 := n2_; clear n0_ n1_ n2_; (try clear hb); (try clear hb2); (try clear hk); (try clear hi)) | (go_at_call 75; (with_reducible refine (runnelref2_Lattice_Meet.calls k2 g s0_0 s0_1 x3_1 x4_2 t118 w0 _ ?side1 ?side2 A31.out).mono ?_); (case side1 => repeat (first | (with_reducible first | exact HI0.out | apply IsS44.alloc | apply IsS44.drewN | apply IsS44.drew) | exact HI0.out)); (case side2 => repeat (first | (with_reducible first | exact HB.out | apply below_alloc | apply pw_below_drewN | apply below_drew1 | refine below_set ?_ (IsS44.ge HI0.out)) | exact HB.out)); rintro e w42 ⟨rfl, hi, hb, hk⟩; have n0_ := Aside0.mk (KeepBut.trans (by repeat (first | (with_reducible first | exact HK.out | apply KeepBut.set_ | apply keep_drewN | apply keep_drew | apply keep_alloc) | exact HK.out)) hk (.inl rfl)); have n1_ := Aside0.mk (hb); have n2_ := Aside0.mk (hi); clear HK; clear HB; clear HI0; have HK := n0_; have HB := n1_; have HI0 := n2_; clear n0_ n1_ n2_; (try clear hb); (try clear hb2); (try clear hk); (try clear hi)))
            go_roundg k2
            case measure => have := HK1.out; have := HK2.out; omega
            case rel => exact ⟨(wrap64 (x4_2 + 1)), (by first | rfl | (simp; done) | (simp [*]; done)), H', ⟨by have := HK1.out; have := HK2.out; omega⟩, ⟨by repeat (first | (with_reducible first | exact HI0.out | apply IsS44.alloc | apply IsS44.drewN | apply IsS44.drew) | exact HI0.out)⟩, ⟨by repeat (first | (with_reducible first | exact HK.out | apply KeepBut.set_ | apply keep_drewN | apply keep_drew | apply keep_alloc) | exact HK.out)⟩, ⟨by repeat (first | (with_reducible first | exact HB.out | apply below_alloc | apply pw_below_drewN | apply below_drew1 | refine below_set ?_ (IsS44.ge HI0.out)) | exact HB.out)⟩⟩
        ·replace c19 := Bool.eq_false_iff.mpr c19
         subst c19
         have H1 : ((runnelref2_Lattice_Join.f k2 s0_0 s0_1 x3_1 x4_2).bind fun t119 => (if t119 < 0 then (some false) else ((runnelref2_Lattice_Meet.f k2 s0_0 s0_1 x3_1 x4_2).bind fun t120 => (if t120 < 0 then (some false) else (runnelref2_Lattice_lattice.l1 k2 x3_1 (wrap64 (x4_2 + 1)) s0_0 s0_1))))) = some r := by rw [if_neg (show ¬ (false = true) by decide)] at H; exact H
         clear H
         have H := H1
         clear H1
         replace H := Option.bind_eq_some_iff.mp H
         obtain ⟨t119, A430, H⟩ := H
         replace H : (if t119 < 0 then (some false) else ((runnelref2_Lattice_Meet.f k2 s0_0 s0_1 x3_1 x4_2).bind fun t120 => (if t120 < 0 then (some false) else (runnelref2_Lattice_lattice.l1 k2 x3_1 (wrap64 (x4_2 + 1)) s0_0 s0_1)))) = some r := H
         have A43 := Aside0.mk A430
         clear A430
         by_cases c44 : t119 < 0
         ·rw [if_pos c44] at H
          have c44b0 : decide (t119 < 0) = true := decide_eq_true c44
          clear c44
          obtain rfl := Option.some.inj H
          obtain ⟨ASz45_0, cSz45_0, ASz45_1, cSz45_1, HGz45, hgz45, HSz45_0, HSz45_1⟩ := HI0.out
          have hcz45_0 := cellS44_0 HGz45
          have hcz45_1 := cellS44_1 HGz45
          clear HGz45 hgz45
          go_wp2_with (first | (go_at_call 26; (with_reducible refine (runnelref2_Lattice_Below.calls g s0_0 s0_1 x3_1 x4_2 false w0 _ ?side1 ?side2 A18.out).mono ?_); (case side1 => repeat (first | (with_reducible first | exact HI0.out | apply IsS44.alloc | apply IsS44.drewN | apply IsS44.drew) | exact HI0.out)); (case side2 => repeat (first | (with_reducible first | exact HB.out | apply below_alloc | apply pw_below_drewN | apply below_drew1 | refine below_set ?_ (IsS44.ge HI0.out)) | exact HB.out)); rintro e w46 ⟨rfl, hi, hb, hk⟩; have n0_ := Aside0.mk (KeepBut.trans (by repeat (first | (with_reducible first | exact HK.out | apply KeepBut.set_ | apply keep_drewN | apply keep_drew | apply keep_alloc) | exact HK.out)) hk (.inl rfl)); have n1_ := Aside0.mk (hb); have n2_ := Aside0.mk (hi); clear HK; clear HB; clear HI0; have HK := n0_; have HB := n1_; have HI0 := n2_; clear n0_ n1_ n2_; (try clear hb); (try clear hb2); (try clear hk); (try clear hi)) | (go_at_call 74; (with_reducible refine (runnelref2_Lattice_Join.calls k2 g s0_0 s0_1 x3_1 x4_2 t119 w0 _ ?side1 ?side2 A43.out).mono ?_); (case side1 => repeat (first | (with_reducible first | exact HI0.out | apply IsS44.alloc | apply IsS44.drewN | apply IsS44.drew) | exact HI0.out)); (case side2 => repeat (first | (with_reducible first | exact HB.out | apply below_alloc | apply pw_below_drewN | apply below_drew1 | refine below_set ?_ (IsS44.ge HI0.out)) | exact HB.out)); rintro e w47 ⟨rfl, hi, hb, hk⟩; have n0_ := Aside0.mk (KeepBut.trans (by repeat (first | (with_reducible first | exact HK.out | apply KeepBut.set_ | apply keep_drewN | apply keep_drew | apply keep_alloc) | exact HK.out)) hk (.inl rfl)); have n1_ := Aside0.mk (hb); have n2_ := Aside0.mk (hi); clear HK; clear HB; clear HI0; have HK := n0_; have HB := n1_; have HI0 := n2_; clear n0_ n1_ n2_; (try clear hb); (try clear hb2); (try clear hk); (try clear hi)))
          go_ret
          exact ⟨by first | rfl | (simp [errW_none, errW_some] <;> rfl) | (simp [*, errW_none, errW_some] <;> rfl), by repeat (first | (with_reducible first | exact HI0.out | apply IsS44.alloc | apply IsS44.drewN | apply IsS44.drew) | exact HI0.out), by repeat (first | (with_reducible first | exact HB.out | apply below_alloc | apply pw_below_drewN | apply below_drew1 | refine below_set ?_ (IsS44.ge HI0.out)) | exact HB.out), by repeat (first | (with_reducible first | exact HK.out | apply KeepBut.set_ | apply keep_drewN | apply keep_drew | apply keep_alloc) | exact HK.out)⟩
         ·rw [if_neg c44] at H
          have c44b0 : decide (t119 < 0) = false := decide_eq_false c44
          clear c44
          replace H := Option.bind_eq_some_iff.mp H
          obtain ⟨t120, A480, H⟩ := H
          replace H : (if t120 < 0 then (some false) else (runnelref2_Lattice_lattice.l1 k2 x3_1 (wrap64 (x4_2 + 1)) s0_0 s0_1)) = some r := H
          have A48 := Aside0.mk A480
          clear A480
          by_cases c49 : t120 < 0
          ·rw [if_pos c49] at H
           have c49b0 : decide (t120 < 0) = true := decide_eq_true c49
           clear c49
           obtain rfl := Option.some.inj H
           obtain ⟨ASz50_0, cSz50_0, ASz50_1, cSz50_1, HGz50, hgz50, HSz50_0, HSz50_1⟩ := HI0.out
           have hcz50_0 := cellS44_0 HGz50
           have hcz50_1 := cellS44_1 HGz50
           clear HGz50 hgz50
           go_wp2_with (first | (go_at_call 26; (with_reducible refine (runnelref2_Lattice_Below.calls g s0_0 s0_1 x3_1 x4_2 false w0 _ ?side1 ?side2 A18.out).mono ?_); (case side1 => repeat (first | (with_reducible first | exact HI0.out | apply IsS44.alloc | apply IsS44.drewN | apply IsS44.drew) | exact HI0.out)); (case side2 => repeat (first | (with_reducible first | exact HB.out | apply below_alloc | apply pw_below_drewN | apply below_drew1 | refine below_set ?_ (IsS44.ge HI0.out)) | exact HB.out)); rintro e w51 ⟨rfl, hi, hb, hk⟩; have n0_ := Aside0.mk (KeepBut.trans (by repeat (first | (with_reducible first | exact HK.out | apply KeepBut.set_ | apply keep_drewN | apply keep_drew | apply keep_alloc) | exact HK.out)) hk (.inl rfl)); have n1_ := Aside0.mk (hb); have n2_ := Aside0.mk (hi); clear HK; clear HB; clear HI0; have HK := n0_; have HB := n1_; have HI0 := n2_; clear n0_ n1_ n2_; (try clear hb); (try clear hb2); (try clear hk); (try clear hi)) | (go_at_call 74; (with_reducible refine (runnelref2_Lattice_Join.calls k2 g s0_0 s0_1 x3_1 x4_2 t119 w0 _ ?side1 ?side2 A43.out).mono ?_); (case side1 => repeat (first | (with_reducible first | exact HI0.out | apply IsS44.alloc | apply IsS44.drewN | apply IsS44.drew) | exact HI0.out)); (case side2 => repeat (first | (with_reducible first | exact HB.out | apply below_alloc | apply pw_below_drewN | apply below_drew1 | refine below_set ?_ (IsS44.ge HI0.out)) | exact HB.out)); rintro e w52 ⟨rfl, hi, hb, hk⟩; have n0_ := Aside0.mk (KeepBut.trans (by repeat (first | (with_reducible first | exact HK.out | apply KeepBut.set_ | apply keep_drewN | apply keep_drew | apply keep_alloc) | exact HK.out)) hk (.inl rfl)); have n1_ := Aside0.mk (hb); have n2_ := Aside0.mk (hi); clear HK; clear HB; clear HI0; have HK := n0_; have HB := n1_; have HI0 := n2_; clear n0_ n1_ n2_; (try clear hb); (try clear hb2); (try clear hk); (try clear hi)) | (go_at_call 75; (with_reducible refine (runnelref2_Lattice_Meet.calls k2 g s0_0 s0_1 x3_1 x4_2 t120 w0 _ ?side1 ?side2 A48.out).mono ?_); (case side1 => repeat (first | (with_reducible first | exact HI0.out | apply IsS44.alloc | apply IsS44.drewN | apply IsS44.drew) | exact HI0.out)); (case side2 => repeat (first | (with_reducible first | exact HB.out | apply below_alloc | apply pw_below_drewN | apply below_drew1 | refine below_set ?_ (IsS44.ge HI0.out)) | exact HB.out)); rintro e w53 ⟨rfl, hi, hb, hk⟩; have n0_ := Aside0.mk (KeepBut.trans (by repeat (first | (with_reducible first | exact HK.out | apply KeepBut.set_ | apply keep_drewN | apply keep_drew | apply keep_alloc) | exact HK.out)) hk (.inl rfl)); have n1_ := Aside0.mk (hb); have n2_ := Aside0.mk (hi); clear HK; clear HB; clear HI0; have HK := n0_; have HB := n1_; have HI0 := n2_; clear n0_ n1_ n2_; (try clear hb); (try clear hb2); (try clear hk); (try clear hi)))
           go_ret
           exact ⟨by first | rfl | (simp [errW_none, errW_some] <;> rfl) | (simp [*, errW_none, errW_some] <;> rfl), by repeat (first | (with_reducible first | exact HI0.out | apply IsS44.alloc | apply IsS44.drewN | apply IsS44.drew) | exact HI0.out), by repeat (first | (with_reducible first | exact HB.out | apply below_alloc | apply pw_below_drewN | apply below_drew1 | refine below_set ?_ (IsS44.ge HI0.out)) | exact HB.out), by repeat (first | (with_reducible first | exact HK.out | apply KeepBut.set_ | apply keep_drewN | apply keep_drew | apply keep_alloc) | exact HK.out)⟩
          ·rw [if_neg c49] at H
           have c49b0 : decide (t120 < 0) = false := decide_eq_false c49
           clear c49
           have H' := Aside0.mk H
           clear H
           obtain ⟨ASz54_0, cSz54_0, ASz54_1, cSz54_1, HGz54, hgz54, HSz54_0, HSz54_1⟩ := HI0.out
           have hcz54_0 := cellS44_0 HGz54
           have hcz54_1 := cellS44_1 HGz54
           clear HGz54 hgz54
           go_wp2_with (first | (go_at_call 26; (with_reducible refine (runnelref2_Lattice_Below.calls g s0_0 s0_1 x3_1 x4_2 false w0 _ ?side1 ?side2 A18.out).mono ?_); (case side1 => repeat (first | (with_reducible first | exact HI0.out | apply IsS44.alloc | apply IsS44.drewN | apply IsS44.drew) | exact HI0.out)); (case side2 => repeat (first | (with_reducible first | exact HB.out | apply below_alloc | apply pw_below_drewN | apply below_drew1 | refine below_set ?_ (IsS44.ge HI0.out)) | exact HB.out)); rintro e w55 ⟨rfl, hi, hb, hk⟩; have n0_ := Aside0.mk (KeepBut.trans (by repeat (first | (with_reducible first | exact HK.out | apply KeepBut.set_ | apply keep_drewN | apply keep_drew | apply keep_alloc) | exact HK.out)) hk (.inl rfl)); have n1_ := Aside0.mk (hb); have n2_ := Aside0.mk (hi); clear HK; clear HB; clear HI0; have HK := n0_; have HB := n1_; have HI0 := n2_; clear n0_ n1_ n2_; (try clear hb); (try clear hb2); (try clear hk); (try clear hi)) | (go_at_call 74; (with_reducible refine (runnelref2_Lattice_Join.calls k2 g s0_0 s0_1 x3_1 x4_2 t119 w0 _ ?side1 ?side2 A43.out).mono ?_); (case side1 => repeat (first | (with_reducible first | exact HI0.out | apply IsS44.alloc | apply IsS44.drewN | apply IsS44.drew) | exact HI0.out)); (case side2 => repeat (first | (with_reducible first | exact HB.out | apply below_alloc | apply pw_below_drewN | apply below_drew1 | refine below_set ?_ (IsS44.ge HI0.out)) | exact HB.out)); rintro e w56 ⟨rfl, hi, hb, hk⟩; have n0_ := Aside0.mk (KeepBut.trans (by repeat (first | (with_reducible first | exact HK.out | apply KeepBut.set_ | apply keep_drewN | apply keep_drew | apply keep_alloc) | exact HK.out)) hk (.inl rfl)); have n1_ := Aside0.mk (hb); have n2_ := Aside0.mk (hi); clear HK; clear HB; clear HI0; have HK := n0_; have HB := n1_; have HI0 := n2_; clear n0_ n1_ n2_; (try clear hb); (try clear hb2); (try clear hk); (try clear hi)) | (go_at_call 75; (with_reducible refine (runnelref2_Lattice_Meet.calls k2 g s0_0 s0_1 x3_1 x4_2 t120 w0 _ ?side1 ?side2 A48.out).mono ?_); (case side1 => repeat (first | (with_reducible first | exact HI0.out | apply IsS44.alloc | apply IsS44.drewN | apply IsS44.drew) | exact HI0.out)); (case side2 => repeat (first | (with_reducible first | exact HB.out | apply below_alloc | apply pw_below_drewN | apply below_drew1 | refine below_set ?_ (IsS44.ge HI0.out)) | exact HB.out)); rintro e w57 ⟨rfl, hi, hb, hk⟩; have n0_ := Aside0.mk (KeepBut.trans (by repeat (first | (with_reducible first | exact HK.out | apply KeepBut.set_ | apply keep_drewN | apply keep_drew | apply keep_alloc) | exact HK.out)) hk (.inl rfl)); have n1_ := Aside0.mk (hb); have n2_ := Aside0.mk (hi); clear HK; clear HB; clear HI0; have HK := n0_; have HB := n1_; have HI0 := n2_; clear n0_ n1_ n2_; (try clear hb); (try clear hb2); (try clear hk); (try clear hi)))
           go_roundg k2
           case measure => have := HK1.out; have := HK2.out; omega
           case rel => exact ⟨(wrap64 (x4_2 + 1)), (by first | rfl | (simp; done) | (simp [*]; done)), H', ⟨by have := HK1.out; have := HK2.out; omega⟩, ⟨by repeat (first | (with_reducible first | exact HI0.out | apply IsS44.alloc | apply IsS44.drewN | apply IsS44.drew) | exact HI0.out)⟩, ⟨by repeat (first | (with_reducible first | exact HK.out | apply KeepBut.set_ | apply keep_drewN | apply keep_drew | apply keep_alloc) | exact HK.out)⟩, ⟨by repeat (first | (with_reducible first | exact HB.out | apply below_alloc | apply pw_below_drewN | apply below_drew1 | refine below_set ?_ (IsS44.ge HI0.out)) | exact HB.out)⟩⟩
      ·rw [if_neg c4] at H
       have c4b0 : decide (x4_2 < (s0_0.length : Int)) = false := decide_eq_false c4
       clear c4
       have H' := Aside0.mk H
       clear H
       obtain ⟨ASz58_0, cSz58_0, ASz58_1, cSz58_1, HGz58, hgz58, HSz58_0, HSz58_1⟩ := HI0.out
       have hcz58_0 := cellS44_0 HGz58
       have hcz58_1 := cellS44_1 HGz58
       clear HGz58 hgz58
       go_wp2
       go_roundg k2
       case measure => have := HK1.out; have := HK2.out; omega
       case rel => exact ⟨(wrap64 (x3_1 + 1)), (by first | rfl | (simp; done) | (simp [*]; done)), H', ⟨by have := HK1.out; have := HK2.out; omega⟩, ⟨by repeat (first | (with_reducible first | exact HI0.out | apply IsS44.alloc | apply IsS44.drewN | apply IsS44.drew) | exact HI0.out)⟩, ⟨by repeat (first | (with_reducible first | exact HK.out | apply KeepBut.set_ | apply keep_drewN | apply keep_drew | apply keep_alloc) | exact HK.out)⟩, ⟨by repeat (first | (with_reducible first | exact HB.out | apply below_alloc | apply pw_below_drewN | apply below_drew1 | refine below_set ?_ (IsS44.ge HI0.out)) | exact HB.out)⟩⟩
   ·rw [if_neg c2] at H
    have c2b0 : decide (x3_1 < (s0_0.length : Int)) = false := decide_eq_false c2
    clear c2
    obtain rfl := Option.some.inj H
    obtain ⟨ASz59_0, cSz59_0, ASz59_1, cSz59_1, HGz59, hgz59, HSz59_0, HSz59_1⟩ := HI0.out
    have hcz59_0 := cellS44_0 HGz59
    have hcz59_1 := cellS44_1 HGz59
    clear HGz59 hgz59
    go_wp2
    go_ret
    exact ⟨by first | rfl | (simp [errW_none, errW_some] <;> rfl) | (simp [*, errW_none, errW_some] <;> rfl), by repeat (first | (with_reducible first | exact HI0.out | apply IsS44.alloc | apply IsS44.drewN | apply IsS44.drew) | exact HI0.out), by repeat (first | (with_reducible first | exact HB.out | apply below_alloc | apply pw_below_drewN | apply below_drew1 | refine below_set ?_ (IsS44.ge HI0.out)) | exact HB.out), by repeat (first | (with_reducible first | exact HK.out | apply KeepBut.set_ | apply keep_drewN | apply keep_drew | apply keep_alloc) | exact HK.out)⟩

/-! ### runnelref2_Lattice_Place: function 51 -/
def runnelref2_Lattice_Place.l0 : Nat → ByteArray → Int → List ByteArray → List (List Bool) → Option (Int)
 | 0, _, _, _, _ => none
 | k + 1, x1, x5, x1000, x1001 => if x5 < (x1000.length : Int) then (if 0 ≤ x5 then (if (rdOf ByteArray.empty x1000 x5).toList = x1.toList then (some x5) else (runnelref2_Lattice_Place.l0 k x1 (wrap64 (x5 + 1)) x1000 x1001)) else (none)) else (some (-1))
def runnelref2_Lattice_Place.f (k : Nat) (s0_0 : List ByteArray) (s0_1 : List (List Bool)) (a1 : ByteArray) : Option (Int) := runnelref2_Lattice_Place.l0 k a1 0 s0_0 s0_1
theorem runnelref2_Lattice_Place.mono_l : ∀ k, (∀ y0 y1 y2 y3, LeO (runnelref2_Lattice_Place.l0 k y0 y1 y2 y3) (runnelref2_Lattice_Place.l0 (k + 1) y0 y1 y2 y3))
 | 0 => fun _ _ _ _ r h => by simp [runnelref2_Lattice_Place.l0] at h
 | k + 1 => by
  have ih0 := runnelref2_Lattice_Place.mono_l k
  ·intro y0 y1 y2 y3
   unfold runnelref2_Lattice_Place.l0
   repeat' first
   | (with_reducible exact ih0 _ _ _ _)
   | (with_reducible exact LeO.refl _)
   | (with_reducible exact LeO.none _)
   | (with_reducible refine LeO.ite ?_ ?_)
   | (with_reducible refine LeO.bind ?_ (fun _ => ?_))
   | exact ih0 _ _ _ _
   | exact LeO.none _
   | refine LeO.ite ?_ ?_
   | refine LeO.bind ?_ (fun _ => ?_)
theorem runnelref2_Lattice_Place.mono : ∀ a0 a1 a2 k, LeO (runnelref2_Lattice_Place.f k a0 a1 a2) (runnelref2_Lattice_Place.f (k + 1) a0 a1 a2) := by
 intro a0 a1 a2 k
 have ih0 := runnelref2_Lattice_Place.mono_l k
 unfold runnelref2_Lattice_Place.f
 repeat' first
   | (with_reducible exact ih0 _ _ _ _)
   | (with_reducible exact LeO.refl _)
   | (with_reducible exact LeO.none _)
   | (with_reducible refine LeO.ite ?_ ?_)
   | (with_reducible refine LeO.bind ?_ (fun _ => ?_))
   | exact ih0 _ _ _ _
   | exact LeO.none _
   | refine LeO.ite ?_ ?_
   | refine LeO.bind ?_ (fun _ => ?_)
set_option maxHeartbeats 8000000 in
set_option maxRecDepth 100000 in
theorem runnelref2_Lattice_Place.calls (k : Nat) (g : Nat) (s0_0 : List ByteArray) (s0_1 : List (List Bool)) (a1 : ByteArray) (r : Int) (w0 w : World) (hI : IsS44 w0 w g s0_0 s0_1) (hB : Below w0.heap.size w0 w) (h : runnelref2_Lattice_Place.f k s0_0 s0_1 a1 = some r) :
  Calls Tryz.prog 51 #[.pointer (some ⟨g, 0, none⟩), .string a1] w fun e w' => e = .returned (.int .i64 r) ∧ IsS44 w0 w' g s0_0 s0_1 ∧ Below w0.heap.size w0 w' ∧ KeepBut w w' g none := by
 have HI0 := Aside0.mk hI
 have HK := Aside0.mk (KeepBut.refl w g none)
 have HL := Aside0.mk hB.size
 clear hI
 have HW0 := Aside0.mk hB.size
 have HB := Aside0.mk hB
 clear hB
 have H : (runnelref2_Lattice_Place.l0 k a1 0 s0_0 s0_1) = some r := h
 clear h
 have H' := Aside0.mk H
 clear H
 go_enter Tryz.func51, Tryz.ntmps51
 go_wp2
 go_loopg [5] k (fun kq v5 w' => ∃ (x5_1 : Int), v5 = .int .i64 x5_1 ∧ Aside0 (runnelref2_Lattice_Place.l0 kq a1 x5_1 s0_0 s0_1 = some r) ∧ Aside0 (kq ≤ k) ∧ Aside0 (IsS44 w0 w' g s0_0 s0_1) ∧ Aside0 (KeepBut w w' g none) ∧ Aside0 (Below w0.heap.size w0 w'))
 case atStart => exact ⟨(0), (by first | rfl | (simp; done) | (simp [*]; done)), H', ⟨Nat.le_refl _⟩, ⟨by repeat (first | (with_reducible first | exact HI0.out | apply IsS44.alloc | apply IsS44.drewN | apply IsS44.drew) | exact HI0.out)⟩, ⟨by repeat (first | (with_reducible first | exact HK.out | apply KeepBut.set_ | apply keep_drewN | apply keep_drew | apply keep_alloc) | exact HK.out)⟩, ⟨by repeat (first | (with_reducible first | exact HB.out | apply below_alloc | apply pw_below_drewN | apply below_drew1 | refine below_set ?_ (IsS44.ge HI0.out)) | exact HB.out)⟩⟩
 case round =>
  clear H'
  try clear p2
  obtain ⟨x5_1, rfl, HA, HK1, HI0, HK, HB⟩ := hrel
  cases gk with
  | zero => exact absurd HA.out (by simp [runnelref2_Lattice_Place.l0])
  | succ k1 =>
   have H := HA.out
   clear HA
   simp only [runnelref2_Lattice_Place.l0] at H
   by_cases c3 : x5_1 < (s0_0.length : Int)
   ·rw [if_pos c3] at H
    have c3b0 : decide (x5_1 < (s0_0.length : Int)) = true := decide_eq_true c3
    clear c3
    by_cases c4 : 0 ≤ x5_1
    ·rw [if_pos c4] at H
     have c4b0 : decide (0 ≤ x5_1) = true := decide_eq_true c4
     clear c4
     by_cases c5 : (rdOf ByteArray.empty s0_0 x5_1).toList = a1.toList
     ·rw [if_pos c5] at H
      have c5b0 : ((rdOf ByteArray.empty s0_0 x5_1).toList == a1.toList) = true := beq_iff_eq.mpr c5
      have c5b1 : ((rdOf ByteArray.empty s0_0 x5_1).toList != a1.toList) = false := bne_eq_false_iff_eq.mpr c5
      clear c5
      obtain rfl := Option.some.inj H
      obtain ⟨ASz6_0, cSz6_0, ASz6_1, cSz6_1, HGz6, hgz6, HSz6_0, HSz6_1⟩ := HI0.out
      have hcz6_0 := cellS44_0 HGz6
      have hcz6_1 := cellS44_1 HGz6
      clear HGz6 hgz6
      have p121 : 0 ≤ (x5_1 : Int) := of_decide_eq_true (by first | (with_reducible assumption) | assumption)
      have q121 : x5_1 < (s0_0.length : Int) := of_decide_eq_true (by first | (with_reducible assumption) | assumption)
      obtain ⟨ad121, e121, hx121_0⟩ := Kd.at_string HSz6_0 x5_1 p121 q121
      cases e121
      replace hx121_0 := pw_cell_below HB.out hx121_0
      replace p121 := eq_true p121
      replace q121 := eq_true q121
      go_wp2
      go_ret
      exact ⟨by first | rfl | (simp [errW_none, errW_some] <;> rfl) | (simp [*, errW_none, errW_some] <;> rfl), by repeat (first | (with_reducible first | exact HI0.out | apply IsS44.alloc | apply IsS44.drewN | apply IsS44.drew) | exact HI0.out), by repeat (first | (with_reducible first | exact HB.out | apply below_alloc | apply pw_below_drewN | apply below_drew1 | refine below_set ?_ (IsS44.ge HI0.out)) | exact HB.out), by repeat (first | (with_reducible first | exact HK.out | apply KeepBut.set_ | apply keep_drewN | apply keep_drew | apply keep_alloc) | exact HK.out)⟩
     ·rw [if_neg c5] at H
      have c5b0 : ((rdOf ByteArray.empty s0_0 x5_1).toList == a1.toList) = false := beq_eq_false_iff_ne.mpr c5
      have c5b1 : ((rdOf ByteArray.empty s0_0 x5_1).toList != a1.toList) = true := bne_iff_ne.mpr c5
      have H' := Aside0.mk H
      clear H
      obtain ⟨ASz7_0, cSz7_0, ASz7_1, cSz7_1, HGz7, hgz7, HSz7_0, HSz7_1⟩ := HI0.out
      have hcz7_0 := cellS44_0 HGz7
      have hcz7_1 := cellS44_1 HGz7
      clear HGz7 hgz7
      have p121 : 0 ≤ (x5_1 : Int) := of_decide_eq_true (by first | (with_reducible assumption) | assumption)
      have q121 : x5_1 < (s0_0.length : Int) := of_decide_eq_true (by first | (with_reducible assumption) | assumption)
      obtain ⟨ad121, e121, hx121_0⟩ := Kd.at_string HSz7_0 x5_1 p121 q121
      cases e121
      replace hx121_0 := pw_cell_below HB.out hx121_0
      replace p121 := eq_true p121
      replace q121 := eq_true q121
      go_wp2
      go_roundg k1
      case measure => have := HK1.out; omega
      case rel => exact ⟨(wrap64 (x5_1 + 1)), (by first | rfl | (simp; done) | (simp [*]; done)), H', ⟨by have := HK1.out; omega⟩, ⟨by repeat (first | (with_reducible first | exact HI0.out | apply IsS44.alloc | apply IsS44.drewN | apply IsS44.drew) | exact HI0.out)⟩, ⟨by repeat (first | (with_reducible first | exact HK.out | apply KeepBut.set_ | apply keep_drewN | apply keep_drew | apply keep_alloc) | exact HK.out)⟩, ⟨by repeat (first | (with_reducible first | exact HB.out | apply below_alloc | apply pw_below_drewN | apply below_drew1 | refine below_set ?_ (IsS44.ge HI0.out)) | exact HB.out)⟩⟩
    ·rw [if_neg c4] at H
     exact absurd H (by simp)
   ·rw [if_neg c3] at H
    have c3b0 : decide (x5_1 < (s0_0.length : Int)) = false := decide_eq_false c3
    clear c3
    obtain rfl := Option.some.inj H
    obtain ⟨ASz8_0, cSz8_0, ASz8_1, cSz8_1, HGz8, hgz8, HSz8_0, HSz8_1⟩ := HI0.out
    have hcz8_0 := cellS44_0 HGz8
    have hcz8_1 := cellS44_1 HGz8
    clear HGz8 hgz8
    go_wp2
    go_ret
    exact ⟨by first | rfl | (simp [errW_none, errW_some] <;> rfl) | (simp [*, errW_none, errW_some] <;> rfl), by repeat (first | (with_reducible first | exact HI0.out | apply IsS44.alloc | apply IsS44.drewN | apply IsS44.drew) | exact HI0.out), by repeat (first | (with_reducible first | exact HB.out | apply below_alloc | apply pw_below_drewN | apply below_drew1 | refine below_set ?_ (IsS44.ge HI0.out)) | exact HB.out), by repeat (first | (with_reducible first | exact HK.out | apply KeepBut.set_ | apply keep_drewN | apply keep_drew | apply keep_alloc) | exact HK.out)⟩

/-! ### runnelref2_Name: function 72 -/
def runnelref2_Name.l0 : Nat → ByteArray → Int → Option (Bool)
 | 0, _, _ => none
 | k + 1, x0, x3 => if x3 < (x0.size : Int) then (if 0 ≤ x3 then (if (bt x0 x3) ≥ 97 then (if ((bt x0 x3) ≤ 122) then (runnelref2_Name.l0 k x0 (wrap64 (x3 + 1))) else (if x3 = 0 then (some false) else (if (bt x0 x3) < 48 then (if (bt x0 x3) = 95 then (runnelref2_Name.l0 k x0 (wrap64 (x3 + 1))) else (some false)) else (if (bt x0 x3) > 57 then (if (bt x0 x3) = 95 then (runnelref2_Name.l0 k x0 (wrap64 (x3 + 1))) else (some false)) else (runnelref2_Name.l0 k x0 (wrap64 (x3 + 1))))))) else (if x3 = 0 then (some false) else (if (bt x0 x3) < 48 then (if (bt x0 x3) = 95 then (runnelref2_Name.l0 k x0 (wrap64 (x3 + 1))) else (some false)) else (if (bt x0 x3) > 57 then (if (bt x0 x3) = 95 then (runnelref2_Name.l0 k x0 (wrap64 (x3 + 1))) else (some false)) else (runnelref2_Name.l0 k x0 (wrap64 (x3 + 1))))))) else (none)) else (if (x0.size : Int) ≥ 1 then (some (decide ((x0.size : Int) ≤ 20))) else (some false))
def runnelref2_Name.f (k : Nat) (a0 : ByteArray) : Option (Bool) := runnelref2_Name.l0 k a0 0
theorem runnelref2_Name.mono_l : ∀ k, (∀ y0 y1, LeO (runnelref2_Name.l0 k y0 y1) (runnelref2_Name.l0 (k + 1) y0 y1))
 | 0 => fun _ _ r h => by simp [runnelref2_Name.l0] at h
 | k + 1 => by
  have ih0 := runnelref2_Name.mono_l k
  ·intro y0 y1
   unfold runnelref2_Name.l0
   repeat' first
   | (with_reducible exact ih0 _ _)
   | (with_reducible exact LeO.refl _)
   | (with_reducible exact LeO.none _)
   | (with_reducible refine LeO.ite ?_ ?_)
   | (with_reducible refine LeO.bind ?_ (fun _ => ?_))
   | exact ih0 _ _
   | exact LeO.none _
   | refine LeO.ite ?_ ?_
   | refine LeO.bind ?_ (fun _ => ?_)
theorem runnelref2_Name.mono : ∀ a0 k, LeO (runnelref2_Name.f k a0) (runnelref2_Name.f (k + 1) a0) := by
 intro a0 k
 have ih0 := runnelref2_Name.mono_l k
 unfold runnelref2_Name.f
 repeat' first
   | (with_reducible exact ih0 _ _)
   | (with_reducible exact LeO.refl _)
   | (with_reducible exact LeO.none _)
   | (with_reducible refine LeO.ite ?_ ?_)
   | (with_reducible refine LeO.bind ?_ (fun _ => ?_))
   | exact ih0 _ _
   | exact LeO.none _
   | refine LeO.ite ?_ ?_
   | refine LeO.bind ?_ (fun _ => ?_)
set_option maxHeartbeats 8000000 in
set_option maxRecDepth 100000 in
theorem runnelref2_Name.calls (k : Nat) (a0 : ByteArray) (r : Bool) (w : World) (h : runnelref2_Name.f k a0 = some r) :
  Calls Tryz.prog 72 #[.string a0] w fun e w' => e = .returned (.bool r) ∧ Drawn0 w w' := by
 have H : (runnelref2_Name.l0 k a0 0) = some r := h
 clear h
 have H' := Aside0.mk H
 clear H
 go_enter Tryz.func72, Tryz.ntmps72
 go_wp2
 go_loopg [3] k (fun kq v3 w' => ∃ (x3_1 : Int), v3 = .int .i64 x3_1 ∧ Aside0 (runnelref2_Name.l0 kq a0 x3_1 = some r) ∧ Aside0 (kq ≤ k) ∧ Drawn0 w w')
 case atStart => exact ⟨(0), (by first | rfl | (simp; done) | (simp [*]; done)), H', ⟨Nat.le_refl _⟩, by repeat (first | exact Drawn0.refl _ | apply Drawn0.step)⟩
 case round =>
  clear H'
  obtain ⟨x3_1, rfl, HA, HK1, ⟨m1, rfl⟩⟩ := hrel
  cases gk with
  | zero => exact absurd HA.out (by simp [runnelref2_Name.l0])
  | succ k1 =>
   have H := HA.out
   clear HA
   simp only [runnelref2_Name.l0] at H
   by_cases c2 : x3_1 < (a0.size : Int)
   ·rw [if_pos c2] at H
    have c2b0 : decide (x3_1 < (a0.size : Int)) = true := decide_eq_true c2
    clear c2
    by_cases c3 : 0 ≤ x3_1
    ·rw [if_pos c3] at H
     have c3b0 : decide (0 ≤ x3_1) = true := decide_eq_true c3
     clear c3
     by_cases c5 : (bt a0 x3_1) ≥ 97
     ·rw [if_pos c5] at H
      have c5b0 : decide (97 ≤ (bt a0 x3_1)) = true := decide_eq_true c5
      clear c5
      by_cases c6 : ((bt a0 x3_1) ≤ 122)
      ·rw [if_pos c6] at H
       have c6b0 : decide ((bt a0 x3_1) ≤ 122) = true := decide_eq_true c6
       clear c6
       have H' := Aside0.mk H
       clear H
       have p4 : 0 ≤ (x3_1 : Int) := of_decide_eq_true (by first | (with_reducible assumption) | assumption)
       have q4 : x3_1 < (a0.size : Int) := of_decide_eq_true (by first | (with_reducible assumption) | assumption)
       have hx4 := bt_at a0 x3_1
       replace p4 := eq_true p4
       replace q4 := eq_true q4
       go_wp2
       go_roundg k1
       case measure => have := HK1.out; omega
       case rel => exact ⟨(wrap64 (x3_1 + 1)), (by first | rfl | (simp; done) | (simp [*]; done)), H', ⟨by have := HK1.out; omega⟩, by repeat (first | exact Drawn0.refl _ | apply Drawn0.step)⟩
      ·rw [if_neg c6] at H
       have c6b0 : decide ((bt a0 x3_1) ≤ 122) = false := decide_eq_false c6
       clear c6
       by_cases c7 : x3_1 = 0
       ·rw [if_pos c7] at H
        have c7b0 : (x3_1 == 0) = true := beq_iff_eq.mpr c7
        have c7b1 : (x3_1 != 0) = false := bne_eq_false_iff_eq.mpr c7
        clear c7
        obtain rfl := Option.some.inj H
        have p4 : 0 ≤ (x3_1 : Int) := of_decide_eq_true (by first | (with_reducible assumption) | assumption)
        have q4 : x3_1 < (a0.size : Int) := of_decide_eq_true (by first | (with_reducible assumption) | assumption)
        have hx4 := bt_at a0 x3_1
        replace p4 := eq_true p4
        replace q4 := eq_true q4
        go_wp2
        go_ret
        exact ⟨by first | rfl | (simp; done) | (simp [*]; done), by repeat (first | exact Drawn0.refl _ | apply Drawn0.step)⟩
       ·rw [if_neg c7] at H
        have c7b0 : (x3_1 == 0) = false := beq_eq_false_iff_ne.mpr c7
        have c7b1 : (x3_1 != 0) = true := bne_iff_ne.mpr c7
        by_cases c8 : (bt a0 x3_1) < 48
        ·rw [if_pos c8] at H
         have c8b0 : decide ((bt a0 x3_1) < 48) = true := decide_eq_true c8
         clear c8
         by_cases c9 : (bt a0 x3_1) = 95
         ·rw [if_pos c9] at H
          have c9b0 : ((bt a0 x3_1) == 95) = true := beq_iff_eq.mpr c9
          have c9b1 : ((bt a0 x3_1) != 95) = false := bne_eq_false_iff_eq.mpr c9
          clear c9
          have H' := Aside0.mk H
          clear H
          have p4 : 0 ≤ (x3_1 : Int) := of_decide_eq_true (by first | (with_reducible assumption) | assumption)
          have q4 : x3_1 < (a0.size : Int) := of_decide_eq_true (by first | (with_reducible assumption) | assumption)
          have hx4 := bt_at a0 x3_1
          replace p4 := eq_true p4
          replace q4 := eq_true q4
          go_wp2
          go_roundg k1
          case measure => have := HK1.out; omega
          case rel => exact ⟨(wrap64 (x3_1 + 1)), (by first | rfl | (simp; done) | (simp [*]; done)), H', ⟨by have := HK1.out; omega⟩, by repeat (first | exact Drawn0.refl _ | apply Drawn0.step)⟩
         ·rw [if_neg c9] at H
          have c9b0 : ((bt a0 x3_1) == 95) = false := beq_eq_false_iff_ne.mpr c9
          have c9b1 : ((bt a0 x3_1) != 95) = true := bne_iff_ne.mpr c9
          obtain rfl := Option.some.inj H
          have p4 : 0 ≤ (x3_1 : Int) := of_decide_eq_true (by first | (with_reducible assumption) | assumption)
          have q4 : x3_1 < (a0.size : Int) := of_decide_eq_true (by first | (with_reducible assumption) | assumption)
          have hx4 := bt_at a0 x3_1
          replace p4 := eq_true p4
          replace q4 := eq_true q4
          go_wp2
          go_ret
          exact ⟨by first | rfl | (simp; done) | (simp [*]; done), by repeat (first | exact Drawn0.refl _ | apply Drawn0.step)⟩
        ·rw [if_neg c8] at H
         have c8b0 : decide ((bt a0 x3_1) < 48) = false := decide_eq_false c8
         clear c8
         by_cases c10 : (bt a0 x3_1) > 57
         ·rw [if_pos c10] at H
          have c10b0 : decide (57 < (bt a0 x3_1)) = true := decide_eq_true c10
          clear c10
          by_cases c11 : (bt a0 x3_1) = 95
          ·rw [if_pos c11] at H
           have c11b0 : ((bt a0 x3_1) == 95) = true := beq_iff_eq.mpr c11
           have c11b1 : ((bt a0 x3_1) != 95) = false := bne_eq_false_iff_eq.mpr c11
           clear c11
           have H' := Aside0.mk H
           clear H
           have p4 : 0 ≤ (x3_1 : Int) := of_decide_eq_true (by first | (with_reducible assumption) | assumption)
           have q4 : x3_1 < (a0.size : Int) := of_decide_eq_true (by first | (with_reducible assumption) | assumption)
           have hx4 := bt_at a0 x3_1
           replace p4 := eq_true p4
           replace q4 := eq_true q4
           go_wp2
           go_roundg k1
           case measure => have := HK1.out; omega
           case rel => exact ⟨(wrap64 (x3_1 + 1)), (by first | rfl | (simp; done) | (simp [*]; done)), H', ⟨by have := HK1.out; omega⟩, by repeat (first | exact Drawn0.refl _ | apply Drawn0.step)⟩
          ·rw [if_neg c11] at H
           have c11b0 : ((bt a0 x3_1) == 95) = false := beq_eq_false_iff_ne.mpr c11
           have c11b1 : ((bt a0 x3_1) != 95) = true := bne_iff_ne.mpr c11
           obtain rfl := Option.some.inj H
           have p4 : 0 ≤ (x3_1 : Int) := of_decide_eq_true (by first | (with_reducible assumption) | assumption)
           have q4 : x3_1 < (a0.size : Int) := of_decide_eq_true (by first | (with_reducible assumption) | assumption)
           have hx4 := bt_at a0 x3_1
           replace p4 := eq_true p4
           replace q4 := eq_true q4
           go_wp2
           go_ret
           exact ⟨by first | rfl | (simp; done) | (simp [*]; done), by repeat (first | exact Drawn0.refl _ | apply Drawn0.step)⟩
         ·rw [if_neg c10] at H
          have c10b0 : decide (57 < (bt a0 x3_1)) = false := decide_eq_false c10
          clear c10
          have H' := Aside0.mk H
          clear H
          have p4 : 0 ≤ (x3_1 : Int) := of_decide_eq_true (by first | (with_reducible assumption) | assumption)
          have q4 : x3_1 < (a0.size : Int) := of_decide_eq_true (by first | (with_reducible assumption) | assumption)
          have hx4 := bt_at a0 x3_1
          replace p4 := eq_true p4
          replace q4 := eq_true q4
          go_wp2
          go_roundg k1
          case measure => have := HK1.out; omega
          case rel => exact ⟨(wrap64 (x3_1 + 1)), (by first | rfl | (simp; done) | (simp [*]; done)), H', ⟨by have := HK1.out; omega⟩, by repeat (first | exact Drawn0.refl _ | apply Drawn0.step)⟩
     ·rw [if_neg c5] at H
      have c5b0 : decide (97 ≤ (bt a0 x3_1)) = false := decide_eq_false c5
      clear c5
      by_cases c12 : x3_1 = 0
      ·rw [if_pos c12] at H
       have c12b0 : (x3_1 == 0) = true := beq_iff_eq.mpr c12
       have c12b1 : (x3_1 != 0) = false := bne_eq_false_iff_eq.mpr c12
       clear c12
       obtain rfl := Option.some.inj H
       have p4 : 0 ≤ (x3_1 : Int) := of_decide_eq_true (by first | (with_reducible assumption) | assumption)
       have q4 : x3_1 < (a0.size : Int) := of_decide_eq_true (by first | (with_reducible assumption) | assumption)
       have hx4 := bt_at a0 x3_1
       replace p4 := eq_true p4
       replace q4 := eq_true q4
       go_wp2
       go_ret
       exact ⟨by first | rfl | (simp; done) | (simp [*]; done), by repeat (first | exact Drawn0.refl _ | apply Drawn0.step)⟩
      ·rw [if_neg c12] at H
       have c12b0 : (x3_1 == 0) = false := beq_eq_false_iff_ne.mpr c12
       have c12b1 : (x3_1 != 0) = true := bne_iff_ne.mpr c12
       by_cases c13 : (bt a0 x3_1) < 48
       ·rw [if_pos c13] at H
        have c13b0 : decide ((bt a0 x3_1) < 48) = true := decide_eq_true c13
        clear c13
        by_cases c14 : (bt a0 x3_1) = 95
        ·rw [if_pos c14] at H
         have c14b0 : ((bt a0 x3_1) == 95) = true := beq_iff_eq.mpr c14
         have c14b1 : ((bt a0 x3_1) != 95) = false := bne_eq_false_iff_eq.mpr c14
         clear c14
         have H' := Aside0.mk H
         clear H
         have p4 : 0 ≤ (x3_1 : Int) := of_decide_eq_true (by first | (with_reducible assumption) | assumption)
         have q4 : x3_1 < (a0.size : Int) := of_decide_eq_true (by first | (with_reducible assumption) | assumption)
         have hx4 := bt_at a0 x3_1
         replace p4 := eq_true p4
         replace q4 := eq_true q4
         go_wp2
         go_roundg k1
         case measure => have := HK1.out; omega
         case rel => exact ⟨(wrap64 (x3_1 + 1)), (by first | rfl | (simp; done) | (simp [*]; done)), H', ⟨by have := HK1.out; omega⟩, by repeat (first | exact Drawn0.refl _ | apply Drawn0.step)⟩
        ·rw [if_neg c14] at H
         have c14b0 : ((bt a0 x3_1) == 95) = false := beq_eq_false_iff_ne.mpr c14
         have c14b1 : ((bt a0 x3_1) != 95) = true := bne_iff_ne.mpr c14
         obtain rfl := Option.some.inj H
         have p4 : 0 ≤ (x3_1 : Int) := of_decide_eq_true (by first | (with_reducible assumption) | assumption)
         have q4 : x3_1 < (a0.size : Int) := of_decide_eq_true (by first | (with_reducible assumption) | assumption)
         have hx4 := bt_at a0 x3_1
         replace p4 := eq_true p4
         replace q4 := eq_true q4
         go_wp2
         go_ret
         exact ⟨by first | rfl | (simp; done) | (simp [*]; done), by repeat (first | exact Drawn0.refl _ | apply Drawn0.step)⟩
       ·rw [if_neg c13] at H
        have c13b0 : decide ((bt a0 x3_1) < 48) = false := decide_eq_false c13
        clear c13
        by_cases c15 : (bt a0 x3_1) > 57
        ·rw [if_pos c15] at H
         have c15b0 : decide (57 < (bt a0 x3_1)) = true := decide_eq_true c15
         clear c15
         by_cases c16 : (bt a0 x3_1) = 95
         ·rw [if_pos c16] at H
          have c16b0 : ((bt a0 x3_1) == 95) = true := beq_iff_eq.mpr c16
          have c16b1 : ((bt a0 x3_1) != 95) = false := bne_eq_false_iff_eq.mpr c16
          clear c16
          have H' := Aside0.mk H
          clear H
          have p4 : 0 ≤ (x3_1 : Int) := of_decide_eq_true (by first | (with_reducible assumption) | assumption)
          have q4 : x3_1 < (a0.size : Int) := of_decide_eq_true (by first | (with_reducible assumption) | assumption)
          have hx4 := bt_at a0 x3_1
          replace p4 := eq_true p4
          replace q4 := eq_true q4
          go_wp2
          go_roundg k1
          case measure => have := HK1.out; omega
          case rel => exact ⟨(wrap64 (x3_1 + 1)), (by first | rfl | (simp; done) | (simp [*]; done)), H', ⟨by have := HK1.out; omega⟩, by repeat (first | exact Drawn0.refl _ | apply Drawn0.step)⟩
         ·rw [if_neg c16] at H
          have c16b0 : ((bt a0 x3_1) == 95) = false := beq_eq_false_iff_ne.mpr c16
          have c16b1 : ((bt a0 x3_1) != 95) = true := bne_iff_ne.mpr c16
          obtain rfl := Option.some.inj H
          have p4 : 0 ≤ (x3_1 : Int) := of_decide_eq_true (by first | (with_reducible assumption) | assumption)
          have q4 : x3_1 < (a0.size : Int) := of_decide_eq_true (by first | (with_reducible assumption) | assumption)
          have hx4 := bt_at a0 x3_1
          replace p4 := eq_true p4
          replace q4 := eq_true q4
          go_wp2
          go_ret
          exact ⟨by first | rfl | (simp; done) | (simp [*]; done), by repeat (first | exact Drawn0.refl _ | apply Drawn0.step)⟩
        ·rw [if_neg c15] at H
         have c15b0 : decide (57 < (bt a0 x3_1)) = false := decide_eq_false c15
         clear c15
         have H' := Aside0.mk H
         clear H
         have p4 : 0 ≤ (x3_1 : Int) := of_decide_eq_true (by first | (with_reducible assumption) | assumption)
         have q4 : x3_1 < (a0.size : Int) := of_decide_eq_true (by first | (with_reducible assumption) | assumption)
         have hx4 := bt_at a0 x3_1
         replace p4 := eq_true p4
         replace q4 := eq_true q4
         go_wp2
         go_roundg k1
         case measure => have := HK1.out; omega
         case rel => exact ⟨(wrap64 (x3_1 + 1)), (by first | rfl | (simp; done) | (simp [*]; done)), H', ⟨by have := HK1.out; omega⟩, by repeat (first | exact Drawn0.refl _ | apply Drawn0.step)⟩
    ·rw [if_neg c3] at H
     exact absurd H (by simp)
   ·rw [if_neg c2] at H
    have c2b0 : decide (x3_1 < (a0.size : Int)) = false := decide_eq_false c2
    clear c2
    by_cases c17 : (a0.size : Int) ≥ 1
    ·rw [if_pos c17] at H
     have c17b0 : decide (1 ≤ (a0.size : Int)) = true := decide_eq_true c17
     have c17b1 : decide (1 ≤ a0.size) = true := decide_eq_true (by omega)
     clear c17
     obtain rfl := Option.some.inj H
     go_wp2
     go_ret
     exact ⟨by first | rfl | (simp; done) | (simp [*]; done), by repeat (first | exact Drawn0.refl _ | apply Drawn0.step)⟩
    ·rw [if_neg c17] at H
     have c17b0 : decide (1 ≤ (a0.size : Int)) = false := decide_eq_false c17
     have c17b1 : decide (1 ≤ a0.size) = false := decide_eq_false (by omega)
     clear c17
     obtain rfl := Option.some.inj H
     go_wp2
     go_ret
     exact ⟨by first | rfl | (simp; done) | (simp [*]; done), by repeat (first | exact Drawn0.refl _ | apply Drawn0.step)⟩

/-- THE ONE PURE STATEMENT of runnelref2_Name: yours. -/
def runnelref2_Name.Pure : Prop := ∀ (a0 : ByteArray), a0.size ≤ 140737488351232 → ∃ k, runnelref2_Name.f k a0 = some true
theorem runnelref2_Name.walk (P : runnelref2_Name.Pure) (a0 : ByteArray) (w : World) (w0 : a0.size ≤ 140737488351232) :
  Calls Tryz.prog 72 #[.string a0] w fun e w' => e = .returned (.bool true) ∧ Below w.heap.size w w' := by
 obtain ⟨k, h⟩ := P a0 w0
 refine (runnelref2_Name.calls k a0 true w h).mono ?_
 rintro e w' ⟨rfl, hd⟩
 exact ⟨rfl, hd.below⟩

/-! ### runnelref2_named: function 50 -/
mutual
def runnelref2_named.j0 : Nat → List ByteArray → Bool → Option (Int)
 | 0, _, _ => none
 | k + 1, x0, x14 => if x14 = true then (some 8) else (runnelref2_named.l0 k x0 0)
def runnelref2_named.l0 : Nat → List ByteArray → Int → Option (Int)
 | 0, _, _ => none
 | k + 1, x0, x3 => if x3 < (x0.length : Int) then (if 0 ≤ x3 then ((runnelref2_Name.f k (rdOf ByteArray.empty x0 x3)).bind fun t123 => (if t123 = true then (runnelref2_named.l0 k x0 (wrap64 (x3 + 1))) else (some 3))) else (none)) else (runnelref2_named.l1 k x0 0)
def runnelref2_named.l1 : Nat → List ByteArray → Int → Option (Int)
 | 0, _, _ => none
 | k + 1, x0, x5 => if x5 < (x0.length : Int) then (runnelref2_named.l2 k x0 x5 0) else (some 0)
def runnelref2_named.l2 : Nat → List ByteArray → Int → Int → Option (Int)
 | 0, _, _, _ => none
 | k + 1, x0, x5, x6 => if x6 < x5 then (if 0 ≤ x5 then (if x5 < (x0.length : Int) then (if 0 ≤ x6 then (if x6 < (x0.length : Int) then (if (rdOf ByteArray.empty x0 x5).toList = (rdOf ByteArray.empty x0 x6).toList then (some 4) else (runnelref2_named.l2 k x0 x5 (wrap64 (x6 + 1)))) else (none)) else (none)) else (none)) else (none)) else (runnelref2_named.l1 k x0 (wrap64 (x5 + 1)))
end
def runnelref2_named.f (k : Nat) (l0 : List ByteArray) : Option (Int) := if (l0.length : Int) < 1 then (runnelref2_named.j0 k l0 true) else (runnelref2_named.j0 k l0 (decide ((l0.length : Int) > 16)))
theorem runnelref2_named.mono_l : ∀ k, (∀ y0 y1, LeO (runnelref2_named.j0 k y0 y1) (runnelref2_named.j0 (k + 1) y0 y1)) ∧ (∀ y0 y1, LeO (runnelref2_named.l0 k y0 y1) (runnelref2_named.l0 (k + 1) y0 y1)) ∧ (∀ y0 y1, LeO (runnelref2_named.l1 k y0 y1) (runnelref2_named.l1 (k + 1) y0 y1)) ∧ (∀ y0 y1 y2, LeO (runnelref2_named.l2 k y0 y1 y2) (runnelref2_named.l2 (k + 1) y0 y1 y2))
 | 0 => ⟨fun _ _ r h => by simp [runnelref2_named.j0] at h, fun _ _ r h => by simp [runnelref2_named.l0] at h, fun _ _ r h => by simp [runnelref2_named.l1] at h, fun _ _ _ r h => by simp [runnelref2_named.l2] at h⟩
 | k + 1 => by
  obtain ⟨ih0, ih1, ih2, ih3⟩ := runnelref2_named.mono_l k
  refine ⟨?_, ?_, ?_, ?_⟩
  ·intro y0 y1
   unfold runnelref2_named.j0
   repeat' first
   | (with_reducible exact ih0 _ _)
   | (with_reducible exact ih1 _ _)
   | (with_reducible exact ih2 _ _)
   | (with_reducible exact ih3 _ _ _)
   | (with_reducible exact runnelref2_Name.mono _ _)
   | (with_reducible exact LeO.refl _)
   | (with_reducible exact LeO.none _)
   | (with_reducible refine LeO.ite ?_ ?_)
   | (with_reducible refine LeO.bind ?_ (fun _ => ?_))
   | exact ih0 _ _
   | exact ih1 _ _
   | exact ih2 _ _
   | exact ih3 _ _ _
   | exact runnelref2_Name.mono _ _
   | exact LeO.none _
   | refine LeO.ite ?_ ?_
   | refine LeO.bind ?_ (fun _ => ?_)
  ·intro y0 y1
   unfold runnelref2_named.l0
   repeat' first
   | (with_reducible exact ih0 _ _)
   | (with_reducible exact ih1 _ _)
   | (with_reducible exact ih2 _ _)
   | (with_reducible exact ih3 _ _ _)
   | (with_reducible exact runnelref2_Name.mono _ _)
   | (with_reducible exact LeO.refl _)
   | (with_reducible exact LeO.none _)
   | (with_reducible refine LeO.ite ?_ ?_)
   | (with_reducible refine LeO.bind ?_ (fun _ => ?_))
   | exact ih0 _ _
   | exact ih1 _ _
   | exact ih2 _ _
   | exact ih3 _ _ _
   | exact runnelref2_Name.mono _ _
   | exact LeO.none _
   | refine LeO.ite ?_ ?_
   | refine LeO.bind ?_ (fun _ => ?_)
  ·intro y0 y1
   unfold runnelref2_named.l1
   repeat' first
   | (with_reducible exact ih0 _ _)
   | (with_reducible exact ih1 _ _)
   | (with_reducible exact ih2 _ _)
   | (with_reducible exact ih3 _ _ _)
   | (with_reducible exact runnelref2_Name.mono _ _)
   | (with_reducible exact LeO.refl _)
   | (with_reducible exact LeO.none _)
   | (with_reducible refine LeO.ite ?_ ?_)
   | (with_reducible refine LeO.bind ?_ (fun _ => ?_))
   | exact ih0 _ _
   | exact ih1 _ _
   | exact ih2 _ _
   | exact ih3 _ _ _
   | exact runnelref2_Name.mono _ _
   | exact LeO.none _
   | refine LeO.ite ?_ ?_
   | refine LeO.bind ?_ (fun _ => ?_)
  ·intro y0 y1 y2
   unfold runnelref2_named.l2
   repeat' first
   | (with_reducible exact ih0 _ _)
   | (with_reducible exact ih1 _ _)
   | (with_reducible exact ih2 _ _)
   | (with_reducible exact ih3 _ _ _)
   | (with_reducible exact runnelref2_Name.mono _ _)
   | (with_reducible exact LeO.refl _)
   | (with_reducible exact LeO.none _)
   | (with_reducible refine LeO.ite ?_ ?_)
   | (with_reducible refine LeO.bind ?_ (fun _ => ?_))
   | exact ih0 _ _
   | exact ih1 _ _
   | exact ih2 _ _
   | exact ih3 _ _ _
   | exact runnelref2_Name.mono _ _
   | exact LeO.none _
   | refine LeO.ite ?_ ?_
   | refine LeO.bind ?_ (fun _ => ?_)
theorem runnelref2_named.mono : ∀ a0 k, LeO (runnelref2_named.f k a0) (runnelref2_named.f (k + 1) a0) := by
 intro a0 k
 obtain ⟨ih0, ih1, ih2, ih3⟩ := runnelref2_named.mono_l k
 unfold runnelref2_named.f
 repeat' first
   | (with_reducible exact ih0 _ _)
   | (with_reducible exact ih1 _ _)
   | (with_reducible exact ih2 _ _)
   | (with_reducible exact ih3 _ _ _)
   | (with_reducible exact runnelref2_Name.mono _ _)
   | (with_reducible exact LeO.refl _)
   | (with_reducible exact LeO.none _)
   | (with_reducible refine LeO.ite ?_ ?_)
   | (with_reducible refine LeO.bind ?_ (fun _ => ?_))
   | exact ih0 _ _
   | exact ih1 _ _
   | exact ih2 _ _
   | exact ih3 _ _ _
   | exact runnelref2_Name.mono _ _
   | exact LeO.none _
   | refine LeO.ite ?_ ?_
   | refine LeO.bind ?_ (fun _ => ?_)
set_option maxHeartbeats 8000000 in
set_option maxRecDepth 100000 in
theorem runnelref2_named.calls (k : Nat) (A0 : Option Addr) (c0 : Nat) (l0 : List ByteArray) (r : Int) (w : World) (hr0 : Kd.C Kd.string w A0 l0.length l0) (hc0 : l0.length ≤ c0) (h : runnelref2_named.f k l0 = some r) :
  Calls Tryz.prog 50 #[.slice A0 l0.length c0] w fun e w' => e = .returned (.int .i64 r) ∧ Drawn0 w w' := by
 have HR0 := Aside0.mk hr0
 have HC0 := Aside0.mk hc0
 clear hr0 hc0
 have H : (if (l0.length : Int) < 1 then (runnelref2_named.j0 k l0 true) else (runnelref2_named.j0 k l0 (decide ((l0.length : Int) > 16)))) = some r := h
 clear h
 have HC2 := Aside0.mk H
 clear H
 go_enter Tryz.func50, Tryz.ntmps50
 go_upto_region 1 with (fail)
 repeat (go_quiet (fail); go_upto_region 1 with (fail))
 go_cut [14] (fun v14 wc => ∃ (kq : Nat) (x14_1 : Bool), v14 = .bool x14_1 ∧ Aside0 (runnelref2_named.j0 kq l0 x14_1 = some r) ∧ Aside0 (kq ≤ k) ∧ Drawn0 w wc)
 case first =>
  have H := HC2.out
  clear HC2
  by_cases c3 : (l0.length : Int) < 1
  ·rw [if_pos c3] at H
   have c3b0 : decide ((l0.length : Int) < 1) = true := decide_eq_true c3
   have c3b1 : decide (l0.length < 1) = true := decide_eq_true (by omega)
   clear c3
   (first | rw [c3b0] | (simp only [i64_w, i32_w]; rw [c3b0]) | skip)
   have H' := Aside0.mk H
   clear H
   go_wp2
   repeat (go_quiet (fail); try go_wp2)
   go_meet
   case rel => exact ⟨_, (true), (by first | rfl | (simp; done) | (simp [*]; done)), H', ⟨by first | omega | exact Nat.le_refl _⟩, by repeat (first | exact Drawn0.refl _ | apply Drawn0.step)⟩
  ·rw [if_neg c3] at H
   have c3b0 : decide ((l0.length : Int) < 1) = false := decide_eq_false c3
   have c3b1 : decide (l0.length < 1) = false := decide_eq_false (by omega)
   clear c3
   (first | rw [c3b0] | (simp only [i64_w, i32_w]; rw [c3b0]) | skip)
   have H' := Aside0.mk H
   clear H
   go_wp2
   repeat (go_quiet (fail); try go_wp2)
   go_meet
   case rel => exact ⟨_, (decide ((l0.length : Int) > 16)), (by first | rfl | (simp; done) | (simp [*]; done)), H', ⟨by first | omega | exact Nat.le_refl _⟩, by repeat (first | exact Drawn0.refl _ | apply Drawn0.step)⟩
 case rest =>
  clear HC2
  try clear p2
  try clear c3
  try clear c3b0
  try clear c3b1
  obtain ⟨kq, x14_1, rfl, HA, HJ1, ⟨mc1, rfl⟩⟩ := hcut
  cases kq with
  | zero => exact absurd HA.out (by simp [runnelref2_named.j0])
  | succ kj1 =>
   have H := HA.out
   clear HA
   simp only [runnelref2_named.j0] at H
   by_cases c4 : x14_1 = true
   ·subst c4
    have H1 : (some 8) = some r := by rw [if_pos rfl] at H; exact H
    clear H
    have H := H1
    clear H1
    obtain rfl := Option.some.inj H
    go_wp2
    repeat (go_quiet (fail); try go_wp2)
    go_ret
    exact ⟨by first | rfl | (simp; done) | (simp [*]; done), by repeat (first | exact Drawn0.refl _ | apply Drawn0.step)⟩
   ·replace c4 := Bool.eq_false_iff.mpr c4
    subst c4
    have H1 : (runnelref2_named.l0 kj1 l0 0) = some r := by rw [if_neg (show ¬ (false = true) by decide)] at H; exact H
    clear H
    have H := H1
    clear H1
    have H' := Aside0.mk H
    clear H
    go_wp2
    repeat (go_quiet (fail); try go_wp2)
    go_loopg [3] kj1 (fun kq v3 w' => ∃ (x3_2 : Int), v3 = .int .i64 x3_2 ∧ Aside0 (runnelref2_named.l0 kq l0 x3_2 = some r) ∧ Aside0 (kq ≤ kj1) ∧ Drawn0 w w')
    case atStart => exact ⟨(0), (by first | rfl | (simp; done) | (simp [*]; done)), H', ⟨Nat.le_refl _⟩, by repeat (first | exact Drawn0.refl _ | apply Drawn0.step)⟩
    case round =>
     clear H'
     try clear c1
     try clear p2
     try clear c3
     try clear c3b0
     try clear c3b1
     try clear c4
     try clear p2
     obtain ⟨x3_2, rfl, HA, HK2, ⟨m2, rfl⟩⟩ := hrel
     cases gk with
     | zero => exact absurd HA.out (by simp [runnelref2_named.l0])
     | succ k2 =>
      have H := HA.out
      clear HA
      simp only [runnelref2_named.l0] at H
      by_cases c5 : x3_2 < (l0.length : Int)
      ·rw [if_pos c5] at H
       have c5b0 : decide (x3_2 < (l0.length : Int)) = true := decide_eq_true c5
       clear c5
       by_cases c6 : 0 ≤ x3_2
       ·rw [if_pos c6] at H
        have c6b0 : decide (0 ≤ x3_2) = true := decide_eq_true c6
        clear c6
        replace H := Option.bind_eq_some_iff.mp H
        obtain ⟨t123, A70, H⟩ := H
        replace H : (if t123 = true then (runnelref2_named.l0 k2 l0 (wrap64 (x3_2 + 1))) else (some 3)) = some r := H
        have A7 := Aside0.mk A70
        clear A70
        by_cases c8 : t123 = true
        ·subst c8
         have H1 : (runnelref2_named.l0 k2 l0 (wrap64 (x3_2 + 1))) = some r := by rw [if_pos rfl] at H; exact H
         clear H
         have H := H1
         clear H1
         have H' := Aside0.mk H
         clear H
         have p122 : 0 ≤ (x3_2 : Int) := of_decide_eq_true (by first | (with_reducible assumption) | assumption)
         have q122 : x3_2 < (l0.length : Int) := of_decide_eq_true (by first | (with_reducible assumption) | assumption)
         obtain ⟨ad122, e122, hx122_0⟩ := Kd.at_string HR0.out x3_2 p122 q122
         cases e122
         replace p122 := eq_true p122
         replace q122 := eq_true q122
         go_wp2_with (first | (go_at_call 72; (with_reducible refine (runnelref2_Name.calls k2 (rdOf ByteArray.empty l0 x3_2) true _ A7.out).mono ?_); rintro e w' ⟨rfl, ⟨nd, rfl⟩⟩; (try first | exact ⟨rfl, _, World.drewN_drewN _ _ _⟩ | exact ⟨rfl, _, Eq.trans (World.drewN_drewN _ _ _) (congrArg (World.drewN _) (Nat.add_assoc _ _ _))⟩)))
         repeat (go_quiet (first | (go_at_call 72; (with_reducible refine (runnelref2_Name.calls k2 (rdOf ByteArray.empty l0 x3_2) true _ A7.out).mono ?_); rintro e w' ⟨rfl, ⟨nd, rfl⟩⟩; (try first | exact ⟨rfl, _, World.drewN_drewN _ _ _⟩ | exact ⟨rfl, _, Eq.trans (World.drewN_drewN _ _ _) (congrArg (World.drewN _) (Nat.add_assoc _ _ _))⟩))); try go_wp2_with (first | (go_at_call 72; (with_reducible refine (runnelref2_Name.calls k2 (rdOf ByteArray.empty l0 x3_2) true _ A7.out).mono ?_); rintro e w' ⟨rfl, ⟨nd, rfl⟩⟩; (try first | exact ⟨rfl, _, World.drewN_drewN _ _ _⟩ | exact ⟨rfl, _, Eq.trans (World.drewN_drewN _ _ _) (congrArg (World.drewN _) (Nat.add_assoc _ _ _))⟩))))
         go_roundg k2
         case measure => have := HJ1.out; have := HK2.out; omega
         case rel => exact ⟨(wrap64 (x3_2 + 1)), (by first | rfl | (simp; done) | (simp [*]; done)), H', ⟨by have := HJ1.out; have := HK2.out; omega⟩, by repeat (first | exact Drawn0.refl _ | apply Drawn0.step)⟩
        ·replace c8 := Bool.eq_false_iff.mpr c8
         subst c8
         have H1 : (some 3) = some r := by rw [if_neg (show ¬ (false = true) by decide)] at H; exact H
         clear H
         have H := H1
         clear H1
         obtain rfl := Option.some.inj H
         have p122 : 0 ≤ (x3_2 : Int) := of_decide_eq_true (by first | (with_reducible assumption) | assumption)
         have q122 : x3_2 < (l0.length : Int) := of_decide_eq_true (by first | (with_reducible assumption) | assumption)
         obtain ⟨ad122, e122, hx122_0⟩ := Kd.at_string HR0.out x3_2 p122 q122
         cases e122
         replace p122 := eq_true p122
         replace q122 := eq_true q122
         go_wp2_with (first | (go_at_call 72; (with_reducible refine (runnelref2_Name.calls k2 (rdOf ByteArray.empty l0 x3_2) false _ A7.out).mono ?_); rintro e w' ⟨rfl, ⟨nd, rfl⟩⟩; (try first | exact ⟨rfl, _, World.drewN_drewN _ _ _⟩ | exact ⟨rfl, _, Eq.trans (World.drewN_drewN _ _ _) (congrArg (World.drewN _) (Nat.add_assoc _ _ _))⟩)))
         repeat (go_quiet (first | (go_at_call 72; (with_reducible refine (runnelref2_Name.calls k2 (rdOf ByteArray.empty l0 x3_2) false _ A7.out).mono ?_); rintro e w' ⟨rfl, ⟨nd, rfl⟩⟩; (try first | exact ⟨rfl, _, World.drewN_drewN _ _ _⟩ | exact ⟨rfl, _, Eq.trans (World.drewN_drewN _ _ _) (congrArg (World.drewN _) (Nat.add_assoc _ _ _))⟩))); try go_wp2_with (first | (go_at_call 72; (with_reducible refine (runnelref2_Name.calls k2 (rdOf ByteArray.empty l0 x3_2) false _ A7.out).mono ?_); rintro e w' ⟨rfl, ⟨nd, rfl⟩⟩; (try first | exact ⟨rfl, _, World.drewN_drewN _ _ _⟩ | exact ⟨rfl, _, Eq.trans (World.drewN_drewN _ _ _) (congrArg (World.drewN _) (Nat.add_assoc _ _ _))⟩))))
         go_ret
         exact ⟨by first | rfl | (simp; done) | (simp [*]; done), by repeat (first | exact Drawn0.refl _ | apply Drawn0.step)⟩
       ·rw [if_neg c6] at H
        exact absurd H (by simp)
      ·rw [if_neg c5] at H
       have c5b0 : decide (x3_2 < (l0.length : Int)) = false := decide_eq_false c5
       clear c5
       have H' := Aside0.mk H
       clear H
       go_wp2
       repeat (go_quiet (fail); try go_wp2)
       go_loopg [5] k2 (fun kq v5 w' => ∃ (x5_3 : Int), v5 = .int .i64 x5_3 ∧ Aside0 (runnelref2_named.l1 kq l0 x5_3 = some r) ∧ Aside0 (kq ≤ k2) ∧ Drawn0 w w')
       case atStart => exact ⟨(0), (by first | rfl | (simp; done) | (simp [*]; done)), H', ⟨Nat.le_refl _⟩, by repeat (first | exact Drawn0.refl _ | apply Drawn0.step)⟩
       case round =>
        clear H'
        try clear c1
        try clear p1
        try clear q1
        try clear hx1
        try clear p2
        try clear c3
        try clear c3b0
        try clear c3b1
        try clear c4
        try clear c5
        try clear c5b0
        try clear c6
        try clear c6b0
        try clear p6
        try clear c8
        try clear hx122_0
        try clear p122
        try clear p2
        try clear q122
        obtain ⟨x5_3, rfl, HA, HK3, ⟨m3, rfl⟩⟩ := hrel
        cases gk with
        | zero => exact absurd HA.out (by simp [runnelref2_named.l1])
        | succ k3 =>
         have H := HA.out
         clear HA
         simp only [runnelref2_named.l1] at H
         by_cases c9 : x5_3 < (l0.length : Int)
         ·rw [if_pos c9] at H
          have c9b0 : decide (x5_3 < (l0.length : Int)) = true := decide_eq_true c9
          clear c9
          have H' := Aside0.mk H
          clear H
          go_wp2
          repeat (go_quiet (fail); try go_wp2)
          go_loopg [6] k3 (fun kq v6 w' => ∃ (x6_4 : Int), v6 = .int .i64 x6_4 ∧ Aside0 (runnelref2_named.l2 kq l0 x5_3 x6_4 = some r) ∧ Aside0 (kq ≤ k3) ∧ Drawn0 w w')
          case atStart => exact ⟨(0), (by first | rfl | (simp; done) | (simp [*]; done)), H', ⟨Nat.le_refl _⟩, by repeat (first | exact Drawn0.refl _ | apply Drawn0.step)⟩
          case round =>
           clear H'
           try clear c1
           try clear p1
           try clear q1
           try clear hx1
           try clear p2
           try clear c3
           try clear c3b0
           try clear c3b1
           try clear c4
           try clear c5
           try clear c5b0
           try clear c6
           try clear c6b0
           try clear p6
           try clear c8
           try clear c9
           try clear c9b0
           try clear hx122_0
           try clear p1
           try clear p122
           try clear p2
           try clear p6
           try clear q1
           try clear q122
           obtain ⟨x6_4, rfl, HA, HK4, ⟨m4, rfl⟩⟩ := hrel
           cases gk with
           | zero => exact absurd HA.out (by simp [runnelref2_named.l2])
           | succ k4 =>
            have H := HA.out
            clear HA
            simp only [runnelref2_named.l2] at H
            by_cases c10 : x6_4 < x5_3
            ·rw [if_pos c10] at H
             have c10b0 : decide (x6_4 < x5_3) = true := decide_eq_true c10
             clear c10
             by_cases c11 : 0 ≤ x5_3
             ·rw [if_pos c11] at H
              have c11b0 : decide (0 ≤ x5_3) = true := decide_eq_true c11
              clear c11
              by_cases c12 : x5_3 < (l0.length : Int)
              ·rw [if_pos c12] at H
               have c12b0 : decide (x5_3 < (l0.length : Int)) = true := decide_eq_true c12
               clear c12
               by_cases c13 : 0 ≤ x6_4
               ·rw [if_pos c13] at H
                have c13b0 : decide (0 ≤ x6_4) = true := decide_eq_true c13
                clear c13
                by_cases c14 : x6_4 < (l0.length : Int)
                ·rw [if_pos c14] at H
                 have c14b0 : decide (x6_4 < (l0.length : Int)) = true := decide_eq_true c14
                 clear c14
                 by_cases c15 : (rdOf ByteArray.empty l0 x5_3).toList = (rdOf ByteArray.empty l0 x6_4).toList
                 ·rw [if_pos c15] at H
                  have c15b0 : ((rdOf ByteArray.empty l0 x5_3).toList == (rdOf ByteArray.empty l0 x6_4).toList) = true := beq_iff_eq.mpr c15
                  have c15b1 : ((rdOf ByteArray.empty l0 x5_3).toList != (rdOf ByteArray.empty l0 x6_4).toList) = false := bne_eq_false_iff_eq.mpr c15
                  clear c15
                  obtain rfl := Option.some.inj H
                  have p124 : 0 ≤ (x5_3 : Int) := of_decide_eq_true (by first | (with_reducible assumption) | assumption)
                  have q124 : x5_3 < (l0.length : Int) := of_decide_eq_true (by first | (with_reducible assumption) | assumption)
                  obtain ⟨ad124, e124, hx124_0⟩ := Kd.at_string HR0.out x5_3 p124 q124
                  cases e124
                  replace p124 := eq_true p124
                  replace q124 := eq_true q124
                  have p125 : 0 ≤ (x6_4 : Int) := of_decide_eq_true (by first | (with_reducible assumption) | assumption)
                  have q125 : x6_4 < (l0.length : Int) := of_decide_eq_true (by first | (with_reducible assumption) | assumption)
                  obtain ⟨ad125, e125, hx125_0⟩ := Kd.at_string HR0.out x6_4 p125 q125
                  obtain rfl : ad124 = ad125 := (by injection e125)
                  replace p125 := eq_true p125
                  replace q125 := eq_true q125
                  go_wp2
                  repeat (go_quiet (fail); try go_wp2)
                  go_ret
                  exact ⟨by first | rfl | (simp; done) | (simp [*]; done), by repeat (first | exact Drawn0.refl _ | apply Drawn0.step)⟩
                 ·rw [if_neg c15] at H
                  have c15b0 : ((rdOf ByteArray.empty l0 x5_3).toList == (rdOf ByteArray.empty l0 x6_4).toList) = false := beq_eq_false_iff_ne.mpr c15
                  have c15b1 : ((rdOf ByteArray.empty l0 x5_3).toList != (rdOf ByteArray.empty l0 x6_4).toList) = true := bne_iff_ne.mpr c15
                  have H' := Aside0.mk H
                  clear H
                  have p124 : 0 ≤ (x5_3 : Int) := of_decide_eq_true (by first | (with_reducible assumption) | assumption)
                  have q124 : x5_3 < (l0.length : Int) := of_decide_eq_true (by first | (with_reducible assumption) | assumption)
                  obtain ⟨ad124, e124, hx124_0⟩ := Kd.at_string HR0.out x5_3 p124 q124
                  cases e124
                  replace p124 := eq_true p124
                  replace q124 := eq_true q124
                  have p125 : 0 ≤ (x6_4 : Int) := of_decide_eq_true (by first | (with_reducible assumption) | assumption)
                  have q125 : x6_4 < (l0.length : Int) := of_decide_eq_true (by first | (with_reducible assumption) | assumption)
                  obtain ⟨ad125, e125, hx125_0⟩ := Kd.at_string HR0.out x6_4 p125 q125
                  obtain rfl : ad124 = ad125 := (by injection e125)
                  replace p125 := eq_true p125
                  replace q125 := eq_true q125
                  go_wp2
                  repeat (go_quiet (fail); try go_wp2)
                  go_roundg k4
                  case measure => have := HJ1.out; have := HK2.out; have := HK3.out; have := HK4.out; omega
                  case rel => exact ⟨(wrap64 (x6_4 + 1)), (by first | rfl | (simp; done) | (simp [*]; done)), H', ⟨by have := HJ1.out; have := HK2.out; have := HK3.out; have := HK4.out; omega⟩, by repeat (first | exact Drawn0.refl _ | apply Drawn0.step)⟩
                ·rw [if_neg c14] at H
                 exact absurd H (by simp)
               ·rw [if_neg c13] at H
                exact absurd H (by simp)
              ·rw [if_neg c12] at H
               exact absurd H (by simp)
             ·rw [if_neg c11] at H
              exact absurd H (by simp)
            ·rw [if_neg c10] at H
             have c10b0 : decide (x6_4 < x5_3) = false := decide_eq_false c10
             clear c10
             have H' := Aside0.mk H
             clear H
             go_wp2
             repeat (go_quiet (fail); try go_wp2)
             go_roundg k4
             case measure => have := HJ1.out; have := HK2.out; have := HK3.out; have := HK4.out; omega
             case rel => exact ⟨(wrap64 (x5_3 + 1)), (by first | rfl | (simp; done) | (simp [*]; done)), H', ⟨by have := HJ1.out; have := HK2.out; have := HK3.out; have := HK4.out; omega⟩, by repeat (first | exact Drawn0.refl _ | apply Drawn0.step)⟩
         ·rw [if_neg c9] at H
          have c9b0 : decide (x5_3 < (l0.length : Int)) = false := decide_eq_false c9
          clear c9
          obtain rfl := Option.some.inj H
          go_wp2
          repeat (go_quiet (fail); try go_wp2)
          go_ret
          exact ⟨by first | rfl | (simp; done) | (simp [*]; done), by repeat (first | exact Drawn0.refl _ | apply Drawn0.step)⟩

/-! ### runnellaw22_sameTexts: function 11 -/
def runnellaw22_sameTexts.l0 : Nat → List ByteArray → List ByteArray → Int → Option (Bool)
 | 0, _, _, _ => none
 | k + 1, x0, x1, x5 => if x5 < (x0.length : Int) then (if 0 ≤ x5 then (if x5 < (x1.length : Int) then (if (rdOf ByteArray.empty x0 x5).toList = (rdOf ByteArray.empty x1 x5).toList then (runnellaw22_sameTexts.l0 k x0 x1 (wrap64 (x5 + 1))) else (some false)) else (none)) else (none)) else (some true)
def runnellaw22_sameTexts.f (k : Nat) (l0 : List ByteArray) (l1 : List ByteArray) : Option (Bool) := if (l0.length : Int) = (l1.length : Int) then (runnellaw22_sameTexts.l0 k l0 l1 0) else (some false)
theorem runnellaw22_sameTexts.mono_l : ∀ k, (∀ y0 y1 y2, LeO (runnellaw22_sameTexts.l0 k y0 y1 y2) (runnellaw22_sameTexts.l0 (k + 1) y0 y1 y2))
 | 0 => fun _ _ _ r h => by simp [runnellaw22_sameTexts.l0] at h
 | k + 1 => by
  have ih0 := runnellaw22_sameTexts.mono_l k
  ·intro y0 y1 y2
   unfold runnellaw22_sameTexts.l0
   repeat' first
   | (with_reducible exact ih0 _ _ _)
   | (with_reducible exact LeO.refl _)
   | (with_reducible exact LeO.none _)
   | (with_reducible refine LeO.ite ?_ ?_)
   | (with_reducible refine LeO.bind ?_ (fun _ => ?_))
   | exact ih0 _ _ _
   | exact LeO.none _
   | refine LeO.ite ?_ ?_
   | refine LeO.bind ?_ (fun _ => ?_)
theorem runnellaw22_sameTexts.mono : ∀ a0 a1 k, LeO (runnellaw22_sameTexts.f k a0 a1) (runnellaw22_sameTexts.f (k + 1) a0 a1) := by
 intro a0 a1 k
 have ih0 := runnellaw22_sameTexts.mono_l k
 unfold runnellaw22_sameTexts.f
 repeat' first
   | (with_reducible exact ih0 _ _ _)
   | (with_reducible exact LeO.refl _)
   | (with_reducible exact LeO.none _)
   | (with_reducible refine LeO.ite ?_ ?_)
   | (with_reducible refine LeO.bind ?_ (fun _ => ?_))
   | exact ih0 _ _ _
   | exact LeO.none _
   | refine LeO.ite ?_ ?_
   | refine LeO.bind ?_ (fun _ => ?_)
set_option maxHeartbeats 8000000 in
set_option maxRecDepth 100000 in
theorem runnellaw22_sameTexts.calls (k : Nat) (A0 : Option Addr) (c0 : Nat) (l0 : List ByteArray) (A1 : Option Addr) (c1 : Nat) (l1 : List ByteArray) (r : Bool) (w : World) (hr0 : Kd.C Kd.string w A0 l0.length l0) (hc0 : l0.length ≤ c0) (hr1 : Kd.C Kd.string w A1 l1.length l1) (hc1 : l1.length ≤ c1) (h : runnellaw22_sameTexts.f k l0 l1 = some r) :
  Calls Tryz.prog 11 #[.slice A0 l0.length c0, .slice A1 l1.length c1] w fun e w' => e = .returned (.bool r) ∧ Drawn0 w w' := by
 have HR0 := Aside0.mk hr0
 have HC0 := Aside0.mk hc0
 clear hr0 hc0
 have HR1 := Aside0.mk hr1
 have HC1 := Aside0.mk hc1
 clear hr1 hc1
 have H : (if (l0.length : Int) = (l1.length : Int) then (runnellaw22_sameTexts.l0 k l0 l1 0) else (some false)) = some r := h
 clear h
 by_cases c3 : (l0.length : Int) = (l1.length : Int)
 ·rw [if_pos c3] at H
  have c3b0 : ((l0.length : Int) == (l1.length : Int)) = true := beq_iff_eq.mpr c3
  have c3b1 : ((l0.length : Int) != (l1.length : Int)) = false := bne_eq_false_iff_eq.mpr c3
  have c3b2 : (l0.length == l1.length) = true := by first | simpa using c3 | (simp at c3 ⊢; omega)
  clear c3
  have H' := Aside0.mk H
  clear H
  go_enter Tryz.func11, Tryz.ntmps11
  go_wp2
  repeat (go_quiet (fail); try go_wp2)
  go_loopg [5] k (fun kq v5 w' => ∃ (x5_1 : Int), v5 = .int .i64 x5_1 ∧ Aside0 (runnellaw22_sameTexts.l0 kq l0 l1 x5_1 = some r) ∧ Aside0 (kq ≤ k) ∧ Drawn0 w w')
  case atStart => exact ⟨(0), (by first | rfl | (simp; done) | (simp [*]; done)), H', ⟨Nat.le_refl _⟩, by repeat (first | exact Drawn0.refl _ | apply Drawn0.step)⟩
  case round =>
   clear H'
   try clear c1
   try clear p2
   try clear c3
   try clear c3b0
   try clear c3b1
   try clear c3b2
   obtain ⟨x5_1, rfl, HA, HK1, ⟨m1, rfl⟩⟩ := hrel
   cases gk with
   | zero => exact absurd HA.out (by simp [runnellaw22_sameTexts.l0])
   | succ k1 =>
    have H := HA.out
    clear HA
    simp only [runnellaw22_sameTexts.l0] at H
    by_cases c4 : x5_1 < (l0.length : Int)
    ·rw [if_pos c4] at H
     have c4b0 : decide (x5_1 < (l0.length : Int)) = true := decide_eq_true c4
     clear c4
     by_cases c5 : 0 ≤ x5_1
     ·rw [if_pos c5] at H
      have c5b0 : decide (0 ≤ x5_1) = true := decide_eq_true c5
      clear c5
      by_cases c6 : x5_1 < (l1.length : Int)
      ·rw [if_pos c6] at H
       have c6b0 : decide (x5_1 < (l1.length : Int)) = true := decide_eq_true c6
       clear c6
       by_cases c7 : (rdOf ByteArray.empty l0 x5_1).toList = (rdOf ByteArray.empty l1 x5_1).toList
       ·rw [if_pos c7] at H
        have c7b0 : ((rdOf ByteArray.empty l0 x5_1).toList == (rdOf ByteArray.empty l1 x5_1).toList) = true := beq_iff_eq.mpr c7
        have c7b1 : ((rdOf ByteArray.empty l0 x5_1).toList != (rdOf ByteArray.empty l1 x5_1).toList) = false := bne_eq_false_iff_eq.mpr c7
        clear c7
        have H' := Aside0.mk H
        clear H
        have p126 : 0 ≤ (x5_1 : Int) := of_decide_eq_true (by first | (with_reducible assumption) | assumption)
        have q126 : x5_1 < (l0.length : Int) := of_decide_eq_true (by first | (with_reducible assumption) | assumption)
        obtain ⟨ad126, e126, hx126_0⟩ := Kd.at_string HR0.out x5_1 p126 q126
        cases e126
        replace p126 := eq_true p126
        replace q126 := eq_true q126
        have p127 : 0 ≤ (x5_1 : Int) := of_decide_eq_true (by first | (with_reducible assumption) | assumption)
        have q127 : x5_1 < (l1.length : Int) := of_decide_eq_true (by first | (with_reducible assumption) | assumption)
        obtain ⟨ad127, e127, hx127_0⟩ := Kd.at_string HR1.out x5_1 p127 q127
        cases e127
        replace p127 := eq_true p127
        replace q127 := eq_true q127
        go_wp2
        repeat (go_quiet (fail); try go_wp2)
        go_roundg k1
        case measure => have := HK1.out; omega
        case rel => exact ⟨(wrap64 (x5_1 + 1)), (by first | rfl | (simp; done) | (simp [*]; done)), H', ⟨by have := HK1.out; omega⟩, by repeat (first | exact Drawn0.refl _ | apply Drawn0.step)⟩
       ·rw [if_neg c7] at H
        have c7b0 : ((rdOf ByteArray.empty l0 x5_1).toList == (rdOf ByteArray.empty l1 x5_1).toList) = false := beq_eq_false_iff_ne.mpr c7
        have c7b1 : ((rdOf ByteArray.empty l0 x5_1).toList != (rdOf ByteArray.empty l1 x5_1).toList) = true := bne_iff_ne.mpr c7
        obtain rfl := Option.some.inj H
        have p126 : 0 ≤ (x5_1 : Int) := of_decide_eq_true (by first | (with_reducible assumption) | assumption)
        have q126 : x5_1 < (l0.length : Int) := of_decide_eq_true (by first | (with_reducible assumption) | assumption)
        obtain ⟨ad126, e126, hx126_0⟩ := Kd.at_string HR0.out x5_1 p126 q126
        cases e126
        replace p126 := eq_true p126
        replace q126 := eq_true q126
        have p127 : 0 ≤ (x5_1 : Int) := of_decide_eq_true (by first | (with_reducible assumption) | assumption)
        have q127 : x5_1 < (l1.length : Int) := of_decide_eq_true (by first | (with_reducible assumption) | assumption)
        obtain ⟨ad127, e127, hx127_0⟩ := Kd.at_string HR1.out x5_1 p127 q127
        cases e127
        replace p127 := eq_true p127
        replace q127 := eq_true q127
        go_wp2
        repeat (go_quiet (fail); try go_wp2)
        go_ret
        exact ⟨by first | rfl | (simp; done) | (simp [*]; done), by repeat (first | exact Drawn0.refl _ | apply Drawn0.step)⟩
      ·rw [if_neg c6] at H
       exact absurd H (by simp)
     ·rw [if_neg c5] at H
      exact absurd H (by simp)
    ·rw [if_neg c4] at H
     have c4b0 : decide (x5_1 < (l0.length : Int)) = false := decide_eq_false c4
     clear c4
     obtain rfl := Option.some.inj H
     go_wp2
     repeat (go_quiet (fail); try go_wp2)
     go_ret
     exact ⟨by first | rfl | (simp; done) | (simp [*]; done), by repeat (first | exact Drawn0.refl _ | apply Drawn0.step)⟩
 ·rw [if_neg c3] at H
  have c3b0 : ((l0.length : Int) == (l1.length : Int)) = false := beq_eq_false_iff_ne.mpr c3
  have c3b1 : ((l0.length : Int) != (l1.length : Int)) = true := bne_iff_ne.mpr c3
  have c3b2 : (l0.length == l1.length) = false := by first | simpa using c3 | (simp at c3 ⊢; omega)
  obtain rfl := Option.some.inj H
  go_enter Tryz.func11, Tryz.ntmps11
  go_wp2
  repeat (go_quiet (fail); try go_wp2)
  go_ret
  exact ⟨by first | rfl | (simp; done) | (simp [*]; done), by repeat (first | exact Drawn0.refl _ | apply Drawn0.step)⟩

end Go.Proofs.YtckpffkofeoinaaGreatDoor.Lr
