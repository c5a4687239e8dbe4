/- runnellaw2.samePairs, and the pairs that Covers hands back. -/
import Derived.Test.YtkgkhakjodlpgaaLevelsLeast
import Derived.ChangeKeysEq
namespace Go.Proofs.Ytkgkhakjodlpgaa
open Go.RowKit

theorem eq_pairs (w : World) (a b : Int) : (Op.equalIn 10000 39 (.agg #[.int .i64 a, .int .i64 b]) (.agg #[.int .i64 a, .int .i64 b])).run Try.prog w = .ok true w := by
  obtain ⟨i, hi⟩ : ∃ i, Try.prog.info? 3 = some i := Option.isSome_iff_exists.1 (by kernel_rfl)
  have hc : Try.prog.cellsOf 3 = 1 := by kernel_rfl
  have hp : Try.prog.plainKey 3 = true := by kernel_rfl
  rw [show (10000 : Nat) = 9999 + 1 from rfl, run_equalIn_array w 9999 _ _ Try.underlying39 hi, hc, show List.range 2 = [0, 1] from rfl]
  have p0 : (part 3 #[.int .i64 a, .int .i64 b] 0).run Try.prog w = .ok (.int .i64 a) w := run_part_plain w hp rfl
  have p1 : (part 3 #[.int .i64 a, .int .i64 b] 1).run Try.prog w = .ok (.int .i64 b) w := run_part_plain w hp rfl
  have e0 : (Op.equalIn 9999 3 (.int .i64 a) (.int .i64 a)).run Try.prog w = .ok true w := by
    have := run_equalIn_int w 9998 3 .i64 .i64 a a Try.underlying3
    rwa [beq_self_eq_true] at this
  have e1 : (Op.equalIn 9999 3 (.int .i64 b) (.int .i64 b)).run Try.prog w = .ok true w := by
    have := run_equalIn_int w 9998 3 .i64 .i64 b b Try.underlying3
    rwa [beq_self_eq_true] at this
  simp [Op.eqItems, p0, p1, e0, e1]

theorem pairsV_length (l : List (Nat × Nat)) : (pairsV l).length = l.length * 2 := by
  induction l with
  | nil => rfl
  | cons q l ih => simp only [pairsV, List.flatMap_cons, List.length_append, List.length_cons] at ih ⊢; simp at ih ⊢; omega

/-- Two cells of a row of pairs. -/
theorem Rd.pair {w : World} {A : Option Addr} {l : List (Nat × Nat)} (h : Rd w A (pairsV l)) {k : Nat} (hk : k < l.length) :
    ∃ g o, A = some ⟨g, o, none⟩ ∧ w.cell? ⟨g, o + k * 2, none⟩ = some (.int .i64 (l[k].1 : Int)) ∧ w.cell? ⟨g, o + k * 2 + 1, none⟩ = some (.int .i64 (l[k].2 : Int)) := by
  obtain ⟨a1, a2⟩ := pairsV_at l hk
  obtain ⟨g, o, rfl, cp1⟩ := h.at a1
  obtain ⟨g', o', e1, cp2⟩ := h.at a2
  obtain ⟨rfl, rfl⟩ : g' = g ∧ o' = o := by simpa using e1.symm
  rw [← Nat.add_assoc] at cp2
  exact ⟨g', o', rfl, cp1, cp2⟩

set_option maxRecDepth 100000 in
set_option maxHeartbeats 2000000 in
theorem samePairs_any (A B : Option Addr) (n c c2 : Nat) (l : List (Nat × Nat)) (w : World) (hn : l.length = n) (hr : Rd w A (pairsV l)) (hr2 : Rd w B (pairsV l)) (hl : n ≤ 1000) :
    Calls Try.prog 26 #[.slice A n c, .slice B n c2] w fun e w' => e = .returned (.bool true) ∧ ∃ k, w' = w.drewN k := by
  have HN := Lib.hid hn; have HR := Lib.hid hr; have HR2 := Lib.hid hr2; clear hn hr hr2
  go_enter Try.func26, Try.ntmps26
  go_wp2_with fail
  go_loopw [5] (fun i wr => ∃ k : Nat, k ≤ n ∧ i = .int .i64 k ∧ Hid (∃ m, wr = w.drewN m)) (fun i _ => n - (intOf i).toNat)
  case atStart => exact ⟨0, Nat.zero_le _, rfl, 0, rfl⟩
  case round =>
    obtain ⟨k, hk, rfl, HW⟩ := hrel
    by_cases hlt : k < n
    · have hlt' : k < l.length := by rw [HN.out]; exact hlt
      have hr1 : Rd wr A (pairsV l) := by obtain ⟨m, rfl⟩ := HW.out; exact HR.out.drewN m
      have hr2 : Rd wr B (pairsV l) := by obtain ⟨m, rfl⟩ := HW.out; exact HR2.out.drewN m
      obtain ⟨g, o, rfl, d1, d2⟩ := hr1.pair hlt'
      obtain ⟨g2, o2, rfl, d3, d4⟩ := hr2.pair hlt'
      clear hr1 hr2
      generalize (l[k].1 : Int) = q1 at *
      generalize (l[k].2 : Int) = q2 at *
      have hee := eq_pairs wr.drew q1 q2
      go_wp2_with fail
      go_region
      go_wp2
      go_roundw
      case rel => exact ⟨k + 1, by omega, by go_num, by obtain ⟨m, rfl⟩ := HW.out; exact ⟨m + 1, rfl⟩⟩
      case measure => simp [intOf]; omega
    · obtain rfl : k = n := by omega
      go_wp2
      go_ret
      exact ⟨ret_bool rfl, HW.out⟩
end Go.Proofs.Ytkgkhakjodlpgaa
