/- The law CompGrows returns true. -/
import Derived.Test.YtkgkhakjodlpgaaPGrows
import Derived.Test.YtkgkhakjodlpgaaPShown
namespace Go.Proofs.Ytkgkhakjodlpgaa
open Go.RowKit Go.Proofs.YtkgkhakjodlpgaaW.PrintWords

theorem compGrows_walk (a0 : Option Addr) (len0 cap0 : Nat) (z0 : List (List Int)) (a1 a2 a3 : Int) (W : World) (l0 : z0.length = len0) (c0 : len0 ≤ cap0)
    (b0 : Kd.C (Kd.slice 3 (Kd.int .i64)) W a0 z0.length z0) (_ : -9223372036854775808 ≤ a1 ∧ a1 ≤ 9223372036854775807) (_ : -9223372036854775808 ≤ a2 ∧ a2 ≤ 9223372036854775807) (_ : -9223372036854775808 ≤ a3 ∧ a3 ≤ 9223372036854775807) :
    Calls Try.prog 11 #[.slice a0 len0 cap0, .int .i64 a1, .int .i64 a2, .int .i64 a3] W fun e w' => e = .returned (.bool true) ∧ Below W.heap.size W w' := by
  obtain ⟨k, hk⟩ := C.grows_law ⟨60, C.shown_ok⟩ z0 a1 a2 a3
  subst l0
  exact C.runnellaw13_CompGrows.calls k a0 cap0 z0 a1 a2 a3 true W b0 c0 hk
end Go.Proofs.Ytkgkhakjodlpgaa
