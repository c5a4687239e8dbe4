/- The law CompOrder returns true. -/
import Derived.Test.YtkgkhakjodlpgaaPOrder
import Derived.Test.YtkgkhakjodlpgaaPShown
namespace Go.Proofs.Ytkgkhakjodlpgaa
open Go.RowKit Go.Proofs.YtkgkhakjodlpgaaW.PrintWords

theorem compOrder_walk (a0 : Option Addr) (len0 cap0 : Nat) (z0 : List (List Int)) (W : World) (l0 : z0.length = len0) (c0 : len0 ≤ cap0)
    (b0 : Kd.C (Kd.slice 3 (Kd.int .i64)) W a0 z0.length z0) :
    Calls Try.prog 9 #[.slice a0 len0 cap0] W fun e w' => e = .returned (.bool true) ∧ Below W.heap.size W w' := by
  obtain ⟨k, hk⟩ := C.order_law ⟨60, C.shown_ok⟩ z0
  subst l0
  exact C.runnellaw13_CompOrder.calls k a0 cap0 z0 true W b0 c0 hk
end Go.Proofs.Ytkgkhakjodlpgaa
