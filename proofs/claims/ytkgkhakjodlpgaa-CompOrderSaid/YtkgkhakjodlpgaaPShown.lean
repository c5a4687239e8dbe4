/- The law's own graph is as it says. -/
import Derived.Test.YtkgkhakjodlpgaaC5
namespace Go.Proofs.Ytkgkhakjodlpgaa.C
open Go.RowKit Go.Proofs.YtkgkhakjodlpgaaW.PrintWords Go.Proofs.Ytkgkhakjodlpgaa.Ext Go.Proofs.Ytkgkhakjodlpgaa.Ca Go.Proofs.Ytkgkhakjodlpgaa.Cv
theorem shown_ok : runnellaw13_shown.f 60 = some true := by
  unfold runnellaw13_shown.f
  simp only [Option.bind_some]
  rw [show ([[1], [2], [1, 3], [], [4]] : List (List Int)) = nx0 from rfl, comps_ok, number_ok, aboves_ok]
  decide +kernel
end Go.Proofs.Ytkgkhakjodlpgaa.C
