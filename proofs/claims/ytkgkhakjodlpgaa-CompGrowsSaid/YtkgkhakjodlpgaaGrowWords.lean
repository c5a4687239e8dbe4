/- Words for CompGrows: a copy of a row of rows, one of which is set to a row that is made. -/
import Derived.Test.YtkgkhakjodlpgaaCompWords
namespace Go.Proofs.Ytkgkhakjodlpgaa.Ext
open Go.RowKit Go.Proofs.YtkgkhakjodlpgaaW.PrintWords Go.Proofs.Ytkgkhakjodlpgaa.Ca

abbrev rowK : Kd (List Int) := Kd.slice 3 (Kd.int .i64)
abbrev mixK (w : World) : Kd (List Int) := Kd.or_ (Kd.fixed rowK w) rowK rfl

theorem more_set {w W : World} {g n cap : Nat} {i : Int} {ok okr : Nat → Prop} {l0 : List (List Int)} {row : List Int} {v : Value} (hM : (Kd.fixed rowK w).R 53 W w.heap.size ok (.slice (some ⟨g, 0, none⟩) n cap) l0) (hrow : Kd.R (Kd.int .i64) 3 W w.heap.size okr v row)
    (hokr : ∀ k, okr k → ok k ∧ k ≠ g) (h0 : 0 ≤ i) (h1 : i < n) (hB : Below w.heap.size w W) :
    Kd.C rowK (W.setCell ⟨g, i.toNat, none⟩ v) (some ⟨g, 0, none⟩) (l0.set i.toNat row).length (l0.set i.toNat row) ∧ n = (l0.set i.toNat row).length ∧ n ≤ cap ∧ Below w.heap.size w (W.setCell ⟨g, i.toNat, none⟩ v) := by
  have hM' : (mixK w).R 53 W w.heap.size ok (.slice (some ⟨g, 0, none⟩) n cap) l0 := Kd.R_imp (d := Kd.fixed rowK w) (d' := mixK w) rfl (fun _ _ _ _ _ h => Or.inl h) hM
  obtain ⟨c, hcl, _, hcc, _⟩ := Kd.R_elem hM' [] i h0 h1
  have hcl1 : c.length = 1 := hcl
  have hseg := Kd.R_seg hM' i h0 h1 hcl hcc (seg := [v]) (j := 0) (Nat.le_refl _) (x' := row) (okp := okr) (Or.inr ⟨v, by
    match c, hcl1 with
    | [x], _ => rfl, hrow⟩) hokr
  have e : W.setCells g (i.toNat * (mixK w).sz + 0) [v] = W.setCell ⟨g, i.toNat, none⟩ v := by
    show W.setCells g (i.toNat * 1 + 0) [v] = _
    rw [Nat.mul_one, Nat.add_zero]; rfl
  rw [e] at hseg
  have hbelow : Below w.heap.size w (W.setCell ⟨g, i.toNat, none⟩ v) := below_set hB (Kd.R_base hM g (by simp [Value.ownBlock]))
  obtain ⟨r1, r2, r3⟩ := Kd.R_reads' hseg.1
  refine ⟨ReadsRow.imp_ r3 (Below.refl _ _) (fun p c h => ?_), r1, r2, hbelow⟩
  rcases h with h | h
  · exact rowK.K_below hbelow h
  · exact h
end Go.Proofs.Ytkgkhakjodlpgaa.Ext
