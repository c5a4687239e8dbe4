/- A row of rows of numbers, opened out of the reading of an argument, as the printed words read it. -/
import Derived.Test.YtkgkhakjodlpgaaWWords
import Derived.SliceStrings
import Derived.Deep.Slices
import Derived.ProofKit
import Derived.OpenShut
import Derived.Carry
import Derived.ShutString
import Derived.ChangeOld
import Derived.Deep.Matrix
namespace Go.Proofs.Ytkgkhakjodlpgaa
open Go.RowKit Go.ChangeShapes Go.WideShapes Go.Proofs.YtkgkhakjodlpgaaW.PrintWords

theorem int_in {n : Int} (h : (Lit.int .i64 n).wf = true) : -9223372036854775808 ≤ n ∧ n ≤ 9223372036854775807 := by
  simpa [Lit.wf, IntKind.min, IntKind.max, IntKind.signed, IntKind.bits] using h

section
variable {H : Type} {enc : TypeId × Value → H} {P : Program} {w : World} {base : Nat} {held : Bool}

theorem open_rows {t e q : TypeId} {a : Option Addr} {len cap : Nat} {d : DataW H} {p : List MemPlace} (ht : P.underlying t = some (.slice e)) (he : P.underlying e = some (.slice q)) (hq : P.underlying q = some (.int .i64))
    (ce : P.cellsOf e = 1) (cq : P.cellsOf q = 1) (h : DataW.Trod enc P w base (fun _ => true) held t (.slice a len cap) d p) :
    ∃ nx : List (List Int), nx.length = len ∧ len ≤ cap ∧ Kd.C (Kd.slice q (Kd.int .i64)) w a nx.length nx := by
  obtain ⟨fuel, hf⟩ := h
  rcases Go.Deep.open_int_rows ht he hq ce cq hf with ⟨hcs, _⟩ | ⟨x, l, c, A, L, C, Z, hcs, _, hl, hm, _, hr⟩
  · simp [Value.cells] at hcs
    obtain ⟨rfl, rfl, rfl⟩ := hcs
    exact ⟨[], rfl, Nat.le_refl _, rfl, by simp, fun h => by simp at h⟩
  · simp [Value.cells] at hcs
    obtain ⟨rfl, rfl, rfl⟩ := hcs
    have hmax : cap ≤ 9223372036854775807 := hm
    refine ⟨(List.range len).map fun r => (Z r).take (L r), by simp, hl, rfl, by simp; omega, fun h0 => ⟨x, rfl, fun j row hj => ?_⟩⟩
    have hjl : j < len := by have := (List.getElem?_eq_some_iff.1 hj).1; simpa using this
    rw [List.getElem?_map, List.getElem?_range hjl] at hj
    simp only [Option.map_some, Option.some.injEq] at hj
    subst hj
    obtain ⟨h1, h2, h3, h4, _, h6, h7⟩ := hr j (by omega)
    have hLl : ((Z j).take (L j)).length = L j := by simp; omega
    have hC3 : C j ≤ 9223372036854775807 := h3
    refine ⟨[.slice (A j) (L j) (C j)], rfl, ⟨A j, C j, by rw [hLl], by omega, ?_⟩, fun i u hi => ?_⟩
    · refine ⟨rfl, by omega, fun hp => ?_⟩
      cases hA : A j with
      | none => have := h6 hA; omega
      | some a' =>
        obtain ⟨_, h9⟩ := h7 a' hA
        refine ⟨a', rfl, fun i y hi => ?_⟩
        have hil : i < L j := by have := (List.getElem?_eq_some_iff.1 hi).1; omega
        rw [List.getElem?_take_of_lt hil] at hi
        refine ⟨[.int .i64 y], rfl, rfl, fun m u hm => ?_⟩
        have hm0 : m = 0 := by have := (List.getElem?_eq_some_iff.1 hm).1; simpa using this
        subst hm0
        simp at hm
        subst hm
        have := h9 i (by omega)
        rw [List.getD_eq_getElem?_getD, hi] at this
        simpa [Kd.int, Kd.scalar] using this
    · have hi0 : i = 0 := by have := (List.getElem?_eq_some_iff.1 hi).1; simpa using this
      subst hi0
      simp at hi
      subst hi
      simpa [Kd.slice] using h1
end
end Go.Proofs.Ytkgkhakjodlpgaa
