/- Slices of strings, of pairs of strings and of rows of numbers, opened out of the reading of an argument. -/
import Derived.Test.YtkgkhakjodlpgaaNew
import Derived.SliceStrings
import Derived.Deep.Slices
import Derived.ProofKit
import Derived.OpenShut
import Derived.Carry
import Derived.ShutString
import Derived.ChangeOld
namespace Go.Proofs.Ytkgkhakjodlpgaa
open Go.RowKit Go.ChangeShapes Go.WideShapes

theorem strs2_length (ps : List (ByteArray × ByteArray)) : (strs2 ps).length = ps.length * 2 := by
  induction ps with
  | nil => rfl
  | cons q l ih => simp only [strs2, List.flatMap_cons, List.length_append, List.length_cons] at ih ⊢; simp at ih ⊢; omega

theorem spot_none {w : World} {a : Addr} {v : Value} (h : w.cell? (a.add 0) = some v) : a = ⟨a.block, a.off, none⟩ := by
  have h0 : a.spot = none := by simpa [Addr.add] using World.cell?_spot h
  cases a; simp_all

theorem int_in {n : Int} (h : (Lit.int .i64 n).wf = true) : -9223372036854775808 ≤ n ∧ n ≤ 9223372036854775807 := by
  simpa [Lit.wf, IntKind.min, IntKind.max, IntKind.signed, IntKind.bits] using h

section
variable {H : Type} {enc : TypeId × Value → H} {P : Program} {w : World} {base : Nat} {held : Bool}

theorem open_strs {t e : TypeId} {a : Option Addr} {len cap : Nat} {d : DataW H} {p : List MemPlace} (ht : P.underlying t = some (.slice e)) (he : P.underlying e = some .string) (hc : P.cellsOf e = 1)
    (h : DataW.Trod enc P w base (fun _ => true) held t (.slice a len cap) d p) :
    ∃ ss : List ByteArray, ss.length = len ∧ len ≤ cap ∧ cap ≤ 9223372036854775807 ∧ Rd w a (ss.map Value.string) ∧ ∀ s ∈ ss, s.size ≤ 9223372036854775807 := by
  obtain ⟨fuel, hf⟩ := h
  rcases open_strings ht he hc hf with ⟨hcs, _⟩ | ⟨x, l, c, ss, hcs, _, hl, hm, hz, _, hcell, hwz⟩
  · simp [Value.cells] at hcs
    obtain ⟨rfl, rfl, rfl⟩ := hcs
    exact ⟨[], rfl, Nat.le_refl _, by omega, Rd.nil _ _, by simp⟩
  · simp [Value.cells] at hcs
    obtain ⟨rfl, rfl, rfl⟩ := hcs
    rw [if_pos rfl] at hz
    refine ⟨ss.take len, by simp; omega, hl, hm, ?_, fun s hs => hwz s (List.mem_of_mem_take hs)⟩
    by_cases h0 : len = 0
    · subst h0; left; simp
    right
    have e0 := spot_none (hcell 0 (by omega))
    refine ⟨x.block, x.off, by rw [← e0], fun j v hj => ?_⟩
    rw [List.getElem?_map, List.getElem?_take] at hj
    split at hj
    · rename_i hjl
      have := hcell j (by omega)
      rw [e0, add_plain] at this
      rw [this]
      rw [List.getD, List.getElem?_eq_getElem (by omega)]
      rw [List.getElem?_eq_getElem (by omega)] at hj
      simpa using hj
    · cases hj

theorem open_pairs {t e s : TypeId} {a : Option Addr} {len cap : Nat} {d : DataW H} {p : List MemPlace} (ht : P.underlying t = some (.slice e)) (he : P.underlying e = some (.array 2 s)) (hs : P.underlying s = some .string)
    (hc : P.cellsOf e = 2) (hc1 : P.cellsOf s = 1)
    (h : DataW.Trod enc P w base (fun _ => true) held t (.slice a len cap) d p) :
    ∃ ps : List (ByteArray × ByteArray), ps.length = len ∧ len ≤ cap ∧ cap ≤ 9223372036854775807 ∧ Rd w a (strs2 ps) ∧ ∀ q ∈ ps, q.1.size ≤ 9223372036854775807 ∧ q.2.size ≤ 9223372036854775807 := by
  obtain ⟨fuel, hf⟩ := h
  rcases Go.Deep.open_slice ht hf with ⟨hcs, _⟩ | ⟨x, l, c, m, n, D, Pl, hcs, _, hl, hm, hmm, _, hx⟩
  · simp [Value.cells] at hcs
    obtain ⟨rfl, rfl, rfl⟩ := hcs
    exact ⟨[], rfl, Nat.le_refl _, by omega, Rd.nil _ _, by simp⟩
  · simp [Value.cells] at hcs
    obtain ⟨rfl, rfl, rfl⟩ := hcs
    rw [if_pos rfl] at hmm
    subst hmm
    have each : ∀ i, i < len → ∃ q : ByteArray × ByteArray, w.cell? (x.add (i * 2)) = some (.string q.1) ∧ w.cell? (x.add (i * 2 + 1)) = some (.string q.2) ∧ q.1.size ≤ maxLen ∧ q.2.size ≤ maxLen := by
      intro i hi
      obtain ⟨cs', h1, h2⟩ := hx i (by omega)
      rw [hc] at h1
      obtain ⟨_, hlen, hcell⟩ := World.cells?_some h1
      obtain ⟨xs, k, _, _, _, hxl, hfx⟩ := DataW.trod_array he h2
      match xs, hxl, cs', hlen with
      | [y0, y1], _, [v0, v1], _ =>
        have g0 := hfx 0 (by omega)
        have g1 := hfx 1 (by omega)
        simp [hc1] at g0 g1
        obtain ⟨s0, e0, _, z0⟩ := DataW.trod_string hs g0
        obtain ⟨s1, e1, _, z1⟩ := DataW.trod_string hs g1
        simp at e0 e1
        subst e0 e1
        have c0 := hcell 0 (by omega)
        have c1 := hcell 1 (by omega)
        rw [Go.Deep.add_add] at c0 c1
        exact ⟨(s0, s1), by simpa using c0, by simpa using c1, z0, z1⟩
    obtain ⟨q, hq⟩ := Go.Deep.choose_lt each
    refine ⟨(List.range len).map q, by simp, hl, hm, ?_, fun y hy => ?_⟩
    · by_cases h0 : len = 0
      · subst h0; left; simp [strs2]
      right
      have e0 := spot_none (by simpa using (hq 0 (by omega)).1)
      refine ⟨x.block, x.off, by rw [← e0], fun j v hj => ?_⟩
      have hj' : j < (strs2 ((List.range len).map q)).length := (List.getElem?_eq_some_iff.1 hj).1
      have hl2 : (strs2 ((List.range len).map q)).length = len * 2 := by rw [strs2_length]; simp
      have hk : j / 2 < len := by omega
      have hk' : j / 2 < ((List.range len).map q).length := by simpa using hk
      have hat := strs2_at ((List.range len).map q) hk'
      have hqq := hq (j / 2) hk
      simp only [List.getElem_map, List.getElem_range] at hat
      rw [e0, add_plain, add_plain] at hqq
      rcases Nat.mod_two_eq_zero_or_one j with hj0 | hj1
      · have ej : j / 2 * 2 = j := by omega
        rw [ej] at hat hqq
        rw [hat.1] at hj
        injection hj with hj
        rw [← hj]; exact hqq.1
      · have ej : j / 2 * 2 + 1 = j := by omega
        rw [ej] at hat hqq
        rw [hat.2] at hj
        injection hj with hj
        rw [← hj]; exact hqq.2.1
    · simp only [List.mem_map, List.mem_range] at hy
      obtain ⟨i, hi, rfl⟩ := hy
      exact ⟨(hq i hi).2.2.1, (hq i hi).2.2.2⟩
end
end Go.Proofs.Ytkgkhakjodlpgaa
