/- What is come to from some nodes. -/
import Derived.Test.YtkgkhakjodlpgaaPTarjan
import Derived.Test.YtkgkhakjodlpgaaPAfter
import Derived.Test.YtkgkhakjodlpgaaWWords
namespace Go.Proofs.Ytkgkhakjodlpgaa.C
open Go.RowKit Go.Proofs.YtkgkhakjodlpgaaW.PrintWords Go.Proofs.Ytkgkhakjodlpgaa.Ext

/-- What is come to from a row of nodes. -/
def From (nx : List (List Int)) (l : List Int) (b : Nat) : Prop := ∃ a : Nat, (a : Int) ∈ l ∧ a < nx.length ∧ Rt nx a b

structure Marks (nx : List (List Int)) (l : List Int) (r : List Bool) : Prop where
  len : r.length = nx.length
  is : ∀ b, b < nx.length → (r.getD b false = true ↔ From nx l b)

theorem Marks.uniq {nx : List (List Int)} {l : List Int} {r s : List Bool} (hr : Marks nx l r) (hs : Marks nx l s) : r = s := by
  apply List.ext_getElem (by rw [hr.len, hs.len])
  intro i h1 h2
  have a := hr.is i (by rw [← hr.len]; exact h1)
  have b := hs.is i (by rw [← hr.len]; exact h1)
  rw [List.getD_eq_getElem?_getD, List.getElem?_eq_getElem h1] at a
  rw [List.getD_eq_getElem?_getD, List.getElem?_eq_getElem h2] at b
  simp only [Option.getD_some] at a b
  cases h : r[i] <;> cases h' : s[i] <;> simp_all

theorem getD_set_b (m : List Bool) (x : Nat) (hx : x < m.length) (a : Nat) : (m.set x true).getD a false = (if a = x then true else m.getD a false) := by
  simp only [List.getD_eq_getElem?_getD, List.getElem?_set]
  by_cases h : x = a
  · subst h; simp [hx]
  · rw [if_neg h, if_neg (fun e => h e.symm)]

/-- What is still to do: a weight for each node that is not marked. -/
def load (w : Nat → Nat) (m : List Bool) : Nat → Nat
  | 0 => 0
  | n + 1 => load w m n + (if m.getD n false = true then 0 else w n)

theorem load_set (w : Nat → Nat) (m : List Bool) (x : Nat) (hx : x < m.length) (h0 : m.getD x false = false) : ∀ n, load w m n = load w (m.set x true) n + (if x < n then w x else 0)
  | 0 => by simp [load]
  | n + 1 => by
    have ih := load_set w m x hx h0 n
    simp only [load]
    rw [getD_set_b m x hx n, ih]
    by_cases h : n = x
    · subst h; rw [if_neg (show ¬ n < n by omega), if_pos rfl, if_pos (show n < n + 1 by omega), if_neg (by rw [h0]; decide), if_pos rfl]
    · by_cases h2 : x < n
      · rw [if_pos h2, if_neg h, if_pos (show x < n + 1 by omega)]; omega
      · rw [if_neg h2, if_neg h, if_neg (show ¬ x < n + 1 by omega)]; omega

theorem load_le (w : Nat → Nat) (m : List Bool) (c : Nat) (hw : ∀ a, w a ≤ c) : ∀ n, load w m n ≤ n * c
  | 0 => by simp [load]
  | n + 1 => by
    have ih := load_le w m c hw n
    simp only [load]
    have h1 : (if m.getD n false = true then 0 else w n) ≤ c := by
      by_cases h : m.getD n false = true
      · rw [if_pos h]; omega
      · rw [if_neg h]; exact hw n
    rw [Nat.add_mul]; omega

theorem wrap_nat {n : Nat} (h : n < 4611686018427387904) : wrap64 ((n : Int) + 1) = ((n + 1 : Nat) : Int) := by unfold wrap64; omega

theorem take_more {l : List Int} {i : Nat} (h : i < l.length) : l.take (i + 1) = l.take i ++ [rd l (i : Int)] := by
  rw [List.take_add_one, List.getElem?_eq_getElem h]; simp [rd, List.getD_eq_getElem?_getD, List.getElem?_eq_getElem h]
theorem rd_mem {l : List Int} {i : Nat} (h : i < l.length) : rd l (i : Int) ∈ l := by
  have : rd l (i : Int) = l[i] := by simp [rd, List.getD_eq_getElem?_getD, List.getElem?_eq_getElem h]
  rw [this]; exact List.getElem_mem _

theorem replicate_getD (n b : Nat) : (List.replicate n false).getD b false = false := by
  simp only [List.getD_eq_getElem?_getD, List.getElem?_replicate]; split <;> rfl

open Classical in
noncomputable def marksOf (nx : List (List Int)) (l : List Int) : List Bool := (List.range nx.length).map fun b => decide (From nx l b)

theorem marksOf_ok (nx : List (List Int)) (l : List Int) : Marks nx l (marksOf nx l) := by
  refine ⟨by simp [marksOf], fun b hb => ?_⟩
  simp [marksOf, List.getD_eq_getElem?_getD, hb]

/-- The marked nodes, rising. -/
def listOf (m : List Bool) : List Int := ((List.range m.length).filter fun i => m.getD i false).map fun (i : Nat) => (i : Int)

def tailOf (m : List Bool) (i d : Nat) : List Int := ((List.range' i d).filter fun i => m.getD i false).map fun (i : Nat) => (i : Int)

theorem listOf_eq (m : List Bool) : tailOf m 0 m.length = listOf m := by simp [tailOf, listOf, List.range_eq_range']

theorem listOf_none (nx : List (List Int)) (l : List Int) (h : ∀ b, ¬ From nx l b) : listOf (marksOf nx l) = [] := by
  unfold listOf
  rw [List.filter_eq_nil_iff.2]
  · rfl
  · intro a ha h2
    rw [List.mem_range, (marksOf_ok nx l).len] at ha
    exact h a (((marksOf_ok nx l).is a ha).1 h2)

theorem from_out {nx : List (List Int)} {a : Int} (h : ¬ (0 ≤ a ∧ a < (nx.length : Int))) (b : Nat) : ¬ From nx [a] b := fun ⟨c, h1, h2, _⟩ => by
  rw [List.mem_singleton] at h1; omega
end Go.Proofs.Ytkgkhakjodlpgaa.C
