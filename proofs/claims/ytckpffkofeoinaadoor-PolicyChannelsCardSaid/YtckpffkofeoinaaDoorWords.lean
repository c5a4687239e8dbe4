/- policy.words. -/
import Derived.Test.YtckpffkofeoinaaDoorIdent
namespace Go.Proofs.YtckpffkofeoinaaDoor
open Go.RowKit

theorem i32_in {x : Nat} (h : x ≤ 1114111) : (-2147483648 : Int) ≤ x ∧ (x : Int) ≤ 2147483647 := by omega

set_option maxRecDepth 100000 in
theorem blank_any (x : Nat) (hx : x ≤ 1114111) (w : World) :
    Calls Tryd.prog 40 #[.int .i32 (x : Int)] w fun e w' => e = .returned (.bool (isBlank x)) ∧ w' = w := by
  have hfin : isBlank x = (decide ((x : Int) = 32) || decide ((x : Int) = 9)) := by
    unfold isBlank
    rw [Bool.eq_iff_iff]; simp; omega
  have HF := Lib.hid hfin; clear hfin
  by_cases h1 : (x : Int) = 32
  · go_enter Tryd.func40, Tryd.ntmps40
    go_wp2
    go_ret
    exact ⟨ret_bool (by rw [HF.out, decide_eq_true h1]; rfl), rfl⟩
  · go_enter Tryd.func40, Tryd.ntmps40
    go_wp2
    go_ret
    exact ⟨ret_bool (by rw [HF.out, Bool.eq_iff_iff]; simp [h1]), rfl⟩

theorem blank_pays (w : World) : PredAtRunes Tryd.prog 40 #[] isBlank w := fun W x hx _ => by
  refine (blank_any x hx W).mono ?_
  rintro e w' ⟨rfl, rfl⟩
  exact ⟨rfl, 0, rfl⟩

set_option maxRecDepth 100000 in
theorem words_any (l : ByteArray) (w : World) (hs : l.size ≤ 4294960000) (hm : MaxL w) :
    Calls Tryd.prog 21 #[.string l] w fun e w' => ∃ A, e = .returned (.slice (some ⟨A, 0, none⟩) (wordsF l).length (wordsF l).length) ∧ w'.ownsRow w.heap.size 9 1 (.slice (some ⟨A, 0, none⟩) (wordsF l).length (wordsF l).length) (wordsF l).length ((wordsF l).map Value.string) ∧ Below w.heap.size w w' := by
  obtain ⟨m, hm⟩ := hm
  have hh : (headF l).size ≤ l.size := by
    show ((Lib.cut l.data.toList [35]).1.toArray).size ≤ l.size
    unfold Lib.cut
    split
    · simp only [List.size_toArray, List.length_take]
      have : l.data.toList.length = l.size := rfl
      omega
    · simp
  have hcut : ∃ b c, Calls Tryd.prog 38 #[.string l, .string ⟨#[35]⟩] w fun e w' => e = .returned (.tuple #[.string (headF l), .string b, .bool c]) ∧ ∃ n, w' = w.drewN n := ⟨_, _, Tryd.strings_Cut l ⟨#[35]⟩ m w (by omega) hm⟩
  obtain ⟨b, c, hcut⟩ := hcut
  have hf : ∀ w : World, Calls Tryd.prog 39 #[.string (headF l), .func (.func 40) #[] #[]] w fun e w' => ∃ A, e = .returned (.slice (some ⟨A, 0, none⟩) (wordsF l).length (wordsF l).length) ∧ w.heap.size ≤ A ∧
      w'.ownsRow w.heap.size 9 1 (.slice (some ⟨A, 0, none⟩) (wordsF l).length (wordsF l).length) (wordsF l).length ((wordsF l).map Value.string) ∧ Below w.heap.size w w' := fun w =>
    Tryd.strings_FieldsFunc_runes 40 #[] (fun args w => by kernel_rfl) isBlank (headF l) w (by omega) (blank_pays w)
  have HC := Lib.hid hcut; have HF := Lib.hid hf; clear hcut hf hh
  generalize headF l = h at HC HF
  generalize wordsF l = ws at HF ⊢
  go_enter Tryd.func21, Tryd.ntmps21
  go_wp2_with (first | (go_at_call 38; refine HC.out.mono ?_; rintro e w1 ⟨rfl, nq, rfl⟩) | (go_at_call 39; refine (HF.out _).mono ?_; rintro e w2 ⟨A, rfl, hA, ho, hb⟩; have HB := Lib.hid hb; have HO := Lib.hid ho; clear hb ho hA))
  go_ret
  exact ⟨A, rfl, HO.out, ⟨HB.out.os, HB.out.tape, HB.out.output, HB.out.size, HB.out.block⟩⟩
end Go.Proofs.YtckpffkofeoinaaDoor
