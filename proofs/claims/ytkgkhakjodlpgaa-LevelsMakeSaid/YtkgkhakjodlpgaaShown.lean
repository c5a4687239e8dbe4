/- runnellaw2.shown: chapter 2's examples hold. pick, small, sameTexts, samePairs. -/
import Derived.Test.YtkgkhakjodlpgaaNew
import Derived.Test.YtkgkhakjodlpgaaJoin
namespace Go.Proofs.Ytkgkhakjodlpgaa
open Go.RowKit

theorem Rd.of_block {w : World} {b : Nat} {cs : Array Value} {T : Nat} {fr : Nat × Nat} (h : w.heap[b]? = some (.cells cs T fr)) : Rd w (some ⟨b, 0, none⟩) cs.toList :=
  .inr ⟨b, 0, rfl, fun j v hj => by simp [World.cell?, h]; simpa using hj⟩

theorem NewPost.yes {w w' : World} {names : List ByteArray} {pairs : List (ByteArray × ByteArray)} {e : Ending} (h : NewPost w w' names pairs e) (h0 : newE names pairs = 0) :
    ∃ p, e = .returned (.tuple #[.pointer (some ⟨p, 0, none⟩), .int .i64 0]) ∧ w.heap.size ≤ p ∧ Hid (Lat w' p (newL names pairs)) ∧ Below w.heap.size w w' := by
  obtain ⟨hB, ⟨_, p, he, hp, hL⟩ | ⟨h1, _⟩⟩ := h
  · exact ⟨p, he, hp, hL, hB⟩
  · exact absurd h0 h1
theorem NewPost.no {w w' : World} {names : List ByteArray} {pairs : List (ByteArray × ByteArray)} {e : Ending} {c : Int} (h : NewPost w w' names pairs e) (h0 : newE names pairs = c) (hc : c ≠ 0) :
    e = .returned (.tuple #[.pointer none, .int .i64 c]) ∧ Below w.heap.size w w' := by
  obtain ⟨hB, ⟨h1, _⟩ | ⟨_, he⟩⟩ := h
  · exact absurd (h0.symm.trans h1) hc
  · exact ⟨by rw [he, h0]; rfl, hB⟩

theorem ShortS.of (zs : List ByteArray) (h : zs.all (fun s => decide (s.size ≤ 140737488351232)) = true) : ShortS zs := fun s hs => by
  have := List.all_eq_true.1 h s hs; simpa using this

def N1 : List ByteArray := [⟨#[108, 111, 119]⟩, ⟨#[97]⟩, ⟨#[98]⟩, ⟨#[104, 105, 103, 104]⟩]
def P1 : List (ByteArray × ByteArray) := [(⟨#[108, 111, 119]⟩, ⟨#[97]⟩), (⟨#[108, 111, 119]⟩, ⟨#[98]⟩), (⟨#[97]⟩, ⟨#[104, 105, 103, 104]⟩), (⟨#[98]⟩, ⟨#[104, 105, 103, 104]⟩)]
def N2 : List ByteArray := [⟨#[108, 111, 119]⟩, ⟨#[97]⟩, ⟨#[98]⟩]
def P2 : List (ByteArray × ByteArray) := [(⟨#[108, 111, 119]⟩, ⟨#[97]⟩), (⟨#[108, 111, 119]⟩, ⟨#[98]⟩)]
def N3 : List ByteArray := [⟨#[120]⟩, ⟨#[121]⟩]
def P3 : List (ByteArray × ByteArray) := [(⟨#[120]⟩, ⟨#[121]⟩), (⟨#[121]⟩, ⟨#[120]⟩)]
theorem sh1 : newE N1 P1 = 0 := by kernel_rfl
theorem sh2 : newE N2 P2 = 9 := by kernel_rfl
theorem sh3 : newE N3 P3 = 9 := by kernel_rfl
theorem sh4 : joinI (newL N1 P1) 1 2 = 3 := by kernel_rfl
theorem sh5 : meetI (newL N1 P1) 1 2 = 0 := by kernel_rfl
theorem sh6 : joinI (newL N1 P1) 0 1 = 1 := by kernel_rfl
theorem sh7 : bottomI (newL N1 P1) = 0 := by kernel_rfl
theorem sh8 : topI (newL N1 P1) = 3 := by kernel_rfl

set_option maxRecDepth 100000 in
set_option maxHeartbeats 4000000 in
theorem shown_any (w : World) : Calls Try.prog 14 #[] w fun e w' => e = .returned (.bool true) ∧ Below w.heap.size w w' := by
  go_enter Try.func14, Try.ntmps14
  go_wp2_with fail
  refine (new_any _ _ _ _ _ _ N1 P1 _ rfl (by decide) (by decide) (Rd.of_block (at_alloc (at_new rfl))) (ShortS.of _ (by kernel_rfl)) (by decide) rfl (Rd.of_block (at_new (by simp))) (by decide)).mono ?_
  rintro e w1 hP
  obtain ⟨p, rfl, hp, HL, hB1⟩ := hP.yes sh1
  clear hP
  have HB1 : Hid (Below w.heap.size w w1) := (((Below.refl _ _).alloc (Nat.le_refl _) _).alloc (by simp) _).trans (hB1.mono (by simp <;> omega))
  have hpw : w.heap.size ≤ p := by simp at hp; omega
  have hsz1 : w.heap.size ≤ w1.heap.size := HB1.out.size
  clear hp hB1
  go_wp2_with fail
  refine (new_any _ _ _ _ _ _ N2 P2 _ rfl (by decide) (by decide) (Rd.of_block (at_alloc (at_new rfl))) (ShortS.of _ (by kernel_rfl)) (by decide) rfl (Rd.of_block (at_new (by simp))) (by decide)).mono ?_
  rintro e w2 hP
  obtain ⟨rfl, hB2⟩ := hP.no sh2 (by decide)
  clear hP
  have HB2 : Hid (Below w1.heap.size w1 w2) := (((Below.refl _ _).alloc (Nat.le_refl _) _).alloc (by simp) _).trans (hB2.mono (by simp <;> omega))
  clear hB2
  go_wp2_with fail
  refine (new_any _ _ _ _ _ _ N3 P3 _ rfl (by decide) (by decide) (Rd.of_block (at_alloc (at_new rfl))) (ShortS.of _ (by kernel_rfl)) (by decide) rfl (Rd.of_block (at_new (by simp))) (by decide)).mono ?_
  rintro e w3 hP
  obtain ⟨rfl, hB3⟩ := hP.no sh3 (by decide)
  clear hP
  have HB3 : Hid (Below w2.heap.size w2 w3) := (((Below.refl _ _).alloc (Nat.le_refl _) _).alloc (by simp) _).trans (hB3.mono (by simp <;> omega))
  clear hB3
  have HL3 : Hid (Lat w3 p (newL N1 P1)) := (HL.out.below HB2.out).below HB3.out
  have HB13 : Hid (Below w.heap.size w w3) := HB1.out.trans ((HB2.out.trans (HB3.out.mono HB2.out.size)).mono hsz1)
  clear HL HB1 HB2 HB3 hsz1
  go_wp2_with fail
  refine (join_any p _ 1 2 _ HL3.out).mono ?_
  rintro e w4 ⟨rfl, HX⟩
  rw [sh4]
  have HL4 : Hid (Lat w4 p (newL N1 P1)) := HX.out.1
  have HB4 : Hid (Below w.heap.size w w4) := HB13.out.grown HX.out.2 HB13.out.size (fun k hk => by injection hk with hk; omega)
  clear HX HL3 HB13
  go_wp2_with fail
  refine (meet_any p _ 1 2 _ HL4.out).mono ?_
  rintro e w5 ⟨rfl, HX⟩
  rw [sh5]
  have HL5 : Hid (Lat w5 p (newL N1 P1)) := HX.out.1
  have HB5 : Hid (Below w.heap.size w w5) := HB4.out.grown HX.out.2 HB4.out.size (fun k hk => by injection hk with hk; omega)
  clear HX HL4 HB4
  go_wp2_with fail
  refine (join_any p _ 0 1 _ HL5.out).mono ?_
  rintro e w6 ⟨rfl, HX⟩
  rw [sh6]
  have HL6 : Hid (Lat w6 p (newL N1 P1)) := HX.out.1
  have HB6 : Hid (Below w.heap.size w w6) := HB5.out.grown HX.out.2 HB5.out.size (fun k hk => by injection hk with hk; omega)
  clear HX HL5 HB5
  go_wp2_with fail
  refine (bottom_any p _ _ HL6.out).mono ?_
  rintro e w7 ⟨rfl, n, rfl⟩
  rw [sh7]
  go_wp2_with fail
  refine (top_any p _ _ (HL6.out.drewN n)).mono ?_
  rintro e w8 ⟨rfl, n2, rfl⟩
  rw [sh8]
  go_wp2_with fail
  go_ret
  exact ⟨ret_bool rfl, below_drewN HB6.out _⟩

def pickI (c n : Int) : Int := (if c < 0 then -(c + 1) else c) % n

theorem pickI_range (c : Int) {n : Int} (h : 0 < n) : 0 ≤ pickI c n ∧ pickI c n < n := ⟨Int.emod_nonneg _ (by omega), Int.emod_lt_of_pos _ h⟩

theorem pick_any (c n : Int) (w : World) (h1 : -9223372036854775808 ≤ c) (h2 : c ≤ 9223372036854775807) (hn : 1 ≤ n) (hn2 : n ≤ 9223372036854775807) :
    Calls Try.prog 15 #[.int .i64 c, .int .i64 n] w fun e w' => e = .returned (.int .i64 (pickI c n)) ∧ w = w' := by
  by_cases hc : c < 0
  · have hfin : pickI c n = (-(c + 1)) % n := by rw [pickI, if_pos hc]
    have HF := Lib.hid hfin; clear hfin
    go_enter Try.func15, Try.ntmps15
    go_wp2
    go_ret
    exact ⟨ret_int (by rw [HF.out, ← Int.neg_tmod, Int.tmod_eq_emod_of_nonneg (by omega)]), rfl⟩
  · have hfin : pickI c n = c % n := by rw [pickI, if_neg hc]
    have HF := Lib.hid hfin; clear hfin
    have hc0 : 0 ≤ c := by omega
    go_enter Try.func15, Try.ntmps15
    go_wp2
    go_ret
    exact ⟨ret_int (by rw [HF.out]), rfl⟩
end Go.Proofs.Ytkgkhakjodlpgaa
