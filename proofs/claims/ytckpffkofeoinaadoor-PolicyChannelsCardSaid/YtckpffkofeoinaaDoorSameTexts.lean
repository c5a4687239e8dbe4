/- sameTexts of one list with itself; what is known of a policy that is carried along. -/
import Derived.Test.YtckpffkofeoinaaDoorPBackP
namespace Go.Proofs.YtckpffkofeoinaaDoor
open Go.RowKit Go.Maps

set_option maxRecDepth 100000 in
set_option maxHeartbeats 2000000 in
theorem sameTexts_any (A B : Option Addr) (n c c2 : Nat) (l : List ByteArray) (w : World) (hn : l.length = n) (hr : Rd w A (l.map Value.string)) (hr2 : Rd w B (l.map Value.string)) (hl : n ≤ 1000000) :
    Calls Tryd.prog 15 #[.slice A n c, .slice B n c2] w fun e w' => e = .returned (.bool true) ∧ ∃ k, w' = w.drewN k := by
  have HN := Lib.hid hn; have HR := Lib.hid hr; have HR2 := Lib.hid hr2; clear hn hr hr2
  go_enter Tryd.func15, Tryd.ntmps15
  go_wp2_with fail
  go_loopw [5] (fun i wr => ∃ k : Nat, k ≤ n ∧ i = .int .i64 k ∧ Hid (∃ m, wr = w.drewN m)) (fun i _ => n - (intOf i).toNat)
  case atStart => exact ⟨0, Nat.zero_le _, rfl, 0, rfl⟩
  case round =>
    obtain ⟨k, hk, rfl, HW⟩ := hrel
    by_cases hlt : k < n
    · have hlt' : k < l.length := by rw [HN.out]; exact hlt
      have hr1 : Rd wr A (l.map Value.string) := by obtain ⟨m, rfl⟩ := HW.out; exact HR.out.drewN m
      have hr2 : Rd wr B (l.map Value.string) := by obtain ⟨m, rfl⟩ := HW.out; exact HR2.out.drewN m
      obtain ⟨g, o, rfl, d1⟩ := hr1.at (j := k) (v := .string l[k]) (by simp [hlt'])
      obtain ⟨g2, o2, rfl, d2⟩ := hr2.at (j := k) (v := .string l[k]) (by simp [hlt'])
      clear hr1 hr2
      generalize l[k] = q at *
      go_wp2_with fail
      go_quiet (fail)
      go_wp2
      go_roundw
      case rel => exact ⟨k + 1, by omega, by go_num, by obtain ⟨m, rfl⟩ := HW.out; exact ⟨m + nq, by rw [World.drewN_drewN]⟩⟩
      case measure => simp [intOf]; omega
    · obtain rfl : k = n := by omega
      go_wp2
      go_ret
      exact ⟨ret_bool rfl, HW.out⟩

theorem print_r2 (p : Nat) (s : ByteArray) (w : World) (hP : Pol w p (readF s).2.2) (hE : newE (readF s).2.2.names (readF s).2.2.below = 0) (hs : s.size ≤ 30000) :
    Calls Tryd.prog 14 #[.pointer (some ⟨p, 0, none⟩)] w fun e w' => e = .returned (.string (mkB (printB (readF s).2.2))) ∧ Hid (Below w.heap.size w w') := by
  have hG := readF_good s
  have h1 := print_len hG hE
  have h2 := cost_read s
  have h3 : (readF s).2.2.of.length ≤ 1000000 := by
    have := (RS.Ok.all (linesF s) (r := RS.none) (k := 0) (RS.none_ok s.size 0) fun x hx => lines_le hx).of
    have := (lines_count s).2
    show (linesTo RS.none 0 (linesF s)).2.2.of.length ≤ _
    omega
  exact print_any p _ w hP hG h3 (by omega)

theorem of_small {s : ByteArray} (hs : s.size ≤ 30000) : (readF s).2.2.of.length ≤ 1000000 := by
  have := (RS.Ok.all (linesF s) (r := RS.none) (k := 0) (RS.none_ok s.size 0) fun x hx => lines_le hx).of
  have := (lines_count s).2
  show (linesTo RS.none 0 (linesF s)).2.2.of.length ≤ _
  omega

theorem channels_r (p : Nat) (s : ByteArray) (w : World) (hP : Pol w p (readF s).2.2) (hs : s.size ≤ 30000) :
    Calls Tryd.prog 9 #[.pointer (some ⟨p, 0, none⟩)] w fun e w' => ∃ a c, e = .returned (.slice a (chansL (readF s).2.2).length c) ∧ Hid (Rd w' a ((chansL (readF s).2.2).map Value.string)) ∧ Hid (Below w.heap.size w w') := by
  refine (channels_any p _ w hP (readF_good s).each (of_small hs)).mono ?_
  rintro e w' ⟨v, rfl, HO, hb⟩
  obtain ⟨a, c, rfl, _, _, hr⟩ := owns_form HO.out
  exact ⟨a, c, rfl, hr, hb⟩
end Go.Proofs.YtckpffkofeoinaaDoor
