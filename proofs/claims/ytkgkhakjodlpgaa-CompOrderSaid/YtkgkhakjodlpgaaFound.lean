/- comp.found: its walk. -/
import Derived.Test.YtkgkhakjodlpgaaVisit
import Derived.Laws.EntriesVeiled
namespace Go.Proofs.Ytkgkhakjodlpgaa.Ext
open Go.RowKit Go.Proofs.YtkgkhakjodlpgaaW.PrintWords Go.Proofs.Ytkgkhakjodlpgaa.Ca

def zI (n : Nat) : Array Value := ((List.replicate n (0 : Int)).map (Value.int .i64)).toArray
def zB (n : Nat) : Array Value := ((List.replicate n false).map Value.bool).toArray
theorem zI_eq (n : Nat) : madeCells #[.int .i64 0] n = zI n := by
  apply Array.toList_inj.1
  rw [toList_madeCells_one]
  simp [zI]
theorem zB_eq (n : Nat) : madeCells #[.bool false] n = zB n := by
  apply Array.toList_inj.1
  rw [toList_madeCells_one]
  simp [zB]
theorem info_bool : (Try.prog.info? 4).map (fun i => (i.zero, i.size, i.bytes)) = some (some (.bool false), 1, 1) := by kernel_rfl

theorem make_ints {n : Nat} (hn : n < 1048576) (w : World) : (Instr.makeSlice 53 (.int .i64 n) (.int .i64 n)).run Try.prog w = .ok (.slice (some ⟨w.heap.size, 0, none⟩) n n) (w.alloc (.cells (zI n) 3)) := by
  obtain ⟨i3, hi3, hz30, hz31, hz32⟩ := info_parts info_int
  have h := run_make (P := Try.prog) w 53 3 i3 _ Try.underlying53 hi3 hz30 .i64 .i64 n n (by omega) (by omega) (by rw [hz32]; omega) (by omega)
  rw [hz31] at h
  rw [← zI_eq]
  simpa [Value.cells] using h
theorem make_bools {n : Nat} (hn : n < 1048576) (w : World) : (Instr.makeSlice 85 (.int .i64 n) (.int .i64 n)).run Try.prog w = .ok (.slice (some ⟨w.heap.size, 0, none⟩) n n) (w.alloc (.cells (zB n) 4)) := by
  obtain ⟨i3, hi3, hz30, hz31, hz32⟩ := info_parts info_bool
  have h := run_make (P := Try.prog) w 85 4 i3 _ Try.underlying85 hi3 hz30 .i64 .i64 n n (by omega) (by omega) (by rw [hz32]; omega) (by omega)
  rw [hz31] at h
  rw [← zB_eq]
  simpa [Value.cells] using h

def startW (w : World) (A : Option Addr) (n c : Nat) : World :=
  ((((((((((w.alloc (.cells #[.slice A n c] 48)).alloc (.cells #[.slice none 0 0] 48)).alloc (.cells #[.slice none 0 0] 53)).alloc (.cells (zI n) 3)).alloc
    (.cells #[.slice (some ⟨w.heap.size + 3, 0, none⟩) n n] 53)).alloc (.cells (zI n) 3)).alloc (.cells #[.slice (some ⟨w.heap.size + 5, 0, none⟩) n n] 53)).alloc (.cells (zB n) 4)).alloc
    (.cells #[.slice (some ⟨w.heap.size + 7, 0, none⟩) n n] 85)).alloc (.cells #[.int .i64 0] 3)).alloc (.cells #[visitV w.heap.size] 98)

theorem at_alloc2 (w : World) (o : Obj) (k : Nat) : (w.alloc o).heap[k]? = if k = w.heap.size then some o else w.heap[k]? := Array.getElem?_push

theorem startW_at (w : World) (A : Option Addr) (n c : Nat) : VW w A n c (startW w A n c) (startF n) (.slice none 0 0) (.slice none 0 0) := by
  refine ⟨?_, ?_, ?_, ?_, ?_, ?_, ?_, ?_, ?_, ?_, by simp [startF], by simp [startF], by simp [startF], ?_, ?_, Kd.R_nil _ _ _ _ _, ⟨fun _ => False, Kd.S_nil _ _ _ _ _, fun _ _ h => h⟩⟩
  · unfold startW
    repeat (first | exact Below.refl _ _ | refine Below.alloc ?_ (by simp; try omega) _)
  all_goals (simp only [startW, at_alloc2]; simp [one, intsO, boolsO, startF, zI, zB]; try (repeat rw [if_neg (by omega)]))

set_option maxRecDepth 100000 in
set_option maxHeartbeats 8000000 in
theorem found_any (nx : List (List Int)) (A : Option Addr) (c : Nat) (w : World) (r : List (List Int)) (hC : Kd.C kL w A nx.length nx) (hc : nx.length ≤ c) (h : foundF nx = some r) :
    Calls Try.prog 71 #[.slice A nx.length c] w fun e w' => ∃ v0_ : Value, e = .returned (v0_) ∧ Kd.S kL 53 w' w.heap.size (fun _ => True) v0_ r ∧ Below w.heap.size w w' := by
  unfold foundF at h
  split at h
  case isFalse => cases h
  rename_i hN
  obtain ⟨T', hF, hr⟩ := Option.map_eq_some_iff.1 h
  subst hr
  have HF := Lib.hid hF; clear hF h
  have hm1 := make_ints hN
  have hm2 := make_bools hN
  have HC := Lib.hid hC; clear hC
  go_enter Try.func71, Try.ntmps71
  go_upto_region 9 with fail
  simp only [Nat.add_assoc, Nat.reduceAdd]
  change Code.wp _ _ _ _ (startW w A nx.length c)
  have HV := Lib.hid (startW_at w A nx.length c)
  generalize startW w A nx.length c = w1 at *
  have HF : Hid (((List.range nx.length).drop 0).foldlM (goF nx (nx.length + 1)) (startF nx.length) = some T') := HF.out
  clear hm1 hm2
  obtain ⟨cx, fx⟩ := one_cell HV.out.hx
  have hz1 := HV.out.size
  go_wp2_with fail
  clear cx fx hz1
  go_loopg [23] nx.length (fun g i wr => ∃ j : Nat, j ≤ nx.length ∧ g = nx.length - j ∧ i = .int .i64 j ∧ ∃ Tr vr vq, Hid (VW w A nx.length c wr Tr vr vq) ∧ Hid (((List.range nx.length).drop j).foldlM (goF nx (nx.length + 1)) Tr = some T'))
  case atStart => exact ⟨0, Nat.zero_le _, rfl, rfl, _, _, _, HV, HF⟩
  case round =>
    clear HV HF
    obtain ⟨j, hj, rfl, rfl, Tr, vr, vq, H, HE⟩ := hrel
    by_cases hlt : j < nx.length
    · have hE := HE.out
      rw [List.drop_eq_getElem_cons (by rw [List.length_range]; exact hlt), List.getElem_range, List.foldlM_cons] at hE
      obtain ⟨T3, hS, hE⟩ := Option.bind_eq_some_iff.1 hE
      have HE3 := Lib.hid hE
      clear hE HE
      unfold goF at hS
      have hsr := H.out
      have hz := hsr.size
      obtain ⟨c4, f4⟩ := one_cell hsr.hn
      obtain ⟨c10, f10⟩ := one_cell hsr.hv
      obtain ⟨cnk, fnk⟩ := ints_cell hsr.dn (j := j) (by rw [hsr.ln]; exact hlt)
      unfold visitV at c10
      by_cases hn0 : Tr.number.getD j 0 = 0
      · rw [if_pos hn0] at hS
        have HS := Lib.hid hS
        rw [hn0] at cnk
        clear hS hn0 hsr
        go_wp2_with (first | (go_at_call 87; refine (visit_any nx A c w HC.out hc hN (nx.length + 1) Tr T3 (j : Int) wr vr vq H.out HS.out).mono ?_; rintro e w7 ⟨rfl, vs7, vo7, hv7, ht7⟩; have HV7 := Lib.hid hv7; clear hv7 ht7))
        go_roundg (nx.length - (j + 1))
        case measure => omega
        case rel => exact ⟨j + 1, by omega, rfl, by go_num, _, _, _, HV7, HE3⟩
      · rw [if_neg hn0] at hS
        injection hS with hS
        subst hS
        have hnb : (Tr.number.getD j 0 == 0) = false := by simpa using hn0
        generalize Tr.number.getD j 0 = x1 at *
        clear hn0 hsr c10 f10
        go_wp2_with fail
        go_roundg (nx.length - (j + 1))
        case measure => omega
        case rel => exact ⟨j + 1, by omega, rfl, by go_num, _, _, _, H, HE3⟩
    · obtain rfl : j = nx.length := by omega
      have hE := HE.out
      rw [List.drop_eq_nil_of_le (by simp)] at hE
      injection hE with hE
      subst hE
      have hsr := H.out
      have hz := hsr.size
      obtain ⟨c1, f1⟩ := one_cell hsr.ht
      clear hsr HE
      go_wp2_with fail
      go_ret
      obtain ⟨P, h1, _⟩ := H.out.ou
      exact ⟨_, rfl, Kd.S_mono (Kd.S_lower h1 (by omega)) (fun _ _ => trivial), H.out.bel⟩

def comp_found.f (l0 : List (List Int)) : Option (List (List Int)) := foundF l0
theorem comp_found.calls (A0 : Option Addr) (c0 : Nat) (l0 : List (List Int)) (r : List (List Int)) (w : World) (hr0 : Kd.C (Kd.slice 3 (Kd.int .i64)) w A0 l0.length l0) (hc0 : l0.length ≤ c0) (h : comp_found.f l0 = some r) :
    Calls Try.prog 71 #[.slice A0 l0.length c0] w fun e w' => ∃ v0_ : Value, e = .returned (v0_) ∧ Kd.S (Kd.slice 3 (Kd.int .i64)) 53 w' w.heap.size (fun _ => True) v0_ r ∧ Below w.heap.size w w' := found_any l0 A0 c0 w r hr0 hc0 h
end Go.Proofs.Ytkgkhakjodlpgaa.Ext
