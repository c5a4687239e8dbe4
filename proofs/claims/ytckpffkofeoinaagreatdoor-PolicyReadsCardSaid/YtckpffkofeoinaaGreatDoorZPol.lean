/- The document's policy as it lies: Level, May. -/
import Derived.Test.YtckpffkofeoinaaGreatDoorZReader
import Derived.Test.YtckpffkofeoinaaGreatDoorPols
namespace Go.Proofs.YtckpffkofeoinaaGreatDoor
open Go.RowKit Go.Maps Go.Proofs.YtckpffkofeoinaaGreatDoor.Lr

/-- The document's policy r lies in block q. -/
def DPol (w : World) (q : Nat) (r : RS) : Prop :=
  ∃ ql g rr A cn cap U vc vp, w.heap[q]? = some (.cells #[.pointer (some ⟨ql, 0, none⟩), vc, vp] 38 (0, 0)) ∧ RLat ql g rr A cn cap r.names U w ∧ Shows r.names r.below U ∧
    w.ownsRow 0 9 1 vc (chansL r).length ((chansL r).map Value.string) ∧ w.ownsRow 0 3 1 vp (chansL r).length (levsL r)

theorem DPol.below {w w' : World} {q : Nat} {r : RS} (h : DPol w q r) (hb : Below w.heap.size w w') : DPol w' q r := by
  obtain ⟨ql, g, rr, A, cn, cap, U, vc, vp, h1, h2, h3, h4, h5⟩ := h
  exact ⟨ql, g, rr, A, cn, cap, U, vc, vp, by rw [hb.block q (lt_of_block h1)]; exact h1, h2.below hb, h3, owns_below h4 hb, owns_below h5 hb⟩

theorem idx_level {r : RS} {c : ByteArray} {n : Nat} (h : Lib.idxOfS (chansL r) c = (n : Int)) : n < (chansL r).length ∧ levelI r c = (levelN r ((chansL r).getD n ByteArray.empty) : Int) := by
  obtain ⟨h1, h2⟩ := idx_hit (names := chansL r) (s := c) (by omega)
  rw [h, Int.toNat_natCast] at h1 h2
  refine ⟨h1, ?_⟩
  rw [h2]
  have hm : c ∈ chansL r := by
    rw [← h2, getD_at h1]; exact List.getElem_mem h1
  unfold levelI
  rw [levelN_of hm]

theorem idx_noLevel {r : RS} {c : ByteArray} (h : Lib.idxOfS (chansL r) c < 0) : levelI r c = -1 := by
  have hm : c ∉ chansL r := fun hm => by have := (Lib.idxOfS_nonneg_iff _ _).2 hm; omega
  have hn : ofAt r.of c = Option.none := ofAt_none.2 fun h2 => hm (mem_chansL.2 h2)
  unfold levelI; rw [hn]

set_option maxRecDepth 100000 in
theorem dlevel_any (q : Nat) (r : RS) (c : ByteArray) (w : World) (h : DPol w q r) (hl : (chansL r).length ≤ 1000000) :
    Calls Tryz.prog 8 #[.pointer (some ⟨q, 0, none⟩), .string c] w fun e w' => e = .returned (.int .i64 (levelI r c)) ∧ w' = w := by
  obtain ⟨ql, g, rr, A, cn, cap, U, vc, vp, h1, h2, h3, h4, h5⟩ := h
  obtain ⟨ac, cc, rfl, hc1, hc2, hc3⟩ := owns_form h4
  obtain ⟨ap, cp, rfl, hp1, hp2, hp3⟩ := owns_form h5
  obtain ⟨c0, c1, c2, _, _⟩ := cell_in h1
  obtain ⟨nX, hnX⟩ : ∃ n, (chansL r).length = n := ⟨_, rfl⟩
  have HPL : Hid (Calls Tryz.prog 24 #[.slice ac nX cc, .string c] w fun e w' => e = .returned (.int .i64 (Lib.idxOfS (chansL r) c)) ∧ w = w') := by
    exact (rplace22_any ac nX cc (chansL r) c w hnX hc3 (by omega)).mono fun _ _ h => ⟨h.1, h.2.symm⟩
  rw [hnX] at c1 c2 hp1
  have HP := Lib.hid hp3; have HNX := Lib.hid hnX
  clear h1 h2 h3 h4 h5 hc3 hp3 hnX hl
  by_cases hneg : Lib.idxOfS (chansL r) c < 0
  · have HF := Lib.hid (idx_noLevel hneg)
    generalize Lib.idxOfS (chansL r) c = ix at *
    go_enter Tryz.func8, Tryz.ntmps8
    go_wp2_with (go_at_call 24; refine HPL.out.mono ?_; rintro e w' ⟨rfl, rfl⟩)
    go_ret
    exact ⟨ret_int HF.out.symm, rfl⟩
  · obtain ⟨n, hn⟩ : ∃ n : Nat, Lib.idxOfS (chansL r) c = (n : Int) := ⟨(Lib.idxOfS (chansL r) c).toNat, by omega⟩
    obtain ⟨hlt, hlv⟩ := idx_level hn
    rw [hn] at HPL
    have hlt2 : n < nX := by rw [← HNX.out]; exact hlt
    obtain ⟨g2, o2, rfl, d1⟩ := HP.out.at (j := n) (v := .int .i64 (levelN r ((chansL r).getD n ByteArray.empty) : Int)) (by unfold levsL; rw [List.getElem?_map, List.getElem?_eq_getElem hlt, getD_at hlt]; rfl)
    have HF := Lib.hid hlv
    clear hn hneg hlt hlv
    generalize levelN r ((chansL r).getD n ByteArray.empty) = lv at *
    go_enter Tryz.func8, Tryz.ntmps8
    go_wp2_with (go_at_call 24; refine HPL.out.mono ?_; rintro e w' ⟨rfl, rfl⟩)
    go_ret
    exact ⟨ret_int HF.out.symm, rfl⟩

set_option maxRecDepth 100000 in
set_option maxHeartbeats 4000000 in
theorem dmay_any (q : Nat) (r : RS) (x y : ByteArray) (w : World) (h : DPol w q r) (hl : (chansL r).length ≤ 1000000) :
    Calls Tryz.prog 10 #[.pointer (some ⟨q, 0, none⟩), .string x, .string y] w fun e w' => e = .returned (.bool (mayB r x y)) ∧ Hid (Below w.heap.size w w') := by
  have HP := Lib.hid h
  obtain ⟨ql, g, rr, A, cn, cap, U, vc, vp, h1, h2, h3, h4, h5⟩ := h
  obtain ⟨c0, c1, c2, _, _⟩ := cell_in h1
  have HB : Hid (∀ (n : Nat) (i j : Int), Calls Tryz.prog 26 #[.pointer (some ⟨ql, 0, none⟩), .int .i64 i, .int .i64 j] (w.drewN n) fun e w' => e = .returned (.bool (belowB (newL r.names r.below) i j)) ∧ Below (w.drewN n).heap.size (w.drewN n) w') := fun n i j =>
    rbelow_any (h2.below (below_drewN (Below.refl _ w) n)) i j (h3.below_ev i j)
  have HV : Hid (∀ (n : Nat) (c : ByteArray), Calls Tryz.prog 8 #[.pointer (some ⟨q, 0, none⟩), .string c] (w.drewN n) fun e w' => e = .returned (.int .i64 (levelI r c)) ∧ w.drewN n = w') := fun n c =>
    (dlevel_any q r c (w.drewN n) (HP.out.below (below_drewN (Below.refl _ w) n)) hl).mono fun _ _ h => ⟨h.1, h.2.symm⟩
  clear h1 h2 h3 h4 h5 HP
  go_enter Tryz.func10, Tryz.ntmps10
  go_wp2_with fail
  go_region_with (first
    | (go_at_call 8; refine (HV.out 1 _).mono ?_; rintro e w' ⟨rfl, rfl⟩)
    | (go_at_call 26; refine (HB.out 1 _ _).mono ?_; rintro e w' ⟨rfl, hb⟩; have HBB := Lib.hid hb; clear hb))
  all_goals
    go_wp2
    go_ret
    exact ⟨ret_bool rfl, (below_drewN (Below.refl _ w) 1).trans HBB.out⟩
end Go.Proofs.YtckpffkofeoinaaGreatDoor
