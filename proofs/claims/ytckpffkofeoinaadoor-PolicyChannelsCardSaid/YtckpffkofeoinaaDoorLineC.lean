/- (*reader).line: 'channel'. -/
import Derived.Test.YtckpffkofeoinaaDoorLineA
namespace Go.Proofs.YtckpffkofeoinaaDoor
open Go.RowKit Go.Maps

theorem idx_ge (names : List ByteArray) (s : ByteArray) : -1 ≤ Lib.idxOfS names s := by
  have key : ∀ (l : List ByteArray) (i : Nat), -1 ≤ Lib.idxFromS l s i := by
    intro l
    induction l with
    | nil => intro i; show (-1 : Int) ≤ -1; omega
    | cons x l ih =>
      intro i
      by_cases e : x = s
      · rw [Lib.idxFromS_hit s (x :: l) 0 i (by simp) (by simpa using e) (by omega)]; omega
      · have h2 : Lib.idxFromS (x :: l) s i = Lib.idxFromS l s (i + 1) := by simp [Lib.idxFromS, e]
        rw [h2]; exact ih _
  exact key names 0

set_option maxRecDepth 100000 in
theorem look_run {w : World} {b : Nat} {l : List (ByteArray × Nat)} (h : OfIs w b l) {c : ByteArray} (hc : c.size ≤ maxLen) :
    (Instr.lookup 40 (.map (some b)) (.string c) true).run Tryd.prog w = .ok (.tuple #[.int .i64 (((ofAt l c).getD 0 : Nat) : Int), .bool (ofAt l c).isSome]) w := by
  obtain ⟨D, h1, h2⟩ := h
  obtain ⟨v, ps, hrun, hv⟩ := h1.look_ok klaw Tryd.underlying40 (zeroI w) (plainElem_int Tryd.underlying3 (by decide)) (keyL_of hc)
  obtain ⟨cc, rfl, he, _⟩ := plainElem_int_inv Tryd.underlying3 hv
  have e2 := congrArg Prod.fst he
  rw [show (D.atKey (keyL c) (.lit (.int .i64 0)), ps).1 = D.atKey (keyL c) (.lit (.int .i64 0)) from rfl, (h2 c).2] at e2
  injection e2 with e2
  injection e2 with _ e2
  rw [hrun, (h2 c).1, ← e2]

set_option maxRecDepth 100000 in
set_option maxHeartbeats 4000000 in
theorem line_chan (base p b A c : Nat) (r : RS) (x y : ByteArray) (w : World) (hx : x.size ≤ 140737488351232) (hM : MaxL w) (hS : RdSt base p b r w) (hr : r.names.length ≤ 100000) (hr3 : r.of.length ≤ 100000)
    (c0 : w.cell? ⟨A, 0, none⟩ = some (.string ⟨#[99, 104, 97, 110, 110, 101, 108]⟩)) (c1 : w.cell? ⟨A, 1, none⟩ = some (.string x)) (c2 : w.cell? ⟨A, 2, none⟩ = some (.string y)) :
    Calls Tryd.prog 22 #[.pointer (some ⟨p, 0, none⟩), .slice (some ⟨A, 0, none⟩) 3 c] w fun e w' => LinePost base p b w (chanF r [bChannel, x, y]) e w' := by
  have HS := Lib.hid hS
  have hq : chanF r [bChannel, x, y] = if identOk x.data.toList = false then (3, r) else if Lib.idxOfS r.names y < 0 then (3, r) else
    if (ofAt r.of x).isSome = true then (4, r) else (0, { r with of := (x, (Lib.idxOfS r.names y).toNat) :: r.of }) := rfl
  obtain ⟨vn, vb, h1, h2, h3, h4, h5, h6, h7, h8⟩ := hS
  obtain ⟨an, cn, rfl, hn1, hn2, hn3⟩ := owns_form h2
  obtain ⟨cp0, _, _, _, _⟩ := cell_in h1
  have hlt := idx_lt r.names y
  have hge : -1 ≤ Lib.idxOfS r.names y := idx_ge _ _
  have HY : Hid (∀ (k : Nat), Calls Tryd.prog 43 #[.slice an r.names.length cn, .string y] (w.drewN k) fun e w' => e = .returned (.int .i64 (Lib.idxOfS r.names y)) ∧ w' = w.drewN k) := fun k => idx_str _ _ _ r.names y _ (hn3.drewN _) rfl (by omega)
  have HI : Hid (∀ k : Nat, Calls Tryd.prog 7 #[.string x] (w.drewN k) fun e w' => e = .returned (.bool (identOk x.data.toList)) ∧ Below (w.drewN k).heap.size (w.drewN k) w') := fun k => ident_any x _ hx (hM.below (below_drewN (Below.refl _ _) k))
  have hxm : x.size ≤ maxLen := by unfold maxLen; omega
  have HK := Lib.hid (keyL_of (c := x) hxm)
  clear h1 h2 h3 h4 h5 h6 h7 h8 hn3 hM
  cases hi : identOk x.data.toList with
  | false =>
    rw [hq, if_pos hi]
    rw [hi] at HI
    clear hi hq
    generalize Lib.idxOfS r.names y = z at *
    go_enter Tryd.func22, Tryd.ntmps22
    go_wp2
    go_quiet ((go_at_call 43; exact Calls.quiet_of_same (HY.out _)))
    have d1 : (w.drewN nq).cell? ⟨A, 1, none⟩ = some (.string x) := c1
    go_wp2_with (go_at_call 7; refine (HI.out _).mono ?_; rintro e w1 ⟨rfl, hb1⟩; have HB1 := Lib.hid hb1; clear hb1)
    go_ret
    exact LinePost.same HS.out ((below_drewN (Below.refl _ _) _).trans HB1.out) 3 rfl
  | true =>
    rw [hq, if_neg (by rw [hi]; simp)]
    rw [hi] at HI
    clear hi hq
    by_cases hz : Lib.idxOfS r.names y < 0
    · rw [if_pos hz]
      generalize Lib.idxOfS r.names y = z at *
      go_enter Tryd.func22, Tryd.ntmps22
      go_wp2
      go_quiet ((go_at_call 43; exact Calls.quiet_of_same (HY.out _)))
      have d1 : (w.drewN nq).cell? ⟨A, 1, none⟩ = some (.string x) := c1
      go_wp2_with (go_at_call 7; refine (HI.out _).mono ?_; rintro e w1 ⟨rfl, hb1⟩; have HB1 := Lib.hid hb1; clear hb1)
      go_ret
      exact LinePost.same HS.out ((below_drewN (Below.refl _ _) _).trans HB1.out) 3 rfl
    · rw [if_neg hz]
      obtain ⟨z, hzz⟩ : ∃ z : Nat, Lib.idxOfS r.names y = (z : Int) := ⟨(Lib.idxOfS r.names y).toNat, by omega⟩
      rw [hzz] at HY hlt hge hz ⊢
      rw [Int.toNat_natCast]
      clear hzz hge
      cases ho : (ofAt r.of x).isSome with
      | true =>
        rw [if_pos rfl]
        have HOS := Lib.hid ho; clear ho
        go_enter Tryd.func22, Tryd.ntmps22
        go_wp2
        go_quiet ((go_at_call 43; exact Calls.quiet_of_same (HY.out _)))
        have d1 : (w.drewN nq).cell? ⟨A, 1, none⟩ = some (.string x) := c1
        go_wp2_with (go_at_call 7; refine (HI.out _).mono ?_; rintro e w1 ⟨rfl, hb1⟩; have HB1 := Lib.hid hb1; have d2 := (hb1.cell (World.block_lt_of_cell? _ _ d1)).trans d1; clear hb1 d1 c0 c1 c2 cp0)
        have HBW := Lib.hid ((below_drewN (Below.refl _ w) nq).trans HB1.out)
        have HS2 := (HS.out.below HBW.out)
        obtain ⟨vn', vb', h1, h2, h3, h4, h6⟩ := HS2
        obtain ⟨_, _, cp2, _, _⟩ := cell_in h1
        have hlk : ∀ k : Nat, _ := fun k => look_run (h4.below (below_drewN (Below.refl _ w1) k)) hxm
        rw [HOS.out] at hlk
        generalize (ofAt r.of x).getD 0 = g0 at hlk
        clear h1 h2 h3 h4 h6
        go_quiet (fail)
        go_wp2
        go_ret
        exact LinePost.same HS.out (below_drewN HBW.out _) 4 rfl
      | false =>
        rw [if_neg (by simp)]
        have HOS := Lib.hid ho; clear ho
        go_enter Tryd.func22, Tryd.ntmps22
        go_wp2
        go_quiet ((go_at_call 43; exact Calls.quiet_of_same (HY.out _)))
        have d1 : (w.drewN nq).cell? ⟨A, 1, none⟩ = some (.string x) := c1
        go_wp2_with (go_at_call 7; refine (HI.out _).mono ?_; rintro e w1 ⟨rfl, hb1⟩; have HB1 := Lib.hid hb1; have d2 := (hb1.cell (World.block_lt_of_cell? _ _ d1)).trans d1; clear hb1 d1 c0 c1 c2 cp0)
        have HBW := Lib.hid ((below_drewN (Below.refl _ w) nq).trans HB1.out)
        have HS2 := (HS.out.below HBW.out)
        obtain ⟨vn', vb', h1, h2, h3, h4, h6⟩ := HS2
        obtain ⟨_, _, cp2, _, _⟩ := cell_in h1
        have hlk : ∀ k : Nat, _ := fun k => look_run (h4.below (below_drewN (Below.refl _ w1) k)) hxm
        rw [HOS.out] at hlk
        generalize (ofAt r.of x).getD 0 = g0 at hlk
        have H1 := Lib.hid h1; have H2 := Lib.hid h2; have H3 := Lib.hid h3; have H4 := Lib.hid h4; have H6 := Lib.hid h6
        clear h1 h2 h3 h4 h6
        go_quiet (fail)
        have H1Q : Hid ((w1.drewN nq).heap[p]? = some (.cells #[vn', vb', .map (some b)] 43 (0, 0))) := H1
        have H2Q : Hid ((w1.drewN nq).ownsRow base 9 1 vn' r.names.length (r.names.map Value.string)) := H2
        have H3Q : Hid ((w1.drewN nq).ownsRow base 95 2 vb' r.below.length (strs2 r.below)) := H3
        have H4Q : Hid (OfIs (w1.drewN nq) b r.of) := H4
        have H6Q : Hid (p < base ∧ b < base ∧ p ≠ b ∧ base ≤ (w1.drewN nq).heap.size) := H6
        have HBQ : Hid (Below w.heap.size w (w1.drewN nq)) := below_drewN HBW.out _
        change (w1.drewN nq).cell? _ = _ at d2 cp2
        clear H1 H2 H3 H4 H6 HBW hlk HB1
        generalize w1.drewN nq = wq at *
        obtain ⟨D, h4, h5⟩ := H4Q.out
        have HO := Lib.hid h4; have HALL := Lib.hid h5
        clear h4 h5
        go_upto_region 19 with fail
        go_still_tail 8, (by kernel_rfl)
        change wpList _ _ _ _ _ wq.drew
        have HOD : Hid (wq.drew.ownsMap Tryd.prog 9 elemI b r.of.length D) := HO
        go_wp2_with (at_mapUpdate; refine wpList_mapUpdate_own _ rfl _ _ _ 40 rfl 9 3 klaw Tryd.underlying40 _ b _ D rfl HOD.out (by unfold maxLen; omega) _ _ _ rfl rfl HK.out _ [] (plainElem_int Tryd.underlying3 (WalkArith.wf_i64 (by omega))) ?_; intro w2 hown2 hgrow2; have HOF := Lib.hid (OfIs.put HALL.out HO.out.isMap hown2); have HGR := Lib.hid hgrow2; clear hown2 hgrow2)
        go_ret
        obtain ⟨h5, h6, h7, h8⟩ := H6Q.out
        have hfin := RdSt.channel (w1 := wq.drew) H1Q.out H2Q.out H3Q.out h5 h6 h7 h8 HOF.out HGR.out
        have hturn : Turn base p b w wq.drew := Turn.of_below HBQ.out.drew HS.out.base_le
        exact ⟨rfl, hfin.1, hturn.trans hfin.2⟩
end Go.Proofs.YtckpffkofeoinaaDoor
