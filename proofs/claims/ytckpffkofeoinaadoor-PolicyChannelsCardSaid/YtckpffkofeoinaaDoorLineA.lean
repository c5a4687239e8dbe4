/- (*reader).line: 'level'. -/
import Derived.Test.YtckpffkofeoinaaDoorReader
import Derived.StillTailTactics
namespace Go.Proofs.YtckpffkofeoinaaDoor
open Go.RowKit Go.Maps

theorem info_str : (Tryd.prog.info? 9).map (fun i => (i.zero, i.size, i.bytes)) = some (some (.string ⟨#[]⟩), 1, 16) := by kernel_rfl
theorem info_prs : (Tryd.prog.info? 95).map (fun i => (i.zero, i.size, i.bytes)) = some (some (.agg #[.string ⟨#[]⟩, .string ⟨#[]⟩]), 2, 32) := by kernel_rfl

/-- What line does: the error, and the reader behind it. -/
def LinePost (base p b : Nat) (w : World) (q : Int × RS) (e : Ending) (w' : World) : Prop := e = .returned (.int .i64 q.1) ∧ RdSt base p b q.2 w' ∧ Turn base p b w w'

theorem LinePost.same {base p b : Nat} {r : RS} {w w' : World} (h : RdSt base p b r w) (hb : Below w.heap.size w w') (c : Int) {e : Ending} (he : e = .returned (.int .i64 c)) : LinePost base p b w (c, r) e w' :=
  ⟨he, h.below hb, Turn.of_below hb h.base_le⟩

set_option maxRecDepth 100000 in
set_option maxHeartbeats 4000000 in
theorem line_level (base p b A c : Nat) (r : RS) (x : ByteArray) (w : World) (hx : x.size ≤ 140737488351232) (hS : RdSt base p b r w) (hr : r.names.length ≤ 100000)
    (c0 : w.cell? ⟨A, 0, none⟩ = some (.string ⟨#[108, 101, 118, 101, 108]⟩)) (c1 : w.cell? ⟨A, 1, none⟩ = some (.string x)) :
    Calls Tryd.prog 22 #[.pointer (some ⟨p, 0, none⟩), .slice (some ⟨A, 0, none⟩) 2 c] w fun e w' => LinePost base p b w (levelF r [bLevel, x]) e w' := by
  have HS := Lib.hid hS; clear hS
  have hq : levelF r [bLevel, x] = if nameOk x.data.toList = false then (3, r) else if Lib.containsS r.names x = true then (4, r) else (0, { r with names := r.names ++ [x] }) := rfl
  have HN : Hid (∀ w : World, Calls Tryd.prog 41 #[.string x] w fun e w' => e = .returned (.bool (nameOk x.data.toList)) ∧ Below w.heap.size w w') := fun w => name_any x w hx
  cases hn : nameOk x.data.toList with
  | false =>
    rw [hn] at HN
    rw [hq, if_pos hn]
    clear hn hq
    go_enter Tryd.func22, Tryd.ntmps22
    go_wp2_with (go_at_call 41; refine (HN.out _).mono ?_; rintro e w1 ⟨rfl, hb1⟩; have HB1 := Lib.hid hb1; clear hb1)
    go_ret
    exact LinePost.same HS.out HB1.out 3 rfl
  | true =>
    rw [hn] at HN
    rw [hq, if_neg (by rw [hn]; simp)]
    clear hn hq
    cases hc : Lib.containsS r.names x with
    | true =>
      rw [if_pos rfl]
      have HC := Lib.hid hc; clear hc
      go_enter Tryd.func22, Tryd.ntmps22
      go_wp2_with (go_at_call 41; refine (HN.out _).mono ?_; rintro e w1 ⟨rfl, hb1⟩; have HB1 := Lib.hid hb1; have d1 := (hb1.cell (World.block_lt_of_cell? w _ c1)).trans c1; clear hb1 c0 c1)
      have HS1 := Lib.hid (HS.out.below HB1.out)
      have HS2 := HS1.out
      obtain ⟨vn, vb, h1, h2, h3, h4, h5, h6, h7, h8⟩ := HS2
      obtain ⟨an, cn, rfl, hn1, hn2, hn3⟩ := owns_form h2
      have cp : w1.cell? ⟨p, 0, none⟩ = some (.slice an r.names.length cn) := by simp [World.cell?, h1]
      have HR := Lib.hid hn3
      clear h1 h2 h3 h4 h5 h6 h7 h8 hn3
      go_quiet ((go_at_call 42; exact Calls.quiet_of_same ((con_str _ _ _ r.names x _ (HR.out.drewN _) rfl (by omega)).mono fun e w' h => ⟨h.1.trans (by rw [HC.out]), h.2⟩)))
      go_wp2
      go_ret
      exact LinePost.same HS.out (below_drewN HB1.out _) 4 rfl
    | false =>
      rw [if_neg (by simp)]
      have HC := Lib.hid hc; clear hc
      go_enter Tryd.func22, Tryd.ntmps22
      go_wp2_with (go_at_call 41; refine (HN.out _).mono ?_; rintro e w1 ⟨rfl, hb1⟩; have HB1 := Lib.hid hb1; have d1 := (hb1.cell (World.block_lt_of_cell? w _ c1)).trans c1; clear hb1 c0 c1)
      have HS1 := Lib.hid (HS.out.below HB1.out)
      have HS2 := HS1.out
      obtain ⟨vn, vb, h1, h2, h3, h4, h5, h6, h7, h8⟩ := HS2
      have HO := Lib.hid h2
      obtain ⟨an, cn, rfl, hn1, hn2, hn3⟩ := owns_form h2
      have cp : w1.cell? ⟨p, 0, none⟩ = some (.slice an r.names.length cn) := by simp [World.cell?, h1]
      have HR := Lib.hid hn3
      have H1 := Lib.hid h1; have H3 := Lib.hid h3; have H4 := Lib.hid h4
      clear h1 h2 h3 h4 hn3
      go_quiet ((go_at_call 42; exact Calls.quiet_of_same ((con_str _ _ _ r.names x _ (HR.out.drewN _) rfl (by omega)).mono fun e w' h => ⟨h.1.trans (by rw [HC.out]), h.2⟩)))
      have HBQ : Hid (Below w.heap.size w (w1.drewN nq)) := below_drewN HB1.out _
      have HOQ : Hid ((w1.drewN nq).ownsRow base 9 1 (.slice an r.names.length cn) r.names.length (r.names.map Value.string)) := HO
      have H1Q : Hid ((w1.drewN nq).heap[p]? = some (.cells #[.slice an r.names.length cn, vb, .map (some b)] 43 (0, 0))) := H1
      have H3Q : Hid ((w1.drewN nq).ownsRow base 95 2 vb r.below.length (strs2 r.below)) := H3
      have H4Q : Hid (OfIs (w1.drewN nq) b r.of) := H4
      have H8Q : Hid (base ≤ (w1.drewN nq).heap.size) := h8
      change (w1.drewN nq).cell? _ = _ at d1 cp
      clear HO HB1 H1 H3 H4 h8 HR HS1
      generalize w1.drewN nq = wq at *
      obtain ⟨i3, hi3, hz30, hz31, hz32⟩ := info_parts info_str
      go_upto_region 7 with fail
      have hsz := HBQ.out.size
      have hsz2 := H8Q.out
      have cpa := (cell_in (heap_alloc_lt (o := .cells #[.string x] 9) H1Q.out)).1
      go_region_law (refine step_append_lies _ rfl (.tmp 35) (.tmp 39) 28 rfl base 9 i3 _ 1 16 Tryd.underlying28 hi3 hz30 hz31 hz32 rfl (by decide) (.slice an r.names.length cn) r.names.length _ (by simp [Act.eval]) (World.ownsRow.alloc (w := wq.drew) HOQ.out _) ⟨wq.heap.size, 0, none⟩ 1 1 [.string x] (by simp [Act.eval]) rfl (World.news_of_block (cs := #[.string x]) (t := 9) (fr := (0, 0)) (heap_alloc_new wq.drew _)) (by simp [Value.oneCell']) (by decide) (by unfold maxLen; omega) (by omega) (by simp; omega) _ rfl ?_; intro gg cap w3 hown1 hgrow hat hltg; have hp3 := Lib.hid (field_keep (w1 := wq.drew) H1Q.out HOQ.out h5 hgrow); obtain ⟨cp3, _, _, fp3, _⟩ := cell_in hp3.out)
      all_goals
        have hfin := Lib.hid (RdSt.named (w1 := wq.drew) (o := .cells #[.string x] 9) H1Q.out HOQ.out H3Q.out H4Q.out h5 h6 h7 H8Q.out hown1 hgrow)
        clear hown1 hgrow hat hltg
        go_wp2
        go_ret
        have hturn : Turn base p b w wq.drew := Turn.of_below HBQ.out.drew HS.out.base_le
        exact ⟨rfl, hfin.out.1, hturn.trans hfin.out.2⟩
end Go.Proofs.YtckpffkofeoinaaDoor
