/- (*reader).line: 'below', and lines of no form. -/
import Derived.Test.YtckpffkofeoinaaDoorLineA
namespace Go.Proofs.YtckpffkofeoinaaDoor
open Go.RowKit Go.Maps

set_option maxRecDepth 100000 in
set_option maxHeartbeats 4000000 in
theorem line_below (base p b A c : Nat) (r : RS) (x y : ByteArray) (w : World) (hS : RdSt base p b r w) (hr : r.names.length ≤ 100000) (hr2 : r.below.length ≤ 100000)
    (c0 : w.cell? ⟨A, 0, none⟩ = some (.string ⟨#[98, 101, 108, 111, 119]⟩)) (c1 : w.cell? ⟨A, 1, none⟩ = some (.string x)) (c2 : w.cell? ⟨A, 2, none⟩ = some (.string y)) :
    Calls Tryd.prog 22 #[.pointer (some ⟨p, 0, none⟩), .slice (some ⟨A, 0, none⟩) 3 c] w fun e w' => LinePost base p b w (belowF r [bBelow, x, y]) e w' := by
  have HS := Lib.hid hS
  have hq : belowF r [bBelow, x, y] = if Lib.containsS r.names x = false then (3, r) else if Lib.containsS r.names y = false then (3, r) else (0, { r with below := r.below ++ [(x, y)] }) := rfl
  obtain ⟨vn, vb, h1, h2, h3, h4, h5, h6, h7, h8⟩ := hS
  have HO := Lib.hid h2
  obtain ⟨an, cn, rfl, hn1, hn2, hn3⟩ := owns_form h2
  obtain ⟨ab, cb, rfl, hb1, hb2, hb3⟩ := owns_form h3
  obtain ⟨cp0, cp1, _, _, _⟩ := cell_in h1
  have HX : Hid (∀ (k : Nat), Calls Tryd.prog 42 #[.slice an r.names.length cn, .string x] (w.drewN k) fun e w' => e = .returned (.bool (Lib.containsS r.names x)) ∧ w' = w.drewN k) := fun k => con_str _ _ _ r.names x _ (hn3.drewN _) rfl (by omega)
  have HY : Hid (∀ (k : Nat), Calls Tryd.prog 42 #[.slice an r.names.length cn, .string y] (w.drewN k) fun e w' => e = .returned (.bool (Lib.containsS r.names y)) ∧ w' = w.drewN k) := fun k => con_str _ _ _ r.names y _ (hn3.drewN _) rfl (by omega)
  have H1 := Lib.hid h1; have H3 := Lib.hid h3; have H4 := Lib.hid h4; have H8 := Lib.hid h8
  clear h1 h2 h3 h4 h8 hn3 hb3
  cases hc : Lib.containsS r.names x with
  | false =>
    rw [hq, if_pos hc]
    rw [hc] at HX
    clear hc hq HY
    go_enter Tryd.func22, Tryd.ntmps22
    go_wp2
    go_quiet ((go_at_call 42; exact Calls.quiet_of_same (HX.out _)))
    go_wp2
    go_ret
    exact LinePost.same HS.out (below_drewN (Below.refl _ _) _) 3 rfl
  | true =>
    rw [hq, if_neg (by rw [hc]; simp)]
    rw [hc] at HX
    clear hc hq
    cases hc : Lib.containsS r.names y with
    | false =>
      rw [if_pos rfl]
      rw [hc] at HY
      clear hc
      go_enter Tryd.func22, Tryd.ntmps22
      go_wp2
      go_quiet ((go_at_call 42; first | exact Calls.quiet_of_same (HX.out _) | exact Calls.quiet_of_same (HY.out _)))
      go_wp2
      go_ret
      exact LinePost.same HS.out (below_drewN (Below.refl _ _) _) 3 rfl
    | true =>
      rw [if_neg (by simp)]
      rw [hc] at HY
      clear hc
      go_enter Tryd.func22, Tryd.ntmps22
      go_wp2
      go_quiet ((go_at_call 42; first | exact Calls.quiet_of_same (HX.out _) | exact Calls.quiet_of_same (HY.out _)))
      have HBQ : Hid (Below w.heap.size w (w.drewN nq)) := below_drewN (Below.refl _ _) _
      have HOQ : Hid ((w.drewN nq).ownsRow base 9 1 (.slice an r.names.length cn) r.names.length (r.names.map Value.string)) := HO
      have H1Q : Hid ((w.drewN nq).heap[p]? = some (.cells #[.slice an r.names.length cn, .slice ab r.below.length cb, .map (some b)] 43 (0, 0))) := H1
      have H3Q : Hid ((w.drewN nq).ownsRow base 95 2 (.slice ab r.below.length cb) r.below.length (strs2 r.below)) := H3
      have H4Q : Hid (OfIs (w.drewN nq) b r.of) := H4
      have H8Q : Hid (base ≤ (w.drewN nq).heap.size) := H8
      change (w.drewN nq).cell? _ = _ at c0 c1 c2 cp0 cp1
      clear HO H1 H3 H4 H8 HX HY
      generalize w.drewN nq = wq at *
      obtain ⟨i3, hi3, hz30, hz31, hz32⟩ := info_parts info_prs
      go_upto_region 11 with fail
      have hsz2 := H8Q.out
      have cpa := (cell_in (heap_alloc_lt (o := .cells #[.string x, .string y] 95) H1Q.out)).2.1
      go_region_law (refine step_append_lies _ rfl (.tmp 77) (.tmp 85) 41 rfl base 95 i3 _ 2 32 Tryd.underlying41 hi3 hz30 hz31 hz32 rfl (by decide) (.slice ab r.below.length cb) r.below.length _ (by simp [Act.eval]) (World.ownsRow.alloc (w := wq.drew) H3Q.out _) ⟨wq.heap.size, 0, none⟩ 1 1 [.string x, .string y] (by simp [Act.eval]) rfl (World.news_of_block (cs := #[.string x, .string y]) (t := 95) (fr := (0, 0)) (heap_alloc_new wq.drew _)) (by simp [Value.oneCell']) (by decide) (by unfold maxLen; omega) (by omega) (by simp; omega) _ rfl ?_; intro gg cap w3 hown1 hgrow hat hltg; have hp3 := Lib.hid (field_keep (w1 := wq.drew) H1Q.out H3Q.out h5 hgrow); obtain ⟨_, cp3, _, _, fp3⟩ := cell_in hp3.out)
      all_goals
        have hfin := Lib.hid (RdSt.paired (w1 := wq.drew) (o := .cells #[.string x, .string y] 95) H1Q.out HOQ.out H3Q.out H4Q.out h5 h6 h7 H8Q.out hown1 hgrow)
        clear hown1 hgrow hat hltg
        go_wp2
        go_ret
        have hturn : Turn base p b w wq.drew := Turn.of_below HBQ.out.drew HS.out.base_le
        exact ⟨rfl, hfin.out.1, hturn.trans hfin.out.2⟩

set_option maxRecDepth 100000 in
theorem line_two (base p b A c : Nat) (r : RS) (x0 : ByteArray) (w : World) (hS : RdSt base p b r w) (hx : (x0.toList == [108, 101, 118, 101, 108]) = false)
    (c0 : w.cell? ⟨A, 0, none⟩ = some (.string x0)) :
    Calls Tryd.prog 22 #[.pointer (some ⟨p, 0, none⟩), .slice (some ⟨A, 0, none⟩) 2 c] w fun e w' => LinePost base p b w (2, r) e w' := by
  have HS := Lib.hid hS; clear hS
  go_enter Tryd.func22, Tryd.ntmps22
  go_wp2
  go_ret
  exact LinePost.same HS.out (Below.refl _ _) 2 rfl

set_option maxRecDepth 100000 in
theorem line_three (base p b A c : Nat) (r : RS) (x0 : ByteArray) (w : World) (hS : RdSt base p b r w) (hx : (x0.toList == [98, 101, 108, 111, 119]) = false) (hy : (x0.toList == [99, 104, 97, 110, 110, 101, 108]) = false)
    (c0 : w.cell? ⟨A, 0, none⟩ = some (.string x0)) :
    Calls Tryd.prog 22 #[.pointer (some ⟨p, 0, none⟩), .slice (some ⟨A, 0, none⟩) 3 c] w fun e w' => LinePost base p b w (2, r) e w' := by
  have HS := Lib.hid hS; clear hS
  go_enter Tryd.func22, Tryd.ntmps22
  go_wp2
  go_ret
  exact LinePost.same HS.out (Below.refl _ _) 2 rfl

set_option maxRecDepth 100000 in
theorem line_many (base p b A c n : Nat) (r : RS) (w : World) (hS : RdSt base p b r w) (hx : ¬ (n : Int) = 2) (hy : ¬ (n : Int) = 3) :
    Calls Tryd.prog 22 #[.pointer (some ⟨p, 0, none⟩), .slice (some ⟨A, 0, none⟩) n c] w fun e w' => LinePost base p b w (2, r) e w' := by
  have HS := Lib.hid hS; clear hS
  go_enter Tryd.func22, Tryd.ntmps22
  go_wp2
  go_ret
  exact LinePost.same HS.out (Below.refl _ _) 2 rfl
end Go.Proofs.YtckpffkofeoinaaDoor
