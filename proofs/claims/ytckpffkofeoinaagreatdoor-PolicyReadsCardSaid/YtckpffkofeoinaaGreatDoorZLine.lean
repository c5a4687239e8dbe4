/- The document's (*reader).line. -/
import Derived.Test.YtckpffkofeoinaaGreatDoorZChan
import Derived.Test.YtckpffkofeoinaaGreatDoorLines
namespace Go.Proofs.YtckpffkofeoinaaGreatDoor
open Go.RowKit Go.Maps Go.Proofs.YtckpffkofeoinaaGreatDoor.Lr

theorem DPost.later {base p : Nat} {w w1 : World} {q : Int × RS} {e : Ending} {w' : World} (h : DPost base p w1 q e w') (hb : Below w.heap.size w w1) (hl : base ≤ w.heap.size) : DPost base p w q e w' :=
  ⟨h.1, h.2.1, (Turn.of_below hb hl).trans h.2.2⟩

set_option maxRecDepth 100000 in
set_option maxHeartbeats 2000000 in
theorem rline_level (base p A o c : Nat) (r : RS) (x : ByteArray) (w : World) (hx : x.size ≤ 140737488351232) (hS : DSt base p r w) (hr : r.names.length ≤ 100000)
    (c0 : w.cell? ⟨A, o, none⟩ = some (.string ⟨#[108, 101, 118, 101, 108]⟩)) (c1 : w.cell? ⟨A, o + 1, none⟩ = some (.string x)) :
    Calls Tryz.prog 22 #[.pointer (some ⟨p, 0, none⟩), .slice (some ⟨A, o, none⟩) 2 c] w fun e w' => DPost base p w (levelF r [bLevel, x]) e w' := by
  have HC : Hid (Calls Tryz.prog 48 #[.pointer (some ⟨p, 0, none⟩), .string x] w fun e w' => DPost base p w (levelF r [bLevel, x]) e w') := rlevel_any base p r x w hx hS hr
  clear hS
  generalize levelF r [bLevel, x] = q at *
  go_enter Tryz.func22, Tryz.ntmps22
  go_wp2_with (go_at_call 48; refine HC.out.mono ?_; rintro e w2 ⟨rfl, hs, ht⟩; have HS2 := Lib.hid hs; have HT2 := Lib.hid ht; clear hs ht)
  go_ret
  exact ⟨rfl, HS2.out, HT2.out⟩

set_option maxRecDepth 100000 in
set_option maxHeartbeats 2000000 in
theorem rline_chan (base p A o c : Nat) (r : RS) (x y : ByteArray) (w : World) (hx : x.size ≤ 140737488351232) (hS : DSt base p r w) (hr : r.names.length ≤ 100000) (hc : (chansL r).length ≤ 100000)
    (c0 : w.cell? ⟨A, o, none⟩ = some (.string ⟨#[99, 104, 97, 110, 110, 101, 108]⟩)) (c1 : w.cell? ⟨A, o + 1, none⟩ = some (.string x)) (c2 : w.cell? ⟨A, o + 2, none⟩ = some (.string y)) :
    Calls Tryz.prog 22 #[.pointer (some ⟨p, 0, none⟩), .slice (some ⟨A, o, none⟩) 3 c] w fun e w' => DPost base p w (chanF r [bChannel, x, y]) e w' := by
  have HB : Hid (Below w.heap.size w w.drew) := (Below.refl _ w).drew
  have HC : Hid (Calls Tryz.prog 49 #[.pointer (some ⟨p, 0, none⟩), .string x, .string y] w.drew fun e w' => DPost base p w (chanF r [bChannel, x, y]) e w') :=
    (rchan_any base p r x y w.drew (hS.below HB.out) hx hr hc).mono fun _ _ h => h.later HB.out hS.base_le
  clear hS HB
  generalize chanF r [bChannel, x, y] = q at *
  go_enter Tryz.func22, Tryz.ntmps22
  go_upto_region 4 with fail
  go_still_tail 7, (by kernel_rfl)
  change wpList _ _ _ _ _ w.drew
  go_wp2_with (go_at_call 49; refine HC.out.mono ?_; rintro e w2 ⟨rfl, hs, ht⟩; have HS2 := Lib.hid hs; have HT2 := Lib.hid ht; clear hs ht)
  go_ret
  exact ⟨rfl, HS2.out, HT2.out⟩

set_option maxRecDepth 100000 in
set_option maxHeartbeats 4000000 in
theorem rline_below (base p A o c : Nat) (r : RS) (x y : ByteArray) (w : World) (hS : DSt base p r w) (hr : r.names.length ≤ 100000) (hr2 : r.below.length ≤ 100000)
    (c0 : w.cell? ⟨A, o, none⟩ = some (.string ⟨#[98, 101, 108, 111, 119]⟩)) (c1 : w.cell? ⟨A, o + 1, none⟩ = some (.string x)) (c2 : w.cell? ⟨A, o + 2, none⟩ = some (.string y)) :
    Calls Tryz.prog 22 #[.pointer (some ⟨p, 0, none⟩), .slice (some ⟨A, o, none⟩) 3 c] w fun e w' => DPost base p w (belowF r [bBelow, x, y]) e w' := by
  have HS := Lib.hid hS
  have hq : belowF r [bBelow, x, y] = if Lib.containsS r.names x = false then (3, r) else if Lib.containsS r.names y = false then (3, r) else (0, { r with below := r.below ++ [(x, y)] }) := rfl
  obtain ⟨vn, vb, vp, vc, h1, h2, h3, h4, h5, h6, h7, h8⟩ := hS
  have HO := Lib.hid h2
  obtain ⟨an, cn, rfl, hn1, hn2, hn3⟩ := owns_form h2
  obtain ⟨ab, cb, rfl, hb1, hb2, hb3⟩ := owns_form h3
  obtain ⟨cp0, cp1, _, _, _, _, _, _⟩ := cell_in4 h1
  have HX : Hid (∀ (k : Nat) (z : ByteArray), Calls Tryz.prog 24 #[.slice an r.names.length cn, .string z] (w.drewN k) fun e w' => e = .returned (.int .i64 (Lib.idxOfS r.names z)) ∧ w' = w.drewN k) := fun k z => rplace22_any _ _ _ r.names z _ rfl (hn3.drewN _) (by omega)
  have H1 := Lib.hid h1; have H3 := Lib.hid h3; have H4 := Lib.hid h4; have H5 := Lib.hid h5; have H6 := Lib.hid h6; have H8 := Lib.hid h8
  have hcx : Lib.containsS r.names x = decide (0 ≤ Lib.idxOfS r.names x) := rfl
  have hcy : Lib.containsS r.names y = decide (0 ≤ Lib.idxOfS r.names y) := rfl
  rw [hcx, hcy] at hq
  rw [hq]
  clear h1 h2 h3 h4 h5 h6 h8 hn3 hb3 hcx hcy hq
  by_cases hx : Lib.idxOfS r.names x < 0
  · rw [if_pos (decide_eq_false (by omega))]
    go_enter Tryz.func22, Tryz.ntmps22
    go_wp2
    go_quiet ((go_at_call 24; exact Calls.quiet_of_same (HX.out _ _)))
    go_wp2
    go_ret
    exact DPost.same HS.out (below_drewN (Below.refl _ _) _) 3 rfl
  · rw [if_neg (by rw [decide_eq_true (show 0 ≤ Lib.idxOfS r.names x by omega)]; simp)]
    by_cases hy : Lib.idxOfS r.names y < 0
    · rw [if_pos (decide_eq_false (by omega))]
      go_enter Tryz.func22, Tryz.ntmps22
      go_wp2
      go_quiet ((go_at_call 24; exact Calls.quiet_of_same (HX.out _ _)))
      go_wp2
      go_ret
      exact DPost.same HS.out (below_drewN (Below.refl _ _) _) 3 rfl
    · rw [if_neg (by rw [decide_eq_true (show 0 ≤ Lib.idxOfS r.names y by omega)]; simp)]
      go_enter Tryz.func22, Tryz.ntmps22
      go_wp2
      go_quiet ((go_at_call 24; exact Calls.quiet_of_same (HX.out _ _)))
      have HBQ : Hid (Below w.heap.size w (w.drewN nq)) := below_drewN (Below.refl _ _) _
      have HOQ : Hid ((w.drewN nq).ownsRow base 9 1 (.slice an r.names.length cn) r.names.length (r.names.map Value.string)) := HO
      have H1Q : Hid ((w.drewN nq).heap[p]? = some (.cells #[.slice an r.names.length cn, .slice ab r.below.length cb, vp, vc] 60 (0, 0))) := H1
      have H3Q : Hid ((w.drewN nq).ownsRow base 107 2 (.slice ab r.below.length cb) r.below.length (strs2 r.below)) := H3
      have H4Q : Hid ((w.drewN nq).ownsRow base 3 1 vp (chansL r).length (levsL r)) := H4
      have H5Q : Hid ((w.drewN nq).ownsRow base 9 1 vc (chansL r).length ((chansL r).map Value.string)) := H5
      have H8Q : Hid (base ≤ (w.drewN nq).heap.size) := H8
      change (w.drewN nq).cell? _ = _ at c0 c1 c2 cp0 cp1
      clear HO H1 H3 H4 H5 H8 HX
      generalize w.drewN nq = wq at *
      obtain ⟨i3, hi3, hz30, hz31, hz32⟩ := info_parts info_prs
      go_upto_region 8 with fail
      have hsz2 := H8Q.out
      have cpa := (cell_in4 (heap_alloc_lt (o := .cells #[.string x, .string y] 107) H1Q.out)).2.1
      go_region_law (refine step_append_lies _ rfl (.tmp 72) (.tmp 80) 48 rfl base 107 i3 _ 2 32 Tryz.underlying48 hi3 hz30 hz31 hz32 rfl (by decide) (.slice ab r.below.length cb) r.below.length _ (by simp [Act.eval]) (World.ownsRow.alloc (w := wq.drew) H3Q.out _) ⟨wq.heap.size, 0, none⟩ 1 1 [.string x, .string y] (by simp [Act.eval]) rfl (World.news_of_block (cs := #[.string x, .string y]) (t := 107) (fr := (0, 0)) (heap_alloc_new wq.drew _)) (by simp [Value.oneCell']) (by decide) (by unfold maxLen; omega) (by omega) (by simp; omega) _ rfl ?_; intro gg cap w3 hown1 hgrow hat hltg; have hp3 := Lib.hid (field_keep (w1 := wq.drew) H1Q.out H3Q.out h7 hgrow); obtain ⟨_, cp3, _, _, _, fp3, _, _⟩ := cell_in4 hp3.out)
      all_goals
        have hfin := Lib.hid (DSt.paired (w1 := wq.drew) (o := .cells #[.string x, .string y] 107) H1Q.out HOQ.out H3Q.out H4Q.out H5Q.out H6.out h7 H8Q.out hown1 hgrow)
        clear hown1 hgrow hat hltg
        go_wp2
        go_ret
        have hturn : Turn base p p w wq.drew := Turn.of_below HBQ.out.drew HS.out.base_le
        exact ⟨rfl, hfin.out.1, hturn.trans hfin.out.2⟩

set_option maxRecDepth 100000 in
theorem rline_two (base p A o c : Nat) (r : RS) (x0 : ByteArray) (w : World) (hS : DSt base p r w) (hx : (x0.toList == [108, 101, 118, 101, 108]) = false) (c0 : w.cell? ⟨A, o, none⟩ = some (.string x0)) :
    Calls Tryz.prog 22 #[.pointer (some ⟨p, 0, none⟩), .slice (some ⟨A, o, none⟩) 2 c] w fun e w' => DPost base p w (2, r) e w' := by
  have HS := Lib.hid hS; clear hS
  go_enter Tryz.func22, Tryz.ntmps22
  go_wp2
  go_ret
  exact DPost.same HS.out (Below.refl _ _) 2 rfl

set_option maxRecDepth 100000 in
theorem rline_three (base p A o c : Nat) (r : RS) (x0 : ByteArray) (w : World) (hS : DSt base p r w) (hx : (x0.toList == [98, 101, 108, 111, 119]) = false) (hy : (x0.toList == [99, 104, 97, 110, 110, 101, 108]) = false) (c0 : w.cell? ⟨A, o, none⟩ = some (.string x0)) :
    Calls Tryz.prog 22 #[.pointer (some ⟨p, 0, none⟩), .slice (some ⟨A, o, none⟩) 3 c] w fun e w' => DPost base p w (2, r) e w' := by
  have HS := Lib.hid hS; clear hS
  go_enter Tryz.func22, Tryz.ntmps22
  go_wp2
  go_ret
  exact DPost.same HS.out (Below.refl _ _) 2 rfl

set_option maxRecDepth 100000 in
theorem rline_many (base p n c : Nat) (A : Option Addr) (r : RS) (w : World) (hS : DSt base p r w) (hx : ¬ (n : Int) = 2) (hy : ¬ (n : Int) = 3) :
    Calls Tryz.prog 22 #[.pointer (some ⟨p, 0, none⟩), .slice A n c] w fun e w' => DPost base p w (2, r) e w' := by
  have HS := Lib.hid hS; clear hS
  go_enter Tryz.func22, Tryz.ntmps22
  go_wp2
  go_ret
  exact DPost.same HS.out (Below.refl _ _) 2 rfl

theorem rline_any (base p n c : Nat) (A : Option Addr) (r : RS) (ws : List ByteArray) (w : World) (hn : ws.length = n) (hR : Rd w A (ws.map Value.string)) (hx : ∀ x ∈ ws, x.size ≤ 140737488351232) (hS : DSt base p r w)
    (hr : r.names.length ≤ 100000) (hr2 : r.below.length ≤ 100000) (hr3 : (chansL r).length ≤ 100000) :
    Calls Tryz.prog 22 #[.pointer (some ⟨p, 0, none⟩), .slice A n c] w fun e w' => DPost base p w (lineF r ws) e w' := by
  subst hn
  by_cases hnn : ws.length = 2 ∨ ws.length = 3
  · obtain ⟨g, o, rfl, hat⟩ : ∃ g o, A = some ⟨g, o, none⟩ ∧ ∀ (i : Nat) (x : ByteArray), ws[i]? = some x → w.cell? ⟨g, o + i, none⟩ = some (.string x) := by
      rcases hR with h | ⟨b', o, h1, h2⟩
      · simp at h; subst h; simp at hnn
      · exact ⟨b', o, h1, fun i x hi => h2 i (.string x) (by simp [hi])⟩
    by_cases h2 : ws.length = 2
    · obtain ⟨x0, x1, rfl⟩ : ∃ x0 x1, ws = [x0, x1] := by
        match ws, h2 with
        | [x0, x1], _ => exact ⟨x0, x1, rfl⟩
      have c0 := hat 0 x0 rfl
      have c1 := hat 1 x1 rfl
      rw [Nat.add_zero] at c0
      by_cases h3 : x0 = bLevel
      · subst h3
        exact rline_level base p g o c r x1 w (hx _ (by simp)) hS hr c0 c1
      · have e : lineF r [x0, x1] = (2, r) := by unfold lineF; rw [if_pos h2, if_neg (show ¬ w0 [x0, x1] = bLevel from h3)]
        rw [e]
        exact rline_two base p g o c r x0 w hS (text_ne h3) c0
    · have h3 : ws.length = 3 := by omega
      obtain ⟨x0, x1, x2, rfl⟩ : ∃ x0 x1 x2, ws = [x0, x1, x2] := by
        match ws, h3 with
        | [x0, x1, x2], _ => exact ⟨x0, x1, x2, rfl⟩
      have c0 := hat 0 x0 rfl
      have c1 := hat 1 x1 rfl
      have c2 := hat 2 x2 rfl
      rw [Nat.add_zero] at c0
      by_cases h4 : x0 = bBelow
      · subst h4
        have e : lineF r [bBelow, x1, x2] = belowF r [bBelow, x1, x2] := by unfold lineF; rw [if_neg h2, if_pos h3, if_pos (show w0 [bBelow, x1, x2] = bBelow from rfl)]
        rw [e]
        exact rline_below base p g o c r x1 x2 w hS hr hr2 c0 c1 c2
      · by_cases h5 : x0 = bChannel
        · subst h5
          have e : lineF r [bChannel, x1, x2] = chanF r [bChannel, x1, x2] := by unfold lineF; rw [if_neg h2, if_pos h3, if_neg (show ¬ w0 [bChannel, x1, x2] = bBelow from h4), if_pos (show w0 [bChannel, x1, x2] = bChannel from rfl)]
          rw [e]
          exact rline_chan base p g o c r x1 x2 w (hx _ (by simp)) hS hr hr3 c0 c1 c2
        · have e : lineF r [x0, x1, x2] = (2, r) := by unfold lineF; rw [if_neg h2, if_pos h3, if_neg (show ¬ w0 [x0, x1, x2] = bBelow from h4), if_neg (show ¬ w0 [x0, x1, x2] = bChannel from h5)]
          rw [e]
          exact rline_three base p g o c r x0 w hS (text_ne h4) (text_ne h5) c0
  · have e : lineF r ws = (2, r) := by unfold lineF; rw [if_neg (by omega), if_neg (by omega)]
    rw [e]
    exact rline_many base p ws.length c A r w hS (by omega) (by omega)
end Go.Proofs.YtckpffkofeoinaaGreatDoor
