/- The document's reader as it lies; a level's line. -/
import Derived.Test.YtckpffkofeoinaaGreatDoorZPlace
import Derived.Test.YtckpffkofeoinaaGreatDoorZIdent
import Derived.Test.YtckpffkofeoinaaGreatDoorLines
import Derived.Test.YtckpffkofeoinaaGreatDoorPols
import Derived.Test.YtckpffkofeoinaaGreatDoorRefPlain4
import Derived.StillTailTactics
namespace Go.Proofs.YtckpffkofeoinaaGreatDoor
open Go.RowKit Go.Maps Go.Proofs.YtckpffkofeoinaaGreatDoor.Lr

theorem rname_any (s : ByteArray) (w : World) (hs : s.size ≤ 140737488351232) : Calls Tryz.prog 72 #[.string s] w fun e w' => e = .returned (.bool (nameOk s.data.toList)) ∧ Below w.heap.size w w' := by
  obtain ⟨k, hk⟩ := Name_ev (s := s) (by omega)
  exact (runnelref2_Name.calls k s _ w hk).mono fun _ _ h1 => ⟨h1.1, h1.2.below⟩

/-- The levels of the channels, as numbers. -/
def levsL (r : RS) : List Value := (chansL r).map fun c => Value.int .i64 (levelN r c : Int)

/-- The reader r lies in block p; its rows lie from block 'base' on. -/
def DSt (base p : Nat) (r : RS) (w : World) : Prop :=
  ∃ vn vb vp vc, w.heap[p]? = some (.cells #[vn, vb, vp, vc] 60 (0, 0)) ∧ w.ownsRow base 9 1 vn r.names.length (r.names.map Value.string) ∧
    w.ownsRow base 107 2 vb r.below.length (strs2 r.below) ∧ w.ownsRow base 3 1 vp (chansL r).length (levsL r) ∧ w.ownsRow base 9 1 vc (chansL r).length ((chansL r).map Value.string) ∧
    (vc.ownBlock = none ∨ vc.ownBlock ≠ vn.ownBlock) ∧ p < base ∧ base ≤ w.heap.size

theorem DSt.below {base p : Nat} {r : RS} {w w' : World} (h : DSt base p r w) (hb : Below w.heap.size w w') : DSt base p r w' := by
  obtain ⟨vn, vb, vp, vc, h1, h2, h3, h4, h5, h6, h7, h8⟩ := h
  exact ⟨vn, vb, vp, vc, by rw [hb.block p (lt_of_block h1)]; exact h1, owns_below h2 hb, owns_below h3 hb, owns_below h4 hb, owns_below h5 hb, h6, h7, Nat.le_trans h8 hb.size⟩
theorem DSt.base_le {base p : Nat} {r : RS} {w : World} (h : DSt base p r w) : base ≤ w.heap.size := by
  obtain ⟨vn, vb, vp, vc, h1, h2, h3, h4, h5, h6, h7, h8⟩ := h; exact h8

theorem cell_in4 {w : World} {p T : Nat} {x y z u : Value} (h : w.heap[p]? = some (.cells #[x, y, z, u] T (0, 0))) :
    w.cell? ⟨p, 0, none⟩ = some x ∧ w.cell? ⟨p, 1, none⟩ = some y ∧ w.cell? ⟨p, 2, none⟩ = some z ∧ w.cell? ⟨p, 3, none⟩ = some u ∧ w.frozen? ⟨p, 0, none⟩ = false ∧ w.frozen? ⟨p, 1, none⟩ = false ∧ w.frozen? ⟨p, 2, none⟩ = false ∧ w.frozen? ⟨p, 3, none⟩ = false := by
  simp [World.cell?, World.frozen?, h]
theorem set4_0 {w : World} {p : Nat} {x y z u v : Value} {T : Nat} (h : w.heap[p]? = some (.cells #[x, y, z, u] T (0, 0))) : (w.setCell ⟨p, 0, none⟩ v).heap[p]? = some (.cells #[v, y, z, u] T (0, 0)) := by
  rw [World.setCell, Array.getElem?_modify, h]; simp
theorem set4_1 {w : World} {p : Nat} {x y z u v : Value} {T : Nat} (h : w.heap[p]? = some (.cells #[x, y, z, u] T (0, 0))) : (w.setCell ⟨p, 1, none⟩ v).heap[p]? = some (.cells #[x, v, z, u] T (0, 0)) := by
  rw [World.setCell, Array.getElem?_modify, h]; simp
theorem set4_2 {w : World} {p : Nat} {x y z u v : Value} {T : Nat} (h : w.heap[p]? = some (.cells #[x, y, z, u] T (0, 0))) : (w.setCell ⟨p, 2, none⟩ v).heap[p]? = some (.cells #[x, y, v, u] T (0, 0)) := by
  rw [World.setCell, Array.getElem?_modify, h]; simp
theorem set4_3 {w : World} {p : Nat} {x y z u v : Value} {T : Nat} (h : w.heap[p]? = some (.cells #[x, y, z, u] T (0, 0))) : (w.setCell ⟨p, 3, none⟩ v).heap[p]? = some (.cells #[x, y, z, v] T (0, 0)) := by
  rw [World.setCell, Array.getElem?_modify, h]; simp

/-- A name more. -/
theorem DSt.named {base p gg cap : Nat} {r : RS} {w1 w2 : World} {o : Obj} {vn vb vp vc : Value} {x : ByteArray} (h1 : w1.heap[p]? = some (.cells #[vn, vb, vp, vc] 60 (0, 0)))
    (h2 : w1.ownsRow base 9 1 vn r.names.length (r.names.map Value.string)) (h3 : w1.ownsRow base 107 2 vb r.below.length (strs2 r.below)) (h4 : w1.ownsRow base 3 1 vp (chansL r).length (levsL r))
    (h5 : w1.ownsRow base 9 1 vc (chansL r).length ((chansL r).map Value.string)) (h6 : vc.ownBlock = none ∨ vc.ownBlock ≠ vn.ownBlock) (h7 : p < base) (h8 : base ≤ w1.heap.size)
    (ho : w2.ownsRow base 9 1 (.slice (some ⟨gg, 0, none⟩) (r.names.length + 1) cap) (r.names.length + 1) (r.names.map Value.string ++ [.string x])) (hg : (w1.alloc o).grownBy w2 vn.ownBlock) (hat : vn.ownBlock = some gg ∨ w1.heap.size ≤ gg) :
    DSt base p { r with names := r.names ++ [x] } (w2.setCell ⟨p, 0, none⟩ (.slice (some ⟨gg, 0, none⟩) (r.names.length + 1) cap)) ∧ Turn base p p w1 (w2.setCell ⟨p, 0, none⟩ (.slice (some ⟨gg, 0, none⟩) (r.names.length + 1) cap)) := by
  have hp2 : w2.heap[p]? = some (.cells #[vn, vb, vp, vc] 60 (0, 0)) := by
    rw [hg.block p (by have := lt_of_block h1; simp; omega) (fun e => own_ne_of_base h2 h7 e.symm)]; exact heap_alloc_lt h1
  have hb2 := (h3.alloc o).kept hg (owns_apart (h2.alloc o) (h3.alloc o) (by decide))
  have hi2 := (h4.alloc o).kept hg (owns_apart (h2.alloc o) (h4.alloc o) (by decide))
  have hc2 := (h5.alloc o).kept hg h6
  have hs : base ≤ w2.heap.size := by have := hg.size; simp at this; omega
  have hne : vc.ownBlock = none ∨ vc.ownBlock ≠ (Value.slice (some ⟨gg, 0, none⟩) (r.names.length + 1) cap).ownBlock := by
    rcases h6 with h | h
    · exact .inl h
    · rcases hat with ha | ha
      · rw [ha] at h; exact .inr (by simpa [Value.ownBlock] using h)
      · cases hv : vc.ownBlock with
        | none => exact .inl rfl
        | some k =>
          have := (h5.lt k hv).2
          refine .inr ?_
          simp only [Value.ownBlock]
          intro e
          injection e with e
          omega
  refine ⟨⟨_, vb, vp, vc, set4_0 hp2, by simpa using owns_set ho h7 0, owns_set hb2 h7 0, owns_set hi2 h7 0, owns_set hc2 h7 0, hne, h7, by simpa [World.setCell] using hs⟩, ⟨hg.os, hg.tape, hg.output, by have := hg.size; simp [World.setCell] at this ⊢; omega, fun k hk hkp _ => ?_⟩⟩
  rw [Below.heap_setCell _ _ _ _ hkp, hg.block k (by simp; omega) (fun e => own_ne_of_base h2 hk e.symm), Below.heap_alloc _ _ _ (by omega)]

/-- A pair more. -/
theorem DSt.paired {base p gg cap : Nat} {r : RS} {w1 w2 : World} {o : Obj} {vn vb vp vc : Value} {x y : ByteArray} (h1 : w1.heap[p]? = some (.cells #[vn, vb, vp, vc] 60 (0, 0)))
    (h2 : w1.ownsRow base 9 1 vn r.names.length (r.names.map Value.string)) (h3 : w1.ownsRow base 107 2 vb r.below.length (strs2 r.below)) (h4 : w1.ownsRow base 3 1 vp (chansL r).length (levsL r))
    (h5 : w1.ownsRow base 9 1 vc (chansL r).length ((chansL r).map Value.string)) (h6 : vc.ownBlock = none ∨ vc.ownBlock ≠ vn.ownBlock) (h7 : p < base) (h8 : base ≤ w1.heap.size)
    (ho : w2.ownsRow base 107 2 (.slice (some ⟨gg, 0, none⟩) (r.below.length + 1) cap) (r.below.length + 1) (strs2 r.below ++ [.string x, .string y])) (hg : (w1.alloc o).grownBy w2 vb.ownBlock) :
    DSt base p { r with below := r.below ++ [(x, y)] } (w2.setCell ⟨p, 1, none⟩ (.slice (some ⟨gg, 0, none⟩) (r.below.length + 1) cap)) ∧ Turn base p p w1 (w2.setCell ⟨p, 1, none⟩ (.slice (some ⟨gg, 0, none⟩) (r.below.length + 1) cap)) := by
  have hp2 : w2.heap[p]? = some (.cells #[vn, vb, vp, vc] 60 (0, 0)) := by
    rw [hg.block p (by have := lt_of_block h1; simp; omega) (fun e => own_ne_of_base h3 h7 e.symm)]; exact heap_alloc_lt h1
  have hn2 := (h2.alloc o).kept hg (owns_apart (h3.alloc o) (h2.alloc o) (by decide))
  have hi2 := (h4.alloc o).kept hg (owns_apart (h3.alloc o) (h4.alloc o) (by decide))
  have hc2 := (h5.alloc o).kept hg (owns_apart (h3.alloc o) (h5.alloc o) (by decide))
  have hs : base ≤ w2.heap.size := by have := hg.size; simp at this; omega
  have hho : w2.ownsRow base 107 2 (.slice (some ⟨gg, 0, none⟩) (r.below.length + 1) cap) (r.below ++ [(x, y)]).length (strs2 (r.below ++ [(x, y)])) := by
    have e : strs2 (r.below ++ [(x, y)]) = strs2 r.below ++ [.string x, .string y] := by simp [strs2]
    rw [e, List.length_append]; exact ho
  refine ⟨⟨vn, _, vp, vc, set4_1 hp2, owns_set hn2 h7 1, owns_set hho h7 1, owns_set hi2 h7 1, owns_set hc2 h7 1, h6, h7, by simpa [World.setCell] using hs⟩, ⟨hg.os, hg.tape, hg.output, by have := hg.size; simp [World.setCell] at this ⊢; omega, fun k hk hkp _ => ?_⟩⟩
  rw [Below.heap_setCell _ _ _ _ hkp, hg.block k (by simp; omega) (fun e => own_ne_of_base h3 hk e.symm), Below.heap_alloc _ _ _ (by omega)]

/-- What a line does: the error, and the reader behind it. -/
def DPost (base p : Nat) (w : World) (q : Int × RS) (e : Ending) (w' : World) : Prop := e = .returned (.int .i64 q.1) ∧ DSt base p q.2 w' ∧ Turn base p p w w'

theorem DPost.same {base p : Nat} {r : RS} {w w' : World} (h : DSt base p r w) (hb : Below w.heap.size w w') (c : Int) {e : Ending} (he : e = .returned (.int .i64 c)) : DPost base p w (c, r) e w' :=
  ⟨he, h.below hb, Turn.of_below hb h.base_le⟩

set_option maxRecDepth 100000 in
set_option maxHeartbeats 4000000 in
theorem rlevel_any (base p : Nat) (r : RS) (x : ByteArray) (w : World) (hx : x.size ≤ 140737488351232) (hS : DSt base p r w) (hr : r.names.length ≤ 100000) :
    Calls Tryz.prog 48 #[.pointer (some ⟨p, 0, none⟩), .string x] w fun e w' => DPost base p w (levelF r [bLevel, x]) e w' := by
  have HS := Lib.hid hS; clear hS
  have hq : levelF r [bLevel, x] = if nameOk x.data.toList = false then (3, r) else if Lib.containsS r.names x = true then (4, r) else (0, { r with names := r.names ++ [x] }) := rfl
  have HN : Hid (Calls Tryz.prog 72 #[.string x] w fun e w' => e = .returned (.bool (nameOk x.data.toList)) ∧ Below w.heap.size w w') := rname_any x w hx
  cases hn : nameOk x.data.toList with
  | false =>
    rw [hn] at HN
    rw [hq, if_pos hn]
    clear hn hq
    go_enter Tryz.func48, Tryz.ntmps48
    go_wp2_with (go_at_call 72; refine HN.out.mono ?_; rintro e w1 ⟨rfl, hb1⟩; have HB1 := Lib.hid hb1; clear hb1)
    go_ret
    exact DPost.same HS.out HB1.out 3 rfl
  | true =>
    rw [hn] at HN
    rw [hq, if_neg (by rw [hn]; simp)]
    clear hn hq
    obtain ⟨i3, hi3, hz30, hz31, hz32⟩ := info_parts info_strZ
    obtain ⟨ix, hix⟩ : ∃ ix, Lib.idxOfS r.names x = ix := ⟨_, rfl⟩
    have HPL : Hid (∀ (A : Option Addr) (c : Nat) (wx : World), Rd wx A (r.names.map Value.string) → Calls Tryz.prog 24 #[.slice A r.names.length c, .string x] wx fun e w' => e = .returned (.int .i64 ix) ∧ wx = w') := fun A c wx h => by
      rw [← hix]; exact (rplace22_any A _ c r.names x _ rfl h (by omega)).mono fun _ _ h => ⟨h.1, h.2.symm⟩
    have hcon : Lib.containsS r.names x = decide (0 ≤ ix) := by unfold Lib.containsS; rw [hix]
    rw [hcon]
    clear hix hcon
    by_cases hge : 0 ≤ ix
    · rw [if_pos (by simpa using hge)]
      go_enter Tryz.func48, Tryz.ntmps48
      go_wp2_with (go_at_call 72; refine HN.out.mono ?_; rintro e w1 ⟨rfl, hb1⟩; have HB1 := Lib.hid hb1; have HS1 := Lib.hid (HS.out.below hb1); clear hb1; have HS2 := HS1.out; obtain ⟨vn, vb, vp, vc, h1, h2, h3, h4, h5, h6, h7, h8⟩ := HS2; have H1 := Lib.hid h1; have H2 := Lib.hid h2; have H3 := Lib.hid h3; have H4 := Lib.hid h4; have H5 := Lib.hid h5; have H6 := Lib.hid h6; obtain ⟨an, cn, rfl, hn1, hn2, hn3⟩ := owns_form h2; have HR := Lib.hid hn3; obtain ⟨c0, _, _, _, f0, _⟩ := cell_in4 h1; clear h1 h2 h3 h4 h5 h6 hn3)
      go_wp2_with (go_at_call 24; refine (HPL.out _ _ _ HR.out).mono ?_; rintro e w2 ⟨rfl, rfl⟩)
      go_ret
      exact DPost.same HS.out HB1.out 4 rfl
    · rw [if_neg (by simpa using hge)]
      go_enter Tryz.func48, Tryz.ntmps48
      go_wp2_with (go_at_call 72; refine HN.out.mono ?_; rintro e w1 ⟨rfl, hb1⟩; have HB1 := Lib.hid hb1; have HS1 := Lib.hid (HS.out.below hb1); clear hb1; have HS2 := HS1.out; obtain ⟨vn, vb, vp, vc, h1, h2, h3, h4, h5, h6, h7, h8⟩ := HS2; have H1 := Lib.hid h1; have H2 := Lib.hid h2; have H3 := Lib.hid h3; have H4 := Lib.hid h4; have H5 := Lib.hid h5; have H6 := Lib.hid h6; obtain ⟨an, cn, rfl, hn1, hn2, hn3⟩ := owns_form h2; have HR := Lib.hid hn3; obtain ⟨c0, _, _, _, f0, _⟩ := cell_in4 h1; clear h1 h2 h3 h4 h5 h6 hn3)
      go_wp2_with (first
        | (go_at_call 24; refine (HPL.out _ _ _ HR.out).mono ?_; rintro e w2 ⟨rfl, rfl⟩)
        | (at_builtin; refine wpList_append_lies _ rfl _ _ _ rfl base 9 i3 _ 1 16 Tryz.underlying33 hi3 hz30 hz31 hz32 rfl (by omega) (.slice an r.names.length cn) _ _ rfl (World.ownsRow.alloc (w := w1) H2.out _) ⟨w1.heap.size, 0, none⟩ 1 1 [.string x] rfl rfl (World.news_of_block (cs := #[.string x]) (t := 9) (fr := (0, 0)) (heap_alloc_new w1 _)) (by simp [Value.oneCell']) (by omega) (by unfold maxLen; omega) (by omega) (by simp; omega) (w1.heap.size + 1) (by simp) ?_; intro gg cap w3 hown1 hgrow hat hltg; have HFIN := Lib.hid (DSt.named (w1 := w1) H1.out H2.out H3.out H4.out H5.out H6.out h7 h8 hown1 hgrow (hat.imp id (fun h => by omega))); have hp3 : w3.heap[p]? = some (.cells #[.slice an r.names.length cn, vb, vp, vc] 60 (0, 0)) := field_keep (w1 := w1) H1.out H2.out h7 hgrow; obtain ⟨cp3, _, _, _, fp3, _⟩ := cell_in4 hp3; clear hown1 hgrow hat hltg hp3))
      go_ret
      exact ⟨rfl, HFIN.out.1, (Turn.of_below HB1.out HS.out.base_le).trans HFIN.out.2⟩
end Go.Proofs.YtckpffkofeoinaaGreatDoor
