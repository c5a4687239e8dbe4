/- Join and Meet: the tables are made at the first call. -/
import Derived.Test.YtkgkhakjodlpgaaTables
import Derived.Test.YtkgkhakjodlpgaaOnce
namespace Go.Proofs.Ytkgkhakjodlpgaa
open Go.RowKit

theorem Tab.at {w : World} {v : Value} {t : List (List Int)} (h : Tab w v t) {i j : Nat} (hi : i < t.length) (hj : j < (t.getD i []).length) :
    ∃ g cap g2 cap2, v = .slice (some ⟨g, 0, none⟩) t.length cap ∧ w.cell? ⟨g, i, none⟩ = some (.slice (some ⟨g2, 0, none⟩) (t.getD i []).length cap2) ∧ w.cell? ⟨g2, j, none⟩ = some (.int .i64 ((t.getD i []).getD j 0)) := by
  obtain ⟨rows, ho, hr⟩ := h
  have hl := ownsRow.lenEq ho
  obtain ⟨g, cap, cur, rfl, _, _, _, hc, _⟩ := owns_at ho hi
  have hri : rows[i]? = some (rows[i]'(by omega)) := List.getElem?_eq_getElem _
  have h2 := hr i _ hri
  obtain ⟨g2, cap2, cur2, e2, _, _, _, hc2, _⟩ := owns_at h2 hj
  refine ⟨g, cap, g2, cap2, rfl, by rw [hc, hri, e2], ?_⟩
  rw [hc2]
  generalize t.getD i [] = r at *
  rw [i64s, List.getElem?_map, List.getD_eq_getElem?_getD, List.getElem?_eq_getElem hj]; rfl

/-- Behind Do: the tables are there. -/
def Made (w w' : World) (p : Nat) (L : LatD) : Prop :=
  Lat w' p L ∧ w.grownBy w' (some p) ∧ ∃ vj vm, w'.cell? ⟨p, 6, none⟩ = some vj ∧ w'.cell? ⟨p, 7, none⟩ = some vm ∧ Tab w' vj (joinTab L.up) ∧ Tab w' vm (joinTab L.down)

theorem grown_set {w w' : World} {p : Nat} (h : w.grownBy w' (some p)) (o : Nat) (v : Value) : w.grownBy (w'.setCell ⟨p, o, none⟩ v) (some p) :=
  ⟨h.os, h.tape, h.output, by have := h.size; simp [World.setCell]; exact this, fun k hk hne => by
    rw [Below.heap_setCell _ _ _ _ (fun e => hne (by rw [e]))]; exact h.block k hk hne⟩

theorem Tab.set {w : World} {p o : Nat} {v u : Value} {t : List (List Int)} {c : Array Value} {fr : Nat × Nat} (h : Tab w v t) (hp : w.heap[p]? = some (.cells c 76 fr)) : Tab (w.setCell ⟨p, o, none⟩ u) v t :=
  h.keep (grown_set (World.grownBy.refl w (some p)) o u) hp

theorem do_lat (p : Nat) (L : LatD) (w : World) (h : Lat w p L) :
    Calls Try.prog 61 #[.pointer (some ⟨p, 3, none⟩), .func (.func 62) #[.pointer (some ⟨p, 0, none⟩)] #[]] w fun e w' => e = .returned (.tuple #[]) ∧ Made w w' p L := by
  have hL := h
  obtain ⟨vn, vu, vd, d, vj, vm, h0, h1, h2, h3, h4, h5⟩ := h
  rcases h4 with ⟨rfl, rfl, rfl⟩ | ⟨rfl, hj, hm⟩
  · have c3 : w.cell? ⟨p, 3, none⟩ = some (.int .u32 0) := by simp [World.cell?, h0, latCells]
    have c4 : w.cell? ⟨p, 3 + 1, none⟩ = some (.int .i32 0) := by simp [World.cell?, h0, latCells]
    have f4 : w.frozen? ⟨p, 3 + 1, none⟩ = false := by simp [World.frozen?, h0]
    have g0 : w.grownBy (w.setCell ⟨p, 4, none⟩ (.int .i32 1)) (some p) := grown_set (World.grownBy.refl w (some p)) _ _
    have e1 : (w.setCell ⟨p, 4, none⟩ (.int .i32 1)).heap[p]? = some (.cells #[vn, vu, vd, .int .u32 0, .int .i32 1, .int .u32 0, nilS, nilS] 76 (0, 0)) := by
      simp [World.setCell, Array.getElem?_modify, h0, latCells]
    refine (do_first 62 #[.pointer (some ⟨p, 0, none⟩)] (fun w2 => w.grownBy w2 (some p) ∧ ∃ vj vm, w2.heap[p]? = some (.cells #[vn, vu, vd, .int .u32 0, .int .i32 1, .int .u32 0, vj, vm] 76 (0, 0)) ∧ Tab w2 vj (joinTab L.up) ∧ Tab w2 vm (joinTab L.down)) p 3 w c3 c4 f4 (fun _ => by kernel_rfl) ?_).mono ?_
    · rintro w1 rfl
      refine (tables_any p L vn vu vd 1 0 _ h5 e1 (h1.kept g0 (.inr (owns_ne h1 h0 (by decide)))) (h2.kept g0 (.inr (owns_ne h2 h0 (by decide)))) (h3.kept g0 (.inr (owns_ne h3 h0 (by decide))))).mono ?_
      rintro e w2 ⟨rfl, hg, vj, vm, e2, tj, tm⟩
      exact ⟨rfl, ⟨g0.trans hg, vj, vm, e2, tj, tm⟩, by simp [World.cell?, e2], by simp [World.cell?, e2], by simp [World.frozen?, e2], by simp [World.frozen?, e2]⟩
    · rintro e w' ⟨rfl, w2, ⟨hg, vj, vm, e2, tj, tm⟩, rfl⟩
      have hg3 : w.grownBy w2.drew (some p) := ⟨hg.os, hg.tape, hg.output, hg.size, hg.block⟩
      have hg4 : w.grownBy (w2.drew.setCell ⟨p, 3, none⟩ (.int .u32 1)) (some p) := grown_set hg3 _ _
      have hg5 : w.grownBy ((w2.drew.setCell ⟨p, 3, none⟩ (.int .u32 1)).setCell ⟨p, 3 + 1, none⟩ (.int .i32 0)) (some p) := grown_set hg4 _ _
      have e3 : (w2.drew.setCell ⟨p, 3, none⟩ (.int .u32 1)).heap[p]? = some (.cells #[vn, vu, vd, .int .u32 1, .int .i32 1, .int .u32 0, vj, vm] 76 (0, 0)) := by
        show (w2.setCell ⟨p, 3, none⟩ (.int .u32 1)).heap[p]? = _
        simp [World.setCell, Array.getElem?_modify, e2]
      have e4 : ((w2.drew.setCell ⟨p, 3, none⟩ (.int .u32 1)).setCell ⟨p, 3 + 1, none⟩ (.int .i32 0)).heap[p]? = some (.cells (latCells vn vu vd 1 vj vm) 76 (0, 0)) := by
        rw [World.setCell, Array.getElem?_modify, e3]; simp [latCells]
      have tj' : Tab ((w2.drew.setCell ⟨p, 3, none⟩ (.int .u32 1)).setCell ⟨p, 3 + 1, none⟩ (.int .i32 0)) vj (joinTab L.up) := Tab.set (Tab.set (w := w2.drew) tj e2) e3
      have tm' : Tab ((w2.drew.setCell ⟨p, 3, none⟩ (.int .u32 1)).setCell ⟨p, 3 + 1, none⟩ (.int .i32 0)) vm (joinTab L.down) := Tab.set (Tab.set (w := w2.drew) tm e2) e3
      refine ⟨rfl, ⟨vn, vu, vd, 1, vj, vm, e4, h1.kept hg5 (.inr (owns_ne h1 h0 (by decide))), h2.kept hg5 (.inr (owns_ne h2 h0 (by decide))), h3.kept hg5 (.inr (owns_ne h3 h0 (by decide))), .inr ⟨rfl, tj', tm'⟩, h5⟩, hg5, vj, vm, ?_, ?_, tj', tm'⟩
      · rw [World.cell?, e4]; rfl
      · rw [World.cell?, e4]; rfl
  · have c3 : w.cell? ⟨p, 3, none⟩ = some (.int .u32 1) := by simp [World.cell?, h0, latCells]
    refine (do_done ⟨p, 3, none⟩ 1 (by decide) _ w c3).mono ?_
    rintro e w' ⟨rfl, rfl⟩
    exact ⟨rfl, hL, World.grownBy.refl _ _, vj, vm, by simp [World.cell?, h0, latCells], by simp [World.cell?, h0, latCells], hj, hm⟩

def withinB (L : LatD) (a b : Int) : Bool := decide (0 ≤ a ∧ 0 ≤ b ∧ a < L.names.length ∧ b < L.names.length)
/-- The place of the join, or of the meet (of the other sets). -/
def atI (l : List Nat) (a b : Int) : Int := firstI l (l.getD a.toNat 0 &&& l.getD b.toNat 0)
def joinI (L : LatD) (a b : Int) : Int := if withinB L a b then atI L.up a b else -1
def meetI (L : LatD) (a b : Int) : Int := if withinB L a b then atI L.down a b else -1

theorem tab_at (l : List Nat) (n : Nat) (a b : Int) (hl : l.length = n) (ha : 0 ≤ a) (hb : 0 ≤ b) (ha2 : a < n) (hb2 : b < n) :
    a.toNat < (joinTab l).length ∧ b.toNat < ((joinTab l).getD a.toNat []).length ∧ ((joinTab l).getD a.toNat []).length = n ∧ (joinTab l).length = n ∧ ((joinTab l).getD a.toNat []).getD b.toNat 0 = atI l a b := by
  have h1 : (joinTab l).getD a.toNat [] = joinRow l a.toNat := by
    simp only [List.getD_eq_getElem?_getD, joinTab]
    rw [List.getElem?_map, List.getElem?_range (by omega)]; rfl
  have h2 : (joinRow l a.toNat).length = n := by simp [joinRow, hl]
  refine ⟨by simp [joinTab]; omega, by rw [h1, h2]; omega, by rw [h1, h2], by simp [joinTab, hl], ?_⟩
  rw [h1, atI, joinRow]
  simp only [List.getD_eq_getElem?_getD]
  rw [List.getElem?_map, show l[b.toNat]? = some (l[b.toNat]'(by omega)) from List.getElem?_eq_getElem _]; rfl

theorem join_any (p : Nat) (L : LatD) (a b : Int) (w : World) (h : Lat w p L) :
    Calls Try.prog 17 #[.pointer (some ⟨p, 0, none⟩), .int .i64 a, .int .i64 b] w fun e w' => e = .returned (.int .i64 (joinI L a b)) ∧ Hid (Lat w' p L ∧ w.grownBy w' (some p)) := by
  obtain ⟨an, cn, au, cu, ad, cd, h0, h1, h2, r0, r1, r2, l0, l1, l2, ok⟩ := h.cells
  have HL := Lib.hid h
  clear r0 r1 r2 h1 h2 h l1 l2
  have hmf : ∀ (fn : Fn) (first cap : Array Value) (w : World), (Instr.makeFunc fn first cap).run Try.prog w = .ok (.func fn first cap) w := fun _ _ _ _ => rfl
  by_cases hw : 0 ≤ a ∧ 0 ≤ b ∧ a < L.names.length ∧ b < L.names.length
  · have hd : decide (0 ≤ a ∧ 0 ≤ b ∧ a < L.names.length ∧ b < L.names.length) = true := decide_eq_true hw
    have HD := Lib.hid hd; clear hd
    obtain ⟨ha, hb, ha2, hb2⟩ := hw
    have hfin : joinI L a b = atI L.up a b := by rw [joinI, withinB, HD.out]; rfl
    rw [hfin]; clear hfin
    have HOK := Lib.hid ok; clear ok
    go_enter Try.func17, Try.ntmps17
    go_wp2_with (first | (go_at_call 60; refine (within_any _ _ _ _ _ _ _ h0).mono ?_; rintro e w' ⟨rfl, rfl⟩; rw [HD.out]) | (go_at_call 61; fail))
    refine (do_lat p L _ HL.out).mono ?_
    rintro e w' ⟨rfl, HM⟩
    obtain ⟨hl, hg, vj, vm, cj, cm, tj, tm⟩ := HM
    obtain ⟨q1, q2, q3, q4, q5⟩ := tab_at L.up L.names.length a b HOK.out.up ha hb ha2 hb2
    obtain ⟨g, cap, g2, cap2, rfl, e1, e2⟩ := tj.at q1 q2
    rw [q4] at cj
    rw [q3] at e1
    rw [q5] at e2
    have HF := Lib.hid (And.intro hl hg); clear hl hg tj tm q1 q2 q3 q4 q5
    go_wp2
    go_ret
    exact ⟨ret_int rfl, HF.out⟩
  · have hd : decide (0 ≤ a ∧ 0 ≤ b ∧ a < L.names.length ∧ b < L.names.length) = false := decide_eq_false hw
    have HD := Lib.hid hd; clear hd hw
    have hfin : joinI L a b = -1 := by rw [joinI, withinB, HD.out]; rfl
    rw [hfin]; clear hfin
    go_enter Try.func17, Try.ntmps17
    go_wp2_with (go_at_call 60; refine (within_any _ _ _ _ _ _ _ h0).mono ?_; rintro e w' ⟨rfl, rfl⟩; rw [HD.out])
    go_ret
    exact ⟨ret_int rfl, HL.out, World.grownBy.refl _ _⟩

theorem meet_any (p : Nat) (L : LatD) (a b : Int) (w : World) (h : Lat w p L) :
    Calls Try.prog 18 #[.pointer (some ⟨p, 0, none⟩), .int .i64 a, .int .i64 b] w fun e w' => e = .returned (.int .i64 (meetI L a b)) ∧ Hid (Lat w' p L ∧ w.grownBy w' (some p)) := by
  obtain ⟨an, cn, au, cu, ad, cd, h0, h1, h2, r0, r1, r2, l0, l1, l2, ok⟩ := h.cells
  have HL := Lib.hid h
  clear r0 r1 r2 h1 h2 h l1 l2
  have hmf : ∀ (fn : Fn) (first cap : Array Value) (w : World), (Instr.makeFunc fn first cap).run Try.prog w = .ok (.func fn first cap) w := fun _ _ _ _ => rfl
  by_cases hw : 0 ≤ a ∧ 0 ≤ b ∧ a < L.names.length ∧ b < L.names.length
  · have hd : decide (0 ≤ a ∧ 0 ≤ b ∧ a < L.names.length ∧ b < L.names.length) = true := decide_eq_true hw
    have HD := Lib.hid hd; clear hd
    obtain ⟨ha, hb, ha2, hb2⟩ := hw
    have hfin : meetI L a b = atI L.down a b := by rw [meetI, withinB, HD.out]; rfl
    rw [hfin]; clear hfin
    have HOK := Lib.hid ok; clear ok
    go_enter Try.func18, Try.ntmps18
    go_wp2_with (first | (go_at_call 60; refine (within_any _ _ _ _ _ _ _ h0).mono ?_; rintro e w' ⟨rfl, rfl⟩; rw [HD.out]) | (go_at_call 61; fail))
    refine (do_lat p L _ HL.out).mono ?_
    rintro e w' ⟨rfl, HM⟩
    obtain ⟨hl, hg, vj, vm, cj, cm, tj, tm⟩ := HM
    obtain ⟨q1, q2, q3, q4, q5⟩ := tab_at L.down L.names.length a b HOK.out.down ha hb ha2 hb2
    obtain ⟨g, cap, g2, cap2, rfl, e1, e2⟩ := tm.at q1 q2
    rw [q4] at cm
    rw [q3] at e1
    rw [q5] at e2
    have HF := Lib.hid (And.intro hl hg); clear hl hg tj tm q1 q2 q3 q4 q5
    go_wp2
    go_ret
    exact ⟨ret_int rfl, HF.out⟩
  · have hd : decide (0 ≤ a ∧ 0 ≤ b ∧ a < L.names.length ∧ b < L.names.length) = false := decide_eq_false hw
    have HD := Lib.hid hd; clear hd hw
    have hfin : meetI L a b = -1 := by rw [meetI, withinB, HD.out]; rfl
    rw [hfin]; clear hfin
    go_enter Try.func18, Try.ntmps18
    go_wp2_with (go_at_call 60; refine (within_any _ _ _ _ _ _ _ h0).mono ?_; rintro e w' ⟨rfl, rfl⟩; rw [HD.out])
    go_ret
    exact ⟨ret_int rfl, HL.out, World.grownBy.refl _ _⟩
end Go.Proofs.Ytkgkhakjodlpgaa
