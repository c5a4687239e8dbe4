/- policy.Parse. -/
import Derived.Test.YtckpffkofeoinaaGreatDoorLines
import Derived.Lib.SplitLaws
import Derived.Test.YtckpffkofeoinaaGreatDoorMid
import Derived.Test.YtckpffkofeoinaaGreatDoorLow
import Derived.Test.YtckpffkofeoinaaGreatDoorWds
namespace Go.Proofs.YtckpffkofeoinaaGreatDoor
open Go.RowKit Go.Maps

theorem lines_count (s : ByteArray) : (linesF s).length = Lib.countB s ⟨#[10]⟩ + 1 ∧ (linesF s).length ≤ s.size + 1 := by
  have h1 : (linesF s).length = Lib.countB s ⟨#[10]⟩ + 1 := Lib.splitB_all _ (by decide) 0 _ s rfl
  have h2 := Lib.countB_le ⟨#[10]⟩ (by decide) s.size s (Nat.le_refl _)
  exact ⟨h1, by omega⟩

/-- What Parse hands back. -/
def ParsePost (s : ByteArray) (w : World) (e : Ending) (w' : World) : Prop :=
  Below w.heap.size w w' ∧ ((parseE s = (0, 0) ∧ ∃ p, e = .returned (.tuple #[.pointer (some ⟨p, 0, none⟩), .int .i64 0, .int .i64 0]) ∧ Pol w' p (readF s).2.2) ∨
    ((parseE s).1 ≠ 0 ∧ e = .returned (.tuple #[.pointer none, .int .i64 (parseE s).2, .int .i64 (parseE s).1])))

theorem ParsePost.bad {s : ByteArray} {w w' : World} {c k : Int} {e : Ending} (hb : Below w.heap.size w w') (h : parseE s = (c, k)) (hc : c ≠ 0) (he : e = .returned (.tuple #[.pointer none, .int .i64 k, .int .i64 c])) : ParsePost s w e w' :=
  ⟨hb, .inr ⟨by rw [h]; exact hc, by rw [h]; exact he⟩⟩

theorem lineF_err (r : RS) (ws : List ByteArray) : (lineF r ws).1 = 0 ∨ (lineF r ws).1 = 2 ∨ (lineF r ws).1 = 3 ∨ (lineF r ws).1 = 4 := by
  unfold lineF levelF belowF chanF
  repeat' split
  all_goals simp

/-- Behind i lines: r was read, and the rest is read from k on. -/
structure Loop (w W : World) (s : ByteArray) (base p b B : Nat) (i k : Nat) (r : RS) (wr : World) : Prop where
  st : RdSt base p b r wr
  turn : Turn base p b W wr
  rest : readF s = linesTo r k ((linesF s).drop i)
  ok : r.Ok s.size i
  lines : W.heap[B]? = some (.cells ((linesF s).map Value.string).toArray 9 (0, 0))
  bB : B < base ∧ B ≠ p ∧ B ≠ b
  bel : Below w.heap.size w W
  far : w.heap.size ≤ p ∧ w.heap.size ≤ b ∧ w.heap.size ≤ base
  small : k ≤ i * (s.size + 1)

theorem Turn.bel {w W w' : World} {base p b : Nat} (hb : Below w.heap.size w W) (h : Turn base p b W w') (f1 : w.heap.size ≤ p) (f2 : w.heap.size ≤ b) (f3 : w.heap.size ≤ base) : Below w.heap.size w w' :=
  ⟨h.os.trans hb.os, h.tape.trans hb.tape, h.output.trans hb.output, Nat.le_trans hb.size h.size, fun q hq => by
    rw [h.block q (by omega) (by omega) (by omega)]; exact hb.block q hq⟩

theorem Loop.below {w W : World} {s : ByteArray} {base p b B i k : Nat} {r : RS} {wr : World} (h : Loop w W s base p b B i k r wr) : Below w.heap.size w wr :=
  h.turn.bel h.bel h.far.1 h.far.2.1 h.far.2.2

theorem NewPost.yes {w w' : World} {names : List ByteArray} {pairs : List (ByteArray × ByteArray)} {e : Ending} (h : NewPost w w' names pairs e) (h0 : newE names pairs = 0) :
    ∃ p, e = .returned (.tuple #[.pointer (some ⟨p, 0, none⟩), .int .i64 0]) ∧ Hid (Lat w' p (newL names pairs)) ∧ Hid (Below w.heap.size w w') := by
  obtain ⟨hB, ⟨_, p, he, hp, hL⟩ | ⟨h1, _⟩⟩ := h
  · exact ⟨p, he, hL, hB⟩
  · exact absurd h0 h1
theorem NewPost.no {w w' : World} {names : List ByteArray} {pairs : List (ByteArray × ByteArray)} {e : Ending} {c : Int} (h : NewPost w w' names pairs e) (h0 : newE names pairs = c) (hc : c ≠ 0) :
    e = .returned (.tuple #[.pointer none, .int .i64 c]) ∧ Hid (Below w.heap.size w w') := by
  obtain ⟨hB, ⟨h1, _⟩ | ⟨_, he⟩⟩ := h
  · exact absurd (h0.symm.trans h1) hc
  · exact ⟨by rw [he, h0]; rfl, hB⟩

theorem Loop.line {w W : World} {s : ByteArray} {base p b B i k : Nat} {r : RS} {wr : World} (h : Loop w W s base p b B i k r wr) {l : ByteArray} (hl : (linesF s)[i]? = some l) : wr.cell? ⟨B, i, none⟩ = some (.string l) := by
  have hb := h.turn.block B h.bB.1 h.bB.2.1 h.bB.2.2
  rw [h.lines] at hb
  simp [World.cell?, hb, hl]

theorem Loop.drop {s : ByteArray} {i : Nat} {l : ByteArray} (hl : (linesF s)[i]? = some l) : (linesF s).drop i = l :: (linesF s).drop (i + 1) := by
  obtain ⟨h, e⟩ := List.getElem?_eq_some_iff.1 hl
  rw [List.drop_eq_getElem_cons h, e]

/-- A line without words. -/
theorem Loop.skip {w W : World} {s : ByteArray} {base p b B i k : Nat} {r : RS} {wr w' : World} (h : Loop w W s base p b B i k r wr) {l : ByteArray} (hl : (linesF s)[i]? = some l) (h0 : (wordsF l).length = 0) (hb : Below wr.heap.size wr w') :
    Loop w W s base p b B (i + 1) (k + (l.size + 1)) r w' := by
  have e := Loop.drop hl
  have hls : l.size ≤ s.size := lines_le (List.mem_of_getElem? hl)
  refine ⟨h.st.below hb, h.turn.trans (Turn.of_below hb h.st.base_le), ?_, ?_, h.lines, h.bB, h.bel, h.far, ?_⟩
  · rw [h.rest, e, linesTo, if_pos h0]
  · have := h.ok
    exact ⟨this.short, by have := this.names; omega, by have := this.below; omega, by have := this.of; omega, this.at_⟩
  · have := h.small
    rw [Nat.add_mul, Nat.one_mul]
    omega

/-- A line that is read. -/
theorem Loop.next {w W : World} {s : ByteArray} {base p b B i k : Nat} {r : RS} {wr w1 w' : World} (h : Loop w W s base p b B i k r wr) {l : ByteArray} (hl : (linesF s)[i]? = some l) (h0 : ¬ (wordsF l).length = 0) (hz : (lineF r (wordsF l)).1 = 0)
    (hb : Below wr.heap.size wr w1) (hs : RdSt base p b (lineF r (wordsF l)).2 w') (ht : Turn base p b w1 w') :
    Loop w W s base p b B (i + 1) (k + (l.size + 1)) (lineF r (wordsF l)).2 w' := by
  have e := Loop.drop hl
  have hls : l.size ≤ s.size := lines_le (List.mem_of_getElem? hl)
  refine ⟨hs, (h.turn.trans (Turn.of_below hb h.st.base_le)).trans ht, ?_, h.ok.step fun x hx => Nat.le_trans (words_le hx) hls, h.lines, h.bB, h.bel, h.far, ?_⟩
  · rw [h.rest, e, linesTo, if_neg h0, if_pos hz]
  · have := h.small
    rw [Nat.add_mul, Nat.one_mul]
    omega

theorem Loop.wrong {w W : World} {s : ByteArray} {base p b B i k : Nat} {r : RS} {wr : World} (h : Loop w W s base p b B i k r wr) {l : ByteArray} (hl : (linesF s)[i]? = some l) (h0 : ¬ (wordsF l).length = 0) (hz : ¬ (lineF r (wordsF l)).1 = 0) (hlong : ¬ 20000 < s.size) :
    parseE s = ((lineF r (wordsF l)).1, (k : Int)) := by
  have e : readF s = ((lineF r (wordsF l)).1, k, r) := by rw [h.rest, Loop.drop hl, linesTo, if_neg h0, if_neg hz]
  unfold parseE
  rw [if_neg hlong, e, if_pos hz]

theorem Loop.last {w W : World} {s : ByteArray} {base p b B i k : Nat} {r : RS} {wr : World} (h : Loop w W s base p b B i k r wr) (hi : i = (linesF s).length) (hlong : ¬ 20000 < s.size) :
    (readF s).2.2 = r ∧ parseE s = if newE r.names r.below ≠ 0 then (newE r.names r.below, (s.size : Int)) else (0, 0) := by
  have e : readF s = (0, k, r) := by rw [h.rest, hi, List.drop_length, linesTo]
  refine ⟨by rw [e], ?_⟩
  unfold parseE
  rw [if_neg hlong, e, if_neg (by simp)]

theorem Loop.k_le {w W : World} {s : ByteArray} {base p b B i k : Nat} {r : RS} {wr : World} (h : Loop w W s base p b B i k r wr) (hi : i ≤ (linesF s).length) (hs : s.size ≤ 20000) : k ≤ 1000000000 := by
  have h1 := h.small
  have h2 := (lines_count s).2
  have h3 : i * (s.size + 1) ≤ 20001 * 20001 := Nat.mul_le_mul (by omega) (by omega)
  omega

theorem Loop.lens {w W : World} {s : ByteArray} {base p b B i k : Nat} {r : RS} {wr : World} (h : Loop w W s base p b B i k r wr) (hi : i ≤ (linesF s).length) (hs : s.size ≤ 20000) : r.names.length ≤ 100000 ∧ r.below.length ≤ 100000 ∧ r.of.length ≤ 100000 := by
  have h2 := (lines_count s).2
  have := h.ok
  exact ⟨by have := this.names; omega, by have := this.below; omega, by have := this.of; omega⟩

set_option maxRecDepth 100000 in
set_option maxHeartbeats 4000000 in
theorem parse_any (s : ByteArray) (w : World) (hM : MaxL w) :
    Calls Tryz.prog 5 #[.string s] w fun e w' => ParsePost s w e w' := by
  by_cases hlong : 20000 < s.size
  · have hfin : parseE s = (7, 0) := by unfold parseE; rw [if_pos hlong]
    have HF := Lib.hid hfin; clear hfin
    have hl : (20000 : Int) < (s.size : Int) := by omega
    clear hM
    go_enter Tryz.func5, Tryz.ntmps5
    go_wp2
    go_ret3
    exact ParsePost.bad (Below.refl _ _) HF.out (by decide) rfl
  · have HM := Lib.hid hM
    have HL := Lib.hid hlong
    have hl : ¬ (20000 : Int) < (s.size : Int) := by omega
    have hs20 : s.size ≤ 20000 := by omega
    obtain ⟨N, hN⟩ : ∃ N, Lib.countB s ⟨#[10]⟩ + 1 = N := ⟨_, rfl⟩
    have hN2 : (linesF s).length = N := by rw [(lines_count s).1, hN]
    have hN3 : N ≤ 20001 := by have := (lines_count s).2; omega
    obtain ⟨W0, hW0⟩ : ∃ W0, W0 = (w.alloc (.map #[] 0)).alloc (.cells #[.slice none 0 0, .slice none 0 0, .map (some w.heap.size)] 50) := ⟨_, rfl⟩
    have hS0 : W0.heap.size = w.heap.size + 1 + 1 := by rw [hW0]; simp
    have hb0 : Below w.heap.size w W0 := by rw [hW0]; exact ((Below.refl _ w).alloc (Nat.le_refl _) _).alloc (by simp) _
    have hp0 : W0.heap[w.heap.size + 1]? = some (.cells #[.slice none 0 0, .slice none 0 0, .map (some w.heap.size)] 50 (0, 0)) := by
      rw [hW0]
      have := heap_alloc_new (w.alloc (.map #[] 0)) (.cells #[.slice none 0 0, .slice none 0 0, .map (some w.heap.size)] 50 (0, 0))
      simpa using this
    have ho0 : OfIs W0 w.heap.size [] := by rw [hW0]; exact (OfIs.made w).kept (World.grownBy_alloc _ _ none) (by simp)
    have HSP : Hid (Calls Tryz.prog 17 #[.string s, .string ⟨#[10]⟩] W0 fun e w' => e = .returned (.slice (some ⟨w.heap.size + 2, 0, none⟩) N N) ∧ w' = W0.alloc (.cells ((linesF s).map Value.string).toArray 9)) := by
      obtain ⟨m, hm⟩ := hM.below hb0
      have := Tryz.strings_Split s ⟨#[10]⟩ m W0 (by omega) hm (by decide)
      rw [hN, hS0] at this
      exact this
    have HLP : Hid (∀ w1 : World, w1 = W0.alloc (.cells ((linesF s).map Value.string).toArray 9) → Loop w w1 s w1.heap.size (w.heap.size + 1) w.heap.size (w.heap.size + 2) 0 0 RS.none w1) := by
      intro w1 hw1
      have h1 : w1.heap.size = w.heap.size + 3 := by rw [hw1]; simp [hS0]
      have hb1 : Below W0.heap.size W0 w1 := by rw [hw1]; exact (Below.refl _ _).alloc (Nat.le_refl _) _
      refine ⟨⟨.slice none 0 0, .slice none 0 0, by rw [hb1.block _ (by omega)]; exact hp0, World.ownsRow_nil _ _ _ _, World.ownsRow_nil _ _ _ _, ho0.below hb1, by omega, by omega, by omega, Nat.le_refl _⟩, Turn.of_below (Below.refl _ _) (Nat.le_refl _), rfl, RS.none_ok _ _, ?_, ⟨by omega, by omega, by omega⟩, hb0.trans (hb1.mono hb0.size), ⟨by omega, by omega, by omega⟩, by omega⟩
      rw [hw1]
      have := heap_alloc_new W0 (.cells ((linesF s).map Value.string).toArray 9 (0, 0))
      rw [hS0] at this
      exact this
    have HN := Lib.hid hN2
    have HMM : Hid (∀ w' : World, Below w.heap.size w w' → MaxL w') := fun w' hb => hM.below hb
    clear hlong hM hN hN2 hp0 ho0 hb0 hS0
    subst hW0
    have hmm := @run_makeMap Tryz.prog
    go_enter Tryz.func5, Tryz.ntmps5
    go_wp2_with (go_at_call 17; refine HSP.out.mono ?_; rintro e w1 ⟨rfl, hw1⟩; have HL0 := Lib.hid (HLP.out w1 hw1); clear hw1)
    clear HSP HLP
    go_loopw [6, 22] (fun s6 s22 wr => ∃ (i k : Nat) (r : RS), i ≤ N ∧ k ≤ 1000000000 ∧ s6 = .int .i64 k ∧ s22 = .int .i64 i ∧ Hid (Loop w w1 s w1.heap.size (w.heap.size + 1) w.heap.size (w.heap.size + 2) i k r wr)) (fun _ s22 _ => N - (intOf s22).toNat)
    case atStart => exact ⟨0, 0, RS.none, Nat.zero_le _, by omega, rfl, rfl, HL0⟩
    case round =>
      clear HL0
      obtain ⟨i, k, r, hi, hk, rfl, rfl, HLo⟩ := hrel
      by_cases hlt : i < N
      · obtain ⟨l, hl⟩ : ∃ l, (linesF s)[i]? = some l := ⟨_, List.getElem?_eq_getElem (by rw [HN.out]; exact hlt)⟩
        have hc := HLo.out.line hl
        have hls : l.size ≤ s.size := lines_le (List.mem_of_getElem? hl)
        have HLL := Lib.hid hl
        have hilt : (i : Int) < (N : Int) := by omega
        have HM1 := Lib.hid (HMM.out _ HLo.out.below)
        have HWL : Hid (∀ x ∈ wordsF l, x.size ≤ 140737488351232) := fun x hx => by have := words_le hx; omega
        have HWN : Hid ((wordsF l).length = (wordsF l).length) := rfl
        by_cases h0 : (wordsF l).length = 0
        · have H0 := Lib.hid h0; clear h0 hl
          go_wp2_with (go_at_call 18; refine (words_any l _ (by omega) HM1.out).mono ?_; rintro e w2 ⟨A, rfl, ho2, hb2⟩; rw [H0.out]; have HB2 := Lib.hid hb2; clear ho2 hb2)
          go_roundw
          case rel =>
            have hn := HLo.out.skip HLL.out H0.out HB2.out
            exact ⟨i + 1, k + (l.size + 1), r, by omega, hn.k_le (by rw [HN.out]; omega) hs20, by go_num, by go_num, hn⟩
          case measure => simp [intOf]; omega
        · obtain ⟨n, hn⟩ : ∃ n, (wordsF l).length = n := ⟨_, rfl⟩
          have hnp : (0 : Int) < (n : Int) := by omega
          have H0 := Lib.hid h0; have HNW := Lib.hid hn; clear h0 hl hn
          obtain ⟨q1, q2, q3⟩ := HLo.out.lens (by rw [HN.out]; exact hi) hs20
          have HQ1 := Lib.hid q1; have HQ2 := Lib.hid q2; have HQ3 := Lib.hid q3; clear q1 q2 q3
          by_cases hz : (lineF r (wordsF l)).1 = 0
          · have HZ := Lib.hid hz; clear hz
            go_wp2_with (first | (go_at_call 18; refine (words_any l _ (by omega) HM1.out).mono ?_; rintro e w2 ⟨A, rfl, ho2, hb2⟩; rw [HNW.out]; have HB2 := Lib.hid hb2; have HRW := Lib.hid (Rd.of_owns ho2); clear ho2 hb2) | (go_at_call 19; refine (line_any _ _ _ A n r (wordsF l) w2 HNW.out HRW.out HWL.out (HMM.out _ (HLo.out.below.trans (HB2.out.mono HLo.out.below.size))) (HLo.out.st.below HB2.out) HQ1.out HQ2.out HQ3.out).mono ?_; rintro e w3 ⟨rfl, hs3, ht3⟩; rw [HZ.out]; have HS3 := Lib.hid hs3; have HT3 := Lib.hid ht3; clear hs3 ht3))
            go_roundw
            case rel =>
              have hn := HLo.out.next HLL.out H0.out HZ.out HB2.out HS3.out HT3.out
              exact ⟨i + 1, k + (l.size + 1), _, by omega, hn.k_le (by rw [HN.out]; omega) hs20, by go_num, by go_num, hn⟩
            case measure => simp [intOf]; omega
          · obtain ⟨ec, hec⟩ : ∃ ec, (lineF r (wordsF l)).1 = ec := ⟨_, rfl⟩
            have hne : (ec != 0) = true := by rw [← hec]; simpa using hz
            have HEC := Lib.hid hec; have HZ := Lib.hid hz; clear hz hec
            go_wp2_with (first | (go_at_call 18; refine (words_any l _ (by omega) HM1.out).mono ?_; rintro e w2 ⟨A, rfl, ho2, hb2⟩; rw [HNW.out]; have HB2 := Lib.hid hb2; have HRW := Lib.hid (Rd.of_owns ho2); clear ho2 hb2) | (go_at_call 19; refine (line_any _ _ _ A n r (wordsF l) w2 HNW.out HRW.out HWL.out (HMM.out _ (HLo.out.below.trans (HB2.out.mono HLo.out.below.size))) (HLo.out.st.below HB2.out) HQ1.out HQ2.out HQ3.out).mono ?_; rintro e w3 ⟨rfl, hs3, ht3⟩; rw [HEC.out]; have HS3 := Lib.hid hs3; have HT3 := Lib.hid ht3; clear hs3 ht3))
            go_ret3
            have hw := HLo.out.wrong HLL.out H0.out HZ.out HL.out
            rw [HEC.out] at hw
            have hb3 := ((HLo.out.turn.trans (Turn.of_below HB2.out HLo.out.st.base_le)).trans HT3.out).bel HLo.out.bel HLo.out.far.1 HLo.out.far.2.1 HLo.out.far.2.2
            exact ParsePost.bad hb3 hw (by simpa using hne) rfl
      · obtain rfl : i = N := by omega
        have hfin := HLo.out.last HN.out.symm HL.out
        obtain ⟨q1, q2, q3⟩ := HLo.out.lens (by rw [HN.out]; exact Nat.le_refl _) hs20
        have HSR : Hid (ShortS r.names) := fun x hx => by have := HLo.out.ok.short x hx; omega
        have HB1 := Lib.hid HLo.out.below
        have hst := HLo.out.st
        obtain ⟨vn, vb, h1, h2, h3, h4, h5, h6, h7, h8⟩ := hst
        obtain ⟨an, cn, rfl, hn1, hn2, hn3⟩ := owns_form h2
        obtain ⟨ab, cb, rfl, hb1, hb2, hb3⟩ := owns_form h3
        obtain ⟨cp0, cp1, cp2, _, _⟩ := cell_in h1
        have HNW : Hid (∀ k : Nat, Calls Tryz.prog 20 #[.slice an r.names.length cn, .slice ab r.below.length cb] (wr.drewN k) fun e w' => NewPost (wr.drewN k) w' r.names r.below e) := fun k =>
          new_any _ _ _ _ _ _ r.names r.below _ rfl hn1 (Nat.le_trans hn2 (by unfold maxLen; omega)) (hn3.drewN k) HSR.out (by omega) rfl (hb3.drewN k) (by omega)
        have HF1 := Lib.hid hfin.1; have HF2 := Lib.hid hfin.2; have H4 := Lib.hid h4; have H1 := Lib.hid h1
        have HAT : Hid (∀ q ∈ r.of, q.2 < r.names.length) := HLo.out.ok.at_
        clear hfin h1 h2 h3 h4 h5 h6 h7 h8 hn3 hb3 q1 q2 q3 hn1 hn2 hb1 hb2
        by_cases hE : newE r.names r.below = 0
        · have HE := Lib.hid hE
          have hPE := HF2.out
          rw [if_neg (by simpa using hE)] at hPE
          have HPE := Lib.hid hPE; clear hE hPE HF2
          go_upto_region 15 with fail
          go_region_with (go_at_call 20; refine (HNW.out 1).mono ?_; rintro e w4 hP; obtain ⟨p2, rfl, HLA, HB4⟩ := hP.yes HE.out; clear hP)
          all_goals
            have hb4 : Below wr.heap.size wr w4 := (below_drewN (Below.refl _ wr) 1).trans HB4.out
            have hp4 : w4.heap[w.heap.size + 1]? = some (.cells #[.slice an r.names.length cn, .slice ab r.below.length cb, .map (some w.heap.size)] 50 (0, 0)) := by
              rw [hb4.block _ (lt_of_block H1.out)]; exact H1.out
            obtain ⟨_, _, d2, _, _⟩ := cell_in hp4
            have HOF := Lib.hid (H4.out.below hb4)
            have HBW := Lib.hid (HB1.out.trans (hb4.mono HB1.out.size))
            clear hb4 hp4 cp0 cp1 cp2
            go_wp2
            go_ret3
            have hal : Below w4.heap.size w4 (w4.alloc (.cells #[.pointer (some ⟨p2, 0, none⟩), .map (some w.heap.size)] 57)) := (Below.refl _ _).alloc (Nat.le_refl _) _
            refine ⟨HBW.out.trans (hal.mono HBW.out.size), .inl ⟨HPE.out, _, rfl, ?_⟩⟩
            rw [HF1.out]
            exact ⟨p2, w.heap.size, heap_alloc_new _ _, HLA.out.below hal, HOF.out.below hal, HAT.out⟩
        · obtain ⟨ec, hec⟩ : ∃ ec, newE r.names r.below = ec := ⟨_, rfl⟩
          have hPE := HF2.out
          rw [if_pos hE] at hPE
          rw [hec] at hE hPE
          have hne : (ec != 0) = true := by simpa using hE
          have HEC := Lib.hid hec; have HPE := Lib.hid hPE; have HE := Lib.hid hE; clear hE hPE HF2 hec
          go_upto_region 15 with fail
          go_region_with (go_at_call 20; refine (HNW.out 1).mono ?_; rintro e w4 hP; obtain ⟨rfl, HB4⟩ := hP.no HEC.out HE.out; clear hP)
          all_goals
            have HBW := Lib.hid (HB1.out.trans (((below_drewN (Below.refl _ wr) 1).trans HB4.out).mono HB1.out.size))
            clear cp0 cp1 cp2
            go_wp2
            go_ret3
            exact ParsePost.bad HBW.out HPE.out HE.out rfl
end Go.Proofs.YtckpffkofeoinaaGreatDoor

/- The plain laws of package levels: what New makes is a lattice. -/
namespace Go.Proofs.YtckpffkofeoinaaGreatDoor

/-- a is below b, in rows of sets. -/
def leB (u : List Nat) (a b : Nat) : Bool := (u.getD a 0).testBit b

theorem getD_set (u : List Nat) (a s j : Nat) : (u.set a s).getD j 0 = if a = j ∧ a < u.length then s else u.getD j 0 := by
  simp only [List.getD_eq_getElem?_getD, List.getElem?_set]
  by_cases e : a = j
  · subst e
    by_cases h : a < u.length
    · simp [h]
    · simp [h]
  · simp [e]

theorem wStep_eq (k : Nat) (u : List Nat) (a : Nat) : wStep k u a = if (u.getD a 0).testBit k then u.set a (u.getD a 0 ||| u.getD k 0) else u := rfl
theorem dStep_eq (u : List Nat) (a : Nat) (d : List Nat) (b : Nat) : dStep u a d b = if (u.getD a 0).testBit b then d.set b (d.getD b 0 ||| 2 ^ a) else d := rfl
theorem dRow_eq (n : Nat) (u d : List Nat) (a : Nat) : dRow n u d a = (List.range n).foldl (dStep u a) d := rfl

/-! ### Warshall's rounds -/
theorem rowTo_succ (k : Nat) (u : List Nat) (m : Nat) : (List.range (m + 1)).foldl (wStep k) u = wStep k ((List.range m).foldl (wStep k) u) m := by
  rw [List.range_succ, List.foldl_append]; rfl

theorem wStep_len (k : Nat) (u : List Nat) (a : Nat) : (wStep k u a).length = u.length := by
  unfold wStep; split
  · exact List.length_set
  · rfl

theorem wRow_get (k : Nat) (u : List Nat) (m : Nat) (hm : m ≤ u.length) : ((List.range m).foldl (wStep k) u).length = u.length ∧
    ∀ j, ((List.range m).foldl (wStep k) u).getD j 0 = if j < m ∧ (u.getD j 0).testBit k = true then u.getD j 0 ||| u.getD k 0 else u.getD j 0 := by
  induction m with
  | zero => exact ⟨rfl, fun j => by simp⟩
  | succ m ih =>
    obtain ⟨h1, h2⟩ := ih (by omega)
    rw [rowTo_succ]
    refine ⟨by rw [wStep_len, h1], fun j => ?_⟩
    have hk : ((List.range m).foldl (wStep k) u).getD k 0 = u.getD k 0 := by
      rw [h2]; split
      · exact Nat.or_self _
      · rfl
    have hmm : ((List.range m).foldl (wStep k) u).getD m 0 = u.getD m 0 := by
      rw [h2, if_neg (by omega)]
    rw [wStep_eq, hmm, hk]
    by_cases hb : (u.getD m 0).testBit k = true
    · rw [if_pos hb, getD_set, h1]
      by_cases e : m = j
      · subst e
        rw [if_pos ⟨rfl, by omega⟩, if_pos ⟨by omega, hb⟩]
      · rw [if_neg (by omega), h2]
        by_cases e2 : j < m ∧ (u.getD j 0).testBit k = true
        · rw [if_pos e2, if_pos ⟨by omega, e2.2⟩]
        · rw [if_neg e2, if_neg]
          intro e3
          exact e2 ⟨by omega, e3.2⟩
    · rw [if_neg hb, h2]
      by_cases e2 : j < m ∧ (u.getD j 0).testBit k = true
      · rw [if_pos e2, if_pos ⟨by omega, e2.2⟩]
      · rw [if_neg e2, if_neg]
        intro e3
        by_cases e : j = m
        · subst e; exact hb e3.2
        · exact e2 ⟨by omega, e3.2⟩

theorem wRow_le (n k : Nat) (u : List Nat) (hu : u.length = n) (a b : Nat) (ha : a < n) : leB (wRow n u k) a b = (leB u a b || (leB u a k && leB u k b)) := by
  unfold leB wRow
  rw [(wRow_get k u n (by omega)).2]
  by_cases hb : (u.getD a 0).testBit k = true
  · rw [if_pos ⟨ha, hb⟩, Nat.testBit_or, hb, Bool.true_and]
  · rw [if_neg (fun h => hb h.2)]
    simp only [Bool.not_eq_true] at hb
    rw [hb]; simp
theorem wRow_len (n k : Nat) (u : List Nat) (hu : u.length = n) : (wRow n u k).length = n := by
  unfold wRow; rw [(wRow_get k u n (by omega)).1, hu]

def warshK (n : Nat) (u : List Nat) (k : Nat) : List Nat := (List.range k).foldl (wRow n) u
theorem warshK_succ (n : Nat) (u : List Nat) (k : Nat) : warshK n u (k + 1) = wRow n (warshK n u k) k := by
  rw [warshK, List.range_succ, List.foldl_append]; rfl
theorem warshK_len (n : Nat) (u : List Nat) (hu : u.length = n) (k : Nat) : (warshK n u k).length = n := by
  induction k with
  | zero => exact hu
  | succ k ih => rw [warshK_succ]; exact wRow_len n k _ ih

theorem warshK_through (n : Nat) (u : List Nat) (hu : u.length = n) (k : Nat) (hk : k ≤ n) : ∀ j, j < k → ∀ a b, a < n → leB (warshK n u k) a j = true → leB (warshK n u k) j b = true → leB (warshK n u k) a b = true := by
  induction k with
  | zero => intro j hj; omega
  | succ k ih =>
    intro j hj a b ha h1 h2
    have hl := warshK_len n u hu k
    rw [warshK_succ] at h1 h2 ⊢
    rw [wRow_le n k _ hl _ _ ha] at h1 ⊢
    rw [wRow_le n k _ hl _ _ (by omega)] at h2
    have ih := ih (by omega)
    generalize warshK n u k = R at *
    simp only [Bool.or_eq_true, Bool.and_eq_true] at *
    by_cases e : j = k
    · subst e
      have h1' : leB R a j = true := by rcases h1 with h | h; exact h; exact h.1
      have h2' : leB R j b = true := by rcases h2 with h | h; exact h; exact h.2
      exact .inr ⟨h1', h2'⟩
    · have hjk : j < k := by omega
      rcases h1 with h1 | ⟨h1, h1'⟩ <;> rcases h2 with h2 | ⟨h2, h2'⟩
      · exact .inl (ih j hjk a b ha h1 h2)
      · exact .inr ⟨ih j hjk a k ha h1 h2, h2'⟩
      · exact .inr ⟨h1, ih j hjk k b (by omega) h1' h2⟩
      · exact .inr ⟨h1, h2'⟩

theorem warshK_more (n : Nat) (u : List Nat) (hu : u.length = n) (k : Nat) (a b : Nat) (ha : a < n) (h : leB u a b = true) : leB (warshK n u k) a b = true := by
  induction k with
  | zero => exact h
  | succ k ih => rw [warshK_succ, wRow_le n k _ (warshK_len n u hu k) _ _ ha, ih]; rfl

/-- The least: what the pairs say, and what follows, is within each such relation. -/
theorem warshK_least (n : Nat) (u : List Nat) (hu : u.length = n) (Q : Nat → Nat → Prop) (hq : ∀ a b, a < n → leB u a b = true → Q a b) (ht : ∀ a b c, a < n → b < n → Q a b → Q b c → Q a c) (k : Nat) (hk : k ≤ n) :
    ∀ a b, a < n → leB (warshK n u k) a b = true → Q a b := by
  induction k with
  | zero => exact hq
  | succ k ih =>
    intro a b ha h
    rw [warshK_succ, wRow_le n k _ (warshK_len n u hu k) _ _ ha] at h
    have ih := ih (by omega)
    simp only [Bool.or_eq_true, Bool.and_eq_true] at h
    rcases h with h | h
    · exact ih a b ha h
    · exact ht a k b ha (by omega) (ih a k ha h.1) (ih k b (by omega) h.2)

/-! ### The pairs -/
theorem upP_len (names : List ByteArray) (pairs : List (ByteArray × ByteArray)) : (upP names pairs).length = names.length := by
  unfold upP
  have : ∀ (l : List (ByteArray × ByteArray)) (u : List Nat), (l.foldl (addP names) u).length = u.length := by
    intro l
    induction l with
    | nil => intro u; rfl
    | cons q l ih => intro u; rw [List.foldl_cons, ih]; exact List.length_set
  rw [this, upsTo_len]

theorem upsTo_le (n a b : Nat) (ha : a < n) : leB (upsTo n n) a b = decide (a = b) := by
  unfold leB upsTo
  rw [List.getD_eq_getElem?_getD, List.getElem?_map, List.getElem?_range ha]
  simp [ha, Nat.testBit_two_pow]

theorem addP_le (names : List ByteArray) (u : List Nat) (q : ByteArray × ByteArray) (hu : u.length = names.length) (a b : Nat) (hq : (placeI names q.1).toNat < names.length) :
    leB (addP names u q) a b = (leB u a b || (decide ((placeI names q.1).toNat = a) && decide ((placeI names q.2).toNat = b))) := by
  unfold leB addP
  rw [getD_set]
  by_cases e : (placeI names q.1).toNat = a
  · rw [if_pos ⟨e, by omega⟩, Nat.testBit_or, Nat.testBit_two_pow, e]; simp
  · rw [if_neg (fun h => e h.1)]; simp [e]

/-- What the pairs say: each place is below itself, and the first of a pair below its second. -/
theorem upP_le (names : List ByteArray) (pairs : List (ByteArray × ByteArray)) (hpos : 0 < names.length) (a b : Nat) (ha : a < names.length) :
    leB (upP names pairs) a b = true ↔ a = b ∨ ∃ q ∈ pairs, (placeI names q.1).toNat = a ∧ (placeI names q.2).toNat = b := by
  have key : ∀ (l : List (ByteArray × ByteArray)) (u : List Nat), u.length = names.length → (leB (l.foldl (addP names) u) a b = true ↔ leB u a b = true ∨ ∃ q ∈ l, (placeI names q.1).toNat = a ∧ (placeI names q.2).toNat = b) := by
    intro l
    induction l with
    | nil => intro u hu; simp
    | cons q l ih =>
      intro u hu
      have hq : (placeI names q.1).toNat < names.length := by have := placeI_lt names q.1 hpos; omega
      rw [List.foldl_cons, ih _ (by rw [addP, List.length_set]; exact hu), addP_le names u q hu a b hq]
      simp only [Bool.or_eq_true, Bool.and_eq_true, decide_eq_true_eq, List.mem_cons, exists_eq_or_imp]
      constructor
      · rintro ((h | h) | h)
        · exact .inl h
        · exact .inr (.inl h)
        · exact .inr (.inr h)
      · rintro (h | h | h)
        · exact .inl (.inl h)
        · exact .inl (.inr h)
        · exact .inr h
  rw [upP, key pairs _ (upsTo_len _ _), upsTo_le _ _ _ ha]
  simp

/-! ### The other way round -/
theorem dRow_get (u d : List Nat) (a m : Nat) (hm : m ≤ d.length) : ((List.range m).foldl (dStep u a) d).length = d.length ∧
    ∀ j, ((List.range m).foldl (dStep u a) d).getD j 0 = if j < m ∧ (u.getD a 0).testBit j = true then d.getD j 0 ||| 2 ^ a else d.getD j 0 := by
  induction m with
  | zero => exact ⟨rfl, fun j => by simp⟩
  | succ m ih =>
    obtain ⟨h1, h2⟩ := ih (by omega)
    have hs : (List.range (m + 1)).foldl (dStep u a) d = dStep u a ((List.range m).foldl (dStep u a) d) m := by rw [List.range_succ, List.foldl_append]; rfl
    rw [hs]
    have hmm : ((List.range m).foldl (dStep u a) d).getD m 0 = d.getD m 0 := by rw [h2, if_neg (by omega)]
    rw [dStep_eq, hmm]
    by_cases hb : (u.getD a 0).testBit m = true
    · rw [if_pos hb]
      refine ⟨by rw [List.length_set, h1], fun j => ?_⟩
      rw [getD_set, h1]
      by_cases e : m = j
      · subst e; rw [if_pos ⟨rfl, by omega⟩, if_pos ⟨by omega, hb⟩]
      · rw [if_neg (by omega), h2]
        by_cases e2 : j < m ∧ (u.getD a 0).testBit j = true
        · rw [if_pos e2, if_pos ⟨by omega, e2.2⟩]
        · rw [if_neg e2, if_neg]
          intro e3; exact e2 ⟨by omega, e3.2⟩
    · rw [if_neg hb]
      refine ⟨h1, fun j => ?_⟩
      rw [h2]
      by_cases e2 : j < m ∧ (u.getD a 0).testBit j = true
      · rw [if_pos e2, if_pos ⟨by omega, e2.2⟩]
      · rw [if_neg e2, if_neg]
        intro e3
        by_cases e : j = m
        · subst e; exact hb e3.2
        · exact e2 ⟨by omega, e3.2⟩

theorem downs_le (n : Nat) (u : List Nat) (a b : Nat) (ha : a < n) (hb : b < n) : leB (downs n u) b a = leB u a b := by
  have key : ∀ k, k ≤ n → ((List.range k).foldl (dRow n u) (List.replicate n 0)).length = n ∧ ∀ j, j < n → ∀ i, leB ((List.range k).foldl (dRow n u) (List.replicate n 0)) j i = (decide (i < k) && leB u i j) := by
    intro k
    induction k with
    | zero => intro _; exact ⟨List.length_replicate, fun j hj i => by simp [leB, List.getD_eq_getElem?_getD, hj]⟩
    | succ k ih =>
      intro hk
      obtain ⟨h1, h2⟩ := ih (by omega)
      have hs : (List.range (k + 1)).foldl (dRow n u) (List.replicate n 0) = dRow n u ((List.range k).foldl (dRow n u) (List.replicate n 0)) k := by rw [List.range_succ, List.foldl_append]; rfl
      rw [hs]
      obtain ⟨g1, g2⟩ := dRow_get u ((List.range k).foldl (dRow n u) (List.replicate n 0)) k n (by omega)
      rw [dRow_eq]
      refine ⟨by rw [g1, h1], fun j hj i => ?_⟩
      have h2 := h2 j hj i
      unfold leB at *
      rw [g2]
      by_cases hb : (u.getD k 0).testBit j = true
      · rw [if_pos ⟨hj, hb⟩, Nat.testBit_or, h2, Nat.testBit_two_pow]
        by_cases e : k = i
        · subst e; rw [hb]; simp
        · simp [e, show (i < k + 1) = (i < k) from by simp; omega]
      · rw [if_neg (fun h => hb h.2), h2]
        by_cases e : k = i
        · subst e; simp only [Bool.not_eq_true] at hb; rw [hb]; simp
        · simp [show (i < k + 1) = (i < k) from by simp; omega]
  rw [downs, (key n (Nat.le_refl _)).2 b hb a]
  simp [ha]

/-! ### Sets that make half a lattice -/
structure Half (n : Nat) (l : List Nat) : Prop where
  bnd : Bnd n l
  refl : ∀ a, a < n → leB l a a = true
  trans : ∀ a b c, a < n → b < n → leB l a b = true → leB l b c = true → leB l a c = true
  anti : ∀ a b, a < n → b < n → leB l a b = true → leB l b a = true → a = b
  ex : ∀ a b, a < n → b < n → 0 ≤ firstI l (l.getD a 0 &&& l.getD b 0)

theorem firstI_some {l : List Nat} {s : Nat} (h : 0 ≤ firstI l s) : ∃ c, c < l.length ∧ firstI l s = (c : Int) ∧ l.getD c 0 = s := by
  unfold firstI at *
  by_cases hm : s ∈ l
  · rw [if_pos hm]
    have hlt : l.idxOf s < l.length := List.idxOf_lt_length_iff.2 hm
    exact ⟨l.idxOf s, hlt, rfl, by rw [List.getD_eq_getElem?_getD, List.getElem?_eq_getElem hlt]; exact List.getElem_idxOf hlt⟩
  · rw [if_neg hm] at h; omega

namespace Half
variable {n : Nat} {l : List Nat} (H : Half n l)
include H

theorem lt_of {a b : Nat} (h : leB l a b = true) : b < n := by
  have h1 := H.bnd.get a
  rcases Nat.lt_or_ge b n with h2 | h2
  · exact h2
  · exfalso
    have : 2 ^ n ≤ 2 ^ b := Nat.pow_le_pow_right (by omega) h2
    have h3 := Nat.testBit_lt_two_pow (x := l.getD a 0) (i := b) (by omega)
    rw [leB, h3] at h; cases h

theorem inj {a b : Nat} (ha : a < n) (hb : b < n) (h : l.getD a 0 = l.getD b 0) : a = b := by
  refine H.anti a b ha hb ?_ ?_
  · rw [leB, h]; exact H.refl b hb
  · rw [leB, ← h]; exact H.refl a ha

/-- The place whose set both have in common. -/
theorem jn {a b : Nat} (ha : a < n) (hb : b < n) : ∃ c, c < n ∧ firstI l (l.getD a 0 &&& l.getD b 0) = (c : Int) ∧ l.getD c 0 = l.getD a 0 &&& l.getD b 0 := by
  obtain ⟨c, h1, h2, h3⟩ := firstI_some (H.ex a b ha hb)
  exact ⟨c, by rw [H.bnd.1] at h1; exact h1, h2, h3⟩

theorem first_eq {s c : Nat} (hc : c < n) (h : l.getD c 0 = s) : firstI l s = (c : Int) := by
  have hm : s ∈ l := by
    rw [← h, List.getD_eq_getElem?_getD, List.getElem?_eq_getElem (by rw [H.bnd.1]; exact hc)]; exact List.getElem_mem _
  have h0 : 0 ≤ firstI l s := by unfold firstI; rw [if_pos hm]; exact Int.natCast_nonneg _
  obtain ⟨d, h1, h2, h3⟩ := firstI_some h0
  rw [H.bnd.1] at h1
  rw [h2, H.inj h1 hc (h3.trans h.symm)]

theorem sub {a b : Nat} (ha : a < n) (hb : b < n) : leB l a b = true ↔ l.getD a 0 &&& l.getD b 0 = l.getD b 0 := by
  constructor
  · intro h
    apply Nat.eq_of_testBit_eq
    intro i
    rw [Nat.testBit_and]
    cases hi : (l.getD b 0).testBit i with
    | false => simp
    | true => rw [show (l.getD a 0).testBit i = true from H.trans a b i ha hb h hi]; rfl
  · intro h
    have := H.refl b hb
    rw [leB, ← h, Nat.testBit_and, Bool.and_eq_true] at this
    exact this.1

theorem join_eq {a b : Nat} (ha : a < n) (hb : b < n) : leB l a b = true ↔ firstI l (l.getD a 0 &&& l.getD b 0) = (b : Int) := by
  rw [H.sub ha hb]
  constructor
  · intro h; exact H.first_eq hb h.symm
  · intro h
    obtain ⟨c, _, h2, h3⟩ := H.jn ha hb
    rw [h2] at h
    have : c = b := by omega
    rw [← h3, this]

theorem up_l {a b c : Nat} (hc : c < n) (h : l.getD c 0 = l.getD a 0 &&& l.getD b 0) : leB l a c = true ∧ leB l b c = true := by
  have := H.refl c hc
  rw [leB, h, Nat.testBit_and, Bool.and_eq_true] at this
  exact this

omit H in
theorem least {a b c d : Nat} (h : l.getD c 0 = l.getD a 0 &&& l.getD b 0) (h1 : leB l a d = true) (h2 : leB l b d = true) : leB l c d = true := by
  rw [leB, h, Nat.testBit_and]
  unfold leB at h1 h2
  rw [h1, h2]; rfl

/-- A place that all others are in the set of: all sets together. -/
theorem all (hpos : 0 < n) : ∃ c, c < n ∧ ∀ d, d < n → leB l d c = true := by
  have key : ∀ k, k ≤ n → 0 < k → ∃ c, c < n ∧ ∀ d, d < k → leB l d c = true := by
    intro k
    induction k with
    | zero => intro _ h; omega
    | succ k ih =>
      intro hk _
      by_cases h0 : k = 0
      · subst h0
        exact ⟨0, hpos, fun d hd => (show d = 0 by omega) ▸ H.refl 0 hpos⟩
      · obtain ⟨c, hc, h⟩ := ih (by omega) (by omega)
        obtain ⟨e, he, _, h3⟩ := H.jn hc (show k < n by omega)
        obtain ⟨u1, u2⟩ := H.up_l he h3
        refine ⟨e, he, fun d hd => ?_⟩
        rcases Nat.lt_or_ge d k with h4 | h4
        · exact H.trans d c e (by omega) hc (h d h4) u1
        · have : d = k := by omega
          subst this; exact u2
  exact key n (Nat.le_refl _) hpos
end Half

theorem full_bits {n s : Nat} (hs : s < 2 ^ n) (h : ∀ i, i < n → s.testBit i = true) : s = 2 ^ n - 1 := by
  apply Nat.eq_of_testBit_eq
  intro i
  rw [Nat.testBit_two_pow_sub_one]
  rcases Nat.lt_or_ge i n with hi | hi
  · rw [h i hi]; simp [hi]
  · have : 2 ^ n ≤ 2 ^ i := Nat.pow_le_pow_right (by omega) hi
    rw [Nat.testBit_lt_two_pow (by omega)]; simp [Nat.not_lt.2 hi]

/-- A lattice: the sets above, and those below. -/
structure IsLat (L : LatD) : Prop where
  pos : 0 < L.names.length
  le : L.names.length ≤ 16
  up : Half L.names.length L.up
  down : Half L.names.length L.down
  conv : ∀ a b, a < L.names.length → b < L.names.length → leB L.down b a = leB L.up a b

theorem newE_zero {names : List ByteArray} {pairs : List (ByteArray × ByteArray)} (h : newE names pairs = 0) : checkE names = 0 ∧ pairs.all (pairOk names) = true ∧ rightB (newL names pairs) = true := by
  unfold newE at h
  by_cases h1 : checkE names = 0
  · rw [if_neg (by rw [h1]; simp)] at h
    by_cases h2 : pairs.all (pairOk names) = false
    · rw [if_pos h2] at h; omega
    · rw [if_neg h2] at h
      by_cases h3 : rightB (newL names pairs) = false
      · rw [if_pos h3] at h; omega
      · exact ⟨h1, by simpa using h2, by simpa using h3⟩
  · rw [if_pos h1] at h; exact absurd h h1

theorem right_all {L : LatD} (h : rightB L = true) {a b : Nat} (ha : a < L.names.length) (hb : b < L.names.length) : badB L a b = false := by
  cases hx : badB L a b with
  | false => rfl
  | true => rw [rightB_no L a b ha hb hx] at h; cases h

theorem bnd_warsh (n : Nat) (u : List Nat) (hu : Bnd n u) : Bnd n (warsh n u) := by
  have step : ∀ k u a, Bnd n u → Bnd n (wStep k u a) := fun k u a h => by
    rw [wStep_eq]; split
    · exact h.set _ _ (Bnd.or (h.get a) (h.get k))
    · exact h
  have row : ∀ k (u : List Nat) m, Bnd n u → Bnd n ((List.range m).foldl (wStep k) u) := fun k u m h => by
    induction m with
    | zero => exact h
    | succ m ih => rw [rowTo_succ]; exact step k _ m ih
  have : ∀ k, Bnd n (warshK n u k) := fun k => by
    induction k with
    | zero => exact hu
    | succ k ih => rw [warshK_succ]; exact row k _ n ih
  exact this n

theorem bnd_upP (names : List ByteArray) (pairs : List (ByteArray × ByteArray)) (hpos : 0 < names.length) (hok : pairs.all (pairOk names) = true) : Bnd names.length (upP names pairs) := by
  have : ∀ (l : List (ByteArray × ByteArray)) (u : List Nat), l.all (pairOk names) = true → Bnd names.length u → Bnd names.length (l.foldl (addP names) u) := by
    intro l
    induction l with
    | nil => intro u _ h; exact h
    | cons q l ih =>
      intro u hl h
      rw [List.all_cons, Bool.and_eq_true] at hl
      rw [List.foldl_cons]
      refine ih _ hl.2 (h.set _ _ (Bnd.or (h.get _) (pow_lt ?_)))
      have := placeI_lt names q.2 hpos
      omega
  exact this pairs _ hok (Bnd.upsTo _ _)

theorem newL_lat {names : List ByteArray} {pairs : List (ByteArray × ByteArray)} (h : newE names pairs = 0) : IsLat (newL names pairs) := by
  obtain ⟨hc, hp, hr⟩ := newE_zero h
  obtain ⟨hpos, hle⟩ := checkE_zero hc
  have hU := bnd_upP names pairs hpos hp
  have hW : Bnd names.length (newL names pairs).up := bnd_warsh _ _ hU
  have hul := upP_len names pairs
  have refl : ∀ a, a < names.length → leB (newL names pairs).up a a = true := fun a ha => warshK_more _ _ hul _ a a ha ((upP_le names pairs hpos a a ha).2 (.inl rfl))
  have bl : ∀ a b, leB (newL names pairs).up a b = true → b < names.length := fun a b h => by
    have h1 := hW.get a
    rcases Nat.lt_or_ge b names.length with h2 | h2
    · exact h2
    · exfalso
      have : 2 ^ names.length ≤ 2 ^ b := Nat.pow_le_pow_right (by omega) h2
      rw [leB, Nat.testBit_lt_two_pow (by omega)] at h; cases h
  have trans : ∀ a b c, a < names.length → b < names.length → leB (newL names pairs).up a b = true → leB (newL names pairs).up b c = true → leB (newL names pairs).up a c = true :=
    fun a b c ha hb h1 h2 => warshK_through names.length _ hul names.length (Nat.le_refl _) b hb a c ha h1 h2
  have conv : ∀ a b, a < names.length → b < names.length → leB (newL names pairs).down b a = leB (newL names pairs).up a b := fun a b ha hb => downs_le _ _ a b ha hb
  have hbad : ∀ a b, a < names.length → b < names.length → badB (newL names pairs) a b = false := fun a b ha hb => right_all hr ha hb
  have anti : ∀ a b, a < names.length → b < names.length → leB (newL names pairs).up a b = true → leB (newL names pairs).up b a = true → a = b := by
    intro a b ha hb h1 h2
    have := hbad a b ha hb
    rw [badB, Bool.or_eq_false_iff] at this
    unfold leB at h1 h2
    rw [h1, h2] at this
    simpa using this.1
  have ex1 : ∀ a b, a < names.length → b < names.length → 0 ≤ firstI (newL names pairs).up ((newL names pairs).up.getD a 0 &&& (newL names pairs).up.getD b 0) ∧ 0 ≤ firstI (newL names pairs).down ((newL names pairs).down.getD a 0 &&& (newL names pairs).down.getD b 0) := by
    intro a b ha hb
    have := hbad a b ha hb
    rw [badB, Bool.or_eq_false_iff, Bool.or_eq_false_iff] at this
    simp only [decide_eq_false_iff_not] at this
    omega
  have hD : Bnd names.length (newL names pairs).down := by
    have key : ∀ k, k ≤ names.length → Bnd names.length ((List.range k).foldl (dRow names.length (newL names pairs).up) (List.replicate names.length 0)) := by
      intro k
      induction k with
      | zero => intro _; exact Bnd.zeros _
      | succ k ih =>
        intro hk
        rw [List.range_succ, List.foldl_append]
        have h1 := ih (by omega)
        generalize (List.range k).foldl (dRow names.length (newL names pairs).up) (List.replicate names.length 0) = d at *
        have : ∀ m, Bnd names.length ((List.range m).foldl (dStep (newL names pairs).up k) d) := by
          intro m
          induction m with
          | zero => exact h1
          | succ m ihm =>
            rw [List.range_succ, List.foldl_append]
            show Bnd _ (dStep _ _ _ _)
            rw [dStep_eq]; split
            · exact ihm.set _ _ (Bnd.or (ihm.get m) (pow_lt (by omega)))
            · exact ihm
        exact this names.length
    exact key names.length (Nat.le_refl _)
  refine ⟨hpos, hle, ⟨hW, refl, trans, anti, fun a b ha hb => (ex1 a b ha hb).1⟩, ⟨hD, ?_, ?_, ?_, fun a b ha hb => (ex1 a b ha hb).2⟩, conv⟩
  · intro a ha; rw [conv a a ha ha]; exact refl a ha
  · intro a b c ha hb h1 h2
    have hcn : c < names.length := by
      have h3 := hD.get b
      rcases Nat.lt_or_ge c names.length with h4 | h4
      · exact h4
      · exfalso
        have : 2 ^ names.length ≤ 2 ^ c := Nat.pow_le_pow_right (by omega) h4
        rw [leB, Nat.testBit_lt_two_pow (by omega)] at h2; cases h2
    rw [conv b a hb ha] at h1
    rw [conv c b hcn hb] at h2
    rw [conv c a hcn ha]
    exact trans c b a hcn hb h2 h1
  · intro a b ha hb h1 h2
    rw [conv b a hb ha] at h1
    rw [conv a b ha hb] at h2
    exact anti a b ha hb h2 h1
end Go.Proofs.YtckpffkofeoinaaGreatDoor

/- The walk of PolicyMay. -/
namespace Go.Proofs.YtckpffkofeoinaaGreatDoor
open Go.RowKit Go.Maps

theorem belowB_nat {L : LatD} {a b : Nat} (ha : a < L.names.length) (hb : b < L.names.length) : belowB L (a : Int) (b : Int) = leB L.up a b := by
  unfold belowB leB
  rw [decide_eq_true (p := 0 ≤ (a : Int) ∧ 0 ≤ (b : Int) ∧ (a : Int) < L.names.length ∧ (b : Int) < L.names.length) ⟨by omega, by omega, by omega, by omega⟩, Bool.true_and, Int.toNat_natCast, Int.toNat_natCast]
theorem belowB_in {L : LatD} {a b : Int} (h : belowB L a b = true) : 0 ≤ a ∧ 0 ≤ b ∧ a < L.names.length ∧ b < L.names.length := by
  unfold belowB at h
  rw [Bool.and_eq_true] at h
  exact of_decide_eq_true h.1

theorem parse_ok {s : ByteArray} (h : parseE s = (0, 0)) : newE (readF s).2.2.names (readF s).2.2.below = 0 := by
  unfold parseE at h
  split at h
  · exact absurd (congrArg Prod.fst h) (by decide)
  · split at h
    · rename_i h1; exact absurd (congrArg Prod.fst h) h1
    · split at h
      · rename_i h1; exact absurd (congrArg Prod.fst h) h1
      · rename_i h1; simpa using h1

/-- What May and Level tell of one another. -/
structure MayLaw (r : RS) : Prop where
  refl : ∀ a, mayB r a a = decide (0 ≤ levelI r a)
  trans : ∀ a b c, mayB r a b = true → mayB r b c = true → mayB r a c = true
  anti : ∀ a b, mayB r a b = true → mayB r b a = true → levelI r a = levelI r b
  lev : ∀ a, -1 ≤ levelI r a ∧ levelI r a ≤ 1000

theorem mayLaw {r : RS} (hE : newE r.names r.below = 0) (hA : ∀ q ∈ r.of, q.2 < r.names.length) : MayLaw r := by
  have H := newL_lat hE
  have hn : (newL r.names r.below).names = r.names := rfl
  have hlev : ∀ a, levelI r a = -1 ∨ ∃ n : Nat, levelI r a = (n : Int) ∧ n < (newL r.names r.below).names.length := fun a => by
    unfold levelI
    cases h : ofAt r.of a with
    | none => exact .inl rfl
    | some n => exact .inr ⟨n, rfl, hA _ (ofAt_mem h)⟩
  have hge : ∀ {a b : Int}, belowB (newL r.names r.below) a b = true → 0 ≤ a ∧ 0 ≤ b := fun h => ⟨(belowB_in h).1, (belowB_in h).2.1⟩
  refine ⟨fun a => ?_, fun a b c h1 h2 => ?_, fun a b h1 h2 => ?_, fun a => ?_⟩
  · unfold mayB
    rcases hlev a with h | ⟨n, h, hl⟩
    · rw [h, decide_eq_false (by omega)]
      cases hb : belowB (newL r.names r.below) (-1) (-1) with
      | false => rfl
      | true => have := (hge hb).1; omega
    · rw [h, decide_eq_true (by omega), belowB_nat hl hl]; exact H.up.refl n hl
  · unfold mayB at *
    rcases hlev a with h | ⟨n, h, hl⟩
    · rw [h] at h1; have := (hge h1).1; omega
    · rcases hlev b with h' | ⟨m, h', hl'⟩
      · rw [h'] at h2; have := (hge h2).1; omega
      · rcases hlev c with h'' | ⟨k, h'', hl''⟩
        · rw [h''] at h2; have := (hge h2).2; omega
        · rw [h, h'] at h1
          rw [h', h''] at h2
          rw [h, h'']
          rw [belowB_nat hl hl'] at h1
          rw [belowB_nat hl' hl''] at h2
          rw [belowB_nat hl hl'']
          exact H.up.trans n m k hl hl' h1 h2
  · unfold mayB at *
    rcases hlev a with h | ⟨n, h, hl⟩
    · rw [h] at h1; have := (hge h1).1; omega
    · rcases hlev b with h' | ⟨m, h', hl'⟩
      · rw [h'] at h2; have := (hge h2).1; omega
      · rw [h, h'] at h1
        rw [h', h] at h2
        rw [belowB_nat hl hl'] at h1
        rw [belowB_nat hl' hl] at h2
        rw [h, h', H.up.anti n m hl hl' h1 h2]
  · rcases hlev a with h | ⟨n, h, hl⟩
    · omega
    · have := H.le; omega

set_option maxRecDepth 100000 in
set_option maxHeartbeats 4000000 in
theorem shown_any (w : World) (hM : MaxL w) :
    Calls Tryz.prog 4 #[] w fun e w' => e = .returned (.bool true) ∧ Below w.heap.size w w' := by
  have HMM : Hid (∀ w' : World, Below w.heap.size w w' → MaxL w') := fun w' hb => hM.below hb
  clear hM
  go_enter Tryz.func4, Tryz.ntmps4
  go_wp2_with fail
  refine (parse_any shownA _ (HMM.out _ (Below.refl _ _))).mono ?_
  rintro e w1 ⟨hb1, h1⟩
  rcases h1 with ⟨_, p, rfl, hp⟩ | ⟨h1, _⟩
  · have HB1 := Lib.hid hb1; have HP1 := Lib.hid hp; clear hb1 hp
    go_wp2_with fail
    refine (parse_any shownB _ (HMM.out _ HB1.out)).mono ?_
    rintro e w2 ⟨hb2, h2⟩
    rcases h2 with ⟨h2, _⟩ | ⟨_, h2⟩
    · rw [shownB_e] at h2; exact absurd h2 (by decide)
    · rw [shownB_e] at h2
      obtain rfl : e = .returned (.tuple #[.pointer none, .int .i64 15, .int .i64 3]) := h2
      have HB2 := Lib.hid (HB1.out.trans (hb2.mono HB1.out.size)); have HP2 := Lib.hid (HP1.out.below hb2); clear hb2 HP1 HB1
      go_wp2_with fail
      refine (parse_any shownC _ (HMM.out _ HB2.out)).mono ?_
      rintro e w3 ⟨hb3, h3⟩
      rcases h3 with ⟨h3, _⟩ | ⟨_, h3⟩
      · rw [shownC_e] at h3; exact absurd h3 (by decide)
      · rw [shownC_e] at h3
        obtain rfl : e = .returned (.tuple #[.pointer none, .int .i64 15, .int .i64 9]) := h3
        have HB3 := Lib.hid (HB2.out.trans (hb3.mono HB2.out.size)); have HP3 := Lib.hid (HP2.out.below hb3); clear hb3 HP2 HB2
        have HX : Hid (levelI (readF shownA).2.2 ⟨#[120]⟩ = 0) := by show levelI _ _ = 0; unfold levelI; rw [shownA_x]; rfl
        have HY : Hid (mayB (readF shownA).2.2 ⟨#[120]⟩ ⟨#[120]⟩ = true) := by show mayB _ _ _ = true; unfold mayB; rw [HX.out]; exact shownA_b
        go_wp2_with (first | (go_at_call 7; refine (level_any _ _ _ _ (by decide) HP3.out).mono ?_; rintro e w4 ⟨rfl, rfl⟩; rw [HX.out]) | (go_at_call 9; refine (may_any _ _ _ _ _ (by decide) (by decide) HP3.out).mono ?_; rintro e w4 ⟨rfl, nq, rfl⟩; rw [HY.out]))
        go_ret
        exact ⟨ret_bool rfl, below_drewN HB3.out _⟩
  · rw [shownA_e] at h1; exact absurd rfl h1
end Go.Proofs.YtckpffkofeoinaaGreatDoor

/- The plain law of covers: the pairs with nothing between make the same lattice (without joins). -/
namespace Go.Proofs.YtckpffkofeoinaaGreatDoor

theorem covers_mem {L : LatD} {q : Nat × Nat} (h : q ∈ covers L) : q.1 < L.names.length ∧ q.2 < L.names.length ∧ coverB L q.1 q.2 = true := by
  unfold covers coverTo coverRow at h
  simp only [List.mem_flatMap, List.mem_map, List.mem_filter, List.mem_range] at h
  obtain ⟨a, ha, b, ⟨hb, hc⟩, rfl⟩ := h
  exact ⟨ha, hb, hc⟩

theorem covers_of {L : LatD} {a b : Nat} (ha : a < L.names.length) (hb : b < L.names.length) (h : coverB L a b = true) : (a, b) ∈ covers L := by
  unfold covers coverTo coverRow
  simp only [List.mem_flatMap, List.mem_map, List.mem_filter, List.mem_range]
  exact ⟨a, ha, b, ⟨hb, h⟩, rfl⟩

theorem coverB_iff {L : LatD} (H : IsLat L) {a b : Nat} (ha : a < L.names.length) (hb : b < L.names.length) :
    coverB L a b = true ↔ a ≠ b ∧ leB L.up a b = true ∧ ∀ c, c < L.names.length → leB L.up a c = true → leB L.up c b = true → c = a ∨ c = b := by
  unfold coverB
  simp only [Bool.and_eq_true, bne_iff_ne, ne_eq, beq_iff_eq]
  constructor
  · rintro ⟨h1, h2, h3⟩
    refine ⟨h1, h2, fun c hc h4 h5 => ?_⟩
    rw [← H.conv c b hc hb] at h5
    have h6 : (L.up.getD a 0 &&& L.down.getD b 0).testBit c = true := by
      rw [Nat.testBit_and]; unfold leB at h4 h5; rw [h4, h5]; rfl
    rw [h3, Nat.testBit_or, Nat.testBit_two_pow, Nat.testBit_two_pow] at h6
    simp only [Bool.or_eq_true, decide_eq_true_eq] at h6
    omega
  · rintro ⟨h1, h2, h3⟩
    refine ⟨h1, h2, ?_⟩
    apply Nat.eq_of_testBit_eq
    intro i
    rw [Nat.testBit_and, Nat.testBit_or, Nat.testBit_two_pow, Nat.testBit_two_pow, Bool.eq_iff_iff]
    simp only [Bool.and_eq_true, Bool.or_eq_true, decide_eq_true_eq]
    constructor
    · rintro ⟨h4, h5⟩
      have hi : i < L.names.length := H.up.lt_of (a := a) h4
      have h5' : leB L.up i b = true := by rw [← H.conv i b hi hb]; exact h5
      have := h3 i hi h4 h5'
      omega
    · rintro (rfl | rfl)
      · exact ⟨H.up.refl _ ha, by have := H.conv a b ha hb; unfold leB at this h2; rw [this]; exact h2⟩
      · exact ⟨h2, by have := H.down.refl _ hb; exact this⟩

/-- Between the two of a cover there is nothing. -/
theorem covers_gap {L : LatD} (H : IsLat L) {q : Nat × Nat} (h : q ∈ covers L) {c : Nat} (hc : c < L.names.length) (h1 : c ≠ q.1) (h2 : c ≠ q.2) (h3 : belowB L (q.1 : Int) (c : Int) = true) : belowB L (c : Int) (q.2 : Int) = false := by
  obtain ⟨k1, k2, k3⟩ := covers_mem h
  rw [belowB_nat k1 hc] at h3
  rw [belowB_nat hc k2]
  cases hb : leB L.up c q.2 with
  | false => rfl
  | true =>
    have := ((coverB_iff H k1 k2).1 k3).2.2 c hc h3 hb
    omega

theorem pairsV_at (l : List (Nat × Nat)) {k : Nat} (h : k < l.length) : (pairsV l)[k * 2]? = some (.int .i64 (l[k].1 : Int)) ∧ (pairsV l)[k * 2 + 1]? = some (.int .i64 (l[k].2 : Int)) := by
  induction l generalizing k with
  | nil => simp at h
  | cons q l ih =>
    cases k with
    | zero => simp [pairsV]
    | succ k =>
      have := ih (k := k) (by simpa using h)
      simp only [pairsV, List.flatMap_cons, List.cons_append, List.nil_append] at this ⊢
      rw [show (k + 1) * 2 = k * 2 + 1 + 1 by omega]
      simpa using this

/-- Names, each once: a name's place is where it stands. -/
theorem placeI_get {names : List ByteArray} (h : checkE names = 0) {i : Nat} (hi : i < names.length) : placeI names names[i] = (i : Int) := by
  have hd : dupTo names names.length = false := by
    unfold checkE at h
    by_cases h0 : names.length = 0 ∨ 16 < names.length
    · rw [if_pos h0] at h; omega
    · rw [if_neg h0] at h
      by_cases h1 : names.all okS = false
      · rw [if_pos h1] at h; omega
      · rw [if_neg h1] at h
        cases hx : dupTo names names.length with
        | false => rfl
        | true => rw [hx] at h; simp at h
  unfold dupTo at hd
  rw [List.any_eq_false] at hd
  have hdi := hd i (List.mem_range.2 hi)
  have hg : names.getD i ByteArray.empty = names[i] := by rw [List.getD_eq_getElem?_getD, List.getElem?_eq_getElem hi]; rfl
  rw [hg] at hdi
  unfold placeI Lib.idxOfS
  rw [Lib.idxFromS_hit names[i] names i 0 hi hg ?_]
  · simp
  · intro j hj he
    apply hdi
    rw [Lib.containsS_iff]
    have hj' : j < names.length := by omega
    have : names.getD j ByteArray.empty = names[j] := by rw [List.getD_eq_getElem?_getD, List.getElem?_eq_getElem hj']; rfl
    rw [this] at he
    refine List.mem_iff_getElem.2 ⟨j, by simp; omega, ?_⟩
    rw [List.getElem_take]
    exact he

/-- The pairs of names that the covers are. -/
def coverPairs (names : List ByteArray) (l : List (Nat × Nat)) : List (ByteArray × ByteArray) := l.map fun q => (names.getD q.1 ByteArray.empty, names.getD q.2 ByteArray.empty)

/-- What lies between two places. -/
def midB (u : List Nat) (a b c : Nat) : Bool := leB u a c && leB u c b

theorem ext_sets {n : Nat} {u v : List Nat} (hu : Bnd n u) (hv : Bnd n v) (h : ∀ a b, a < n → (leB u a b = true ↔ leB v a b = true)) : u = v := by
  apply List.ext_getElem
  · rw [hu.1, hv.1]
  · intro i h1 h2
    have hi : i < n := by rw [← hu.1]; exact h1
    apply Nat.eq_of_testBit_eq
    intro j
    have := h i j hi
    unfold leB at this
    rw [List.getD_eq_getElem?_getD, List.getElem?_eq_getElem h1, List.getD_eq_getElem?_getD, List.getElem?_eq_getElem h2, ← Bool.eq_iff_iff] at this
    exact this

/-- What is below is come to by covers. -/
theorem chain {L : LatD} (H : IsLat L) (R : Nat → Nat → Prop) (hr : ∀ a, a < L.names.length → R a a) (ht : ∀ a b c, a < L.names.length → b < L.names.length → c < L.names.length → R a b → R b c → R a c)
    (hc : ∀ q ∈ covers L, R q.1 q.2) : ∀ (m : Nat) (a b : Nat), a < L.names.length → b < L.names.length → ((List.range L.names.length).countP (midB L.up a b)) ≤ m → leB L.up a b = true → R a b := by
  intro m
  induction m with
  | zero =>
    intro a b ha hb hm hab
    exfalso
    have h1 : 0 < (List.range L.names.length).countP (midB L.up a b) := List.countP_pos_iff.2 ⟨a, List.mem_range.2 ha, by unfold midB; rw [H.up.refl a ha, hab]; rfl⟩
    omega
  | succ m ih =>
    intro a b ha hb hm hab
    by_cases he : a = b
    · subst he; exact hr a ha
    · by_cases hcv : coverB L a b = true
      · exact hc (a, b) (covers_of ha hb hcv)
      · have : ∃ c, c < L.names.length ∧ leB L.up a c = true ∧ leB L.up c b = true ∧ c ≠ a ∧ c ≠ b := by
          apply Classical.byContradiction
          intro hn
          apply hcv
          refine (coverB_iff H ha hb).2 ⟨he, hab, fun c hc h1 h2 => ?_⟩
          apply Classical.byContradiction
          intro h3
          exact hn ⟨c, hc, h1, h2, fun e => h3 (.inl e), fun e => h3 (.inr e)⟩
        obtain ⟨c, hcn, h1, h2, h3, h4⟩ := this
        have less : ∀ (p q : Nat → Bool) (x : Nat) , x < L.names.length → p x = false → q x = true → (∀ y, y < L.names.length → p y = true → q y = true) → (List.range L.names.length).countP p < (List.range L.names.length).countP q := by
          intro p q x hx hp hq hpq
          have key : ∀ l : List Nat, (∀ y ∈ l, y < L.names.length) → l.countP p ≤ l.countP q ∧ (x ∈ l → l.countP p < l.countP q) := by
            intro l
            induction l with
            | nil => intro _; exact ⟨Nat.le_refl _, fun h => by simp at h⟩
            | cons y l ihl =>
              intro hy
              obtain ⟨g1, g2⟩ := ihl fun z hz => hy z (List.mem_cons_of_mem _ hz)
              rw [List.countP_cons, List.countP_cons]
              have hyl := hpq y (hy y (List.mem_cons_self ..))
              constructor
              · by_cases hpy : p y = true
                · rw [if_pos hpy, if_pos (hyl hpy)]; omega
                · rw [if_neg hpy]; omega
              · intro hm
                rcases List.mem_cons.1 hm with rfl | hm
                · rw [if_neg (by rw [hp]; simp), if_pos hq]; omega
                · have := g2 hm
                  by_cases hpy : p y = true
                  · rw [if_pos hpy, if_pos (hyl hpy)]; omega
                  · rw [if_neg hpy]; omega
          exact (key _ fun y hy => List.mem_range.1 hy).2 (List.mem_range.2 hx)
        have l1 : (List.range L.names.length).countP (midB L.up a c) < (List.range L.names.length).countP (midB L.up a b) := by
          refine less _ _ b hb ?_ ?_ ?_
          · unfold midB
            cases hbc : leB L.up b c with
            | false => simp
            | true => exact absurd (H.up.anti c b hcn hb h2 hbc) h4
          · unfold midB; rw [hab, H.up.refl b hb]; rfl
          · intro y hy hp
            unfold midB at hp ⊢
            rw [Bool.and_eq_true] at hp ⊢
            exact ⟨hp.1, H.up.trans y c b hy hcn hp.2 h2⟩
        have l2 : (List.range L.names.length).countP (midB L.up c b) < (List.range L.names.length).countP (midB L.up a b) := by
          refine less _ _ a ha ?_ ?_ ?_
          · unfold midB
            cases hbc : leB L.up c a with
            | false => simp
            | true => exact absurd (H.up.anti a c ha hcn h1 hbc).symm h3
          · unfold midB; rw [hab, H.up.refl a ha]; rfl
          · intro y hy hp
            unfold midB at hp ⊢
            rw [Bool.and_eq_true] at hp ⊢
            exact ⟨H.up.trans a c y ha hcn h1 hp.1, hp.2⟩
        exact ht a c b ha hcn hb (ih a c ha hcn (by omega) h1) (ih c b hcn hb (by omega) h2)

theorem coverPairs_mem {names : List ByteArray} {l : List (Nat × Nat)} {q : ByteArray × ByteArray} (h : q ∈ coverPairs names l) : ∃ c ∈ l, q = (names.getD c.1 ByteArray.empty, names.getD c.2 ByteArray.empty) := by
  unfold coverPairs at h
  rw [List.mem_map] at h
  obtain ⟨c, hc, rfl⟩ := h
  exact ⟨c, hc, rfl⟩

theorem getD_names {names : List ByteArray} {i : Nat} (hi : i < names.length) : names.getD i ByteArray.empty = names[i] := by
  rw [List.getD_eq_getElem?_getD, List.getElem?_eq_getElem hi]; rfl

/-- The covers make the same lattice. -/
theorem covers_same {names : List ByteArray} {pairs : List (ByteArray × ByteArray)} (h : newE names pairs = 0) :
    newL names (coverPairs names (covers (newL names pairs))) = newL names pairs ∧ newE names (coverPairs names (covers (newL names pairs))) = 0 := by
  have H := newL_lat h
  obtain ⟨hc, hp, hr⟩ := newE_zero h
  obtain ⟨hpos, hle⟩ := checkE_zero hc
  have hn : (newL names pairs).names = names := rfl
  have place : ∀ i, i < names.length → placeI names (names.getD i ByteArray.empty) = (i : Int) := fun i hi => by rw [getD_names hi]; exact placeI_get hc hi
  have hmem : ∀ q ∈ covers (newL names pairs), q.1 < names.length ∧ q.2 < names.length ∧ leB (newL names pairs).up q.1 q.2 = true := fun q hq => by
    obtain ⟨h1, h2, h3⟩ := covers_mem hq
    exact ⟨h1, h2, ((coverB_iff H h1 h2).1 h3).2.1⟩
  have hok : (coverPairs names (covers (newL names pairs))).all (pairOk names) = true := by
    rw [List.all_eq_true]
    intro q hq
    obtain ⟨c, hcm, rfl⟩ := coverPairs_mem hq
    obtain ⟨h1, h2, _⟩ := hmem c hcm
    unfold pairOk
    simp only [place _ h1, place _ h2]
    simp
  have hU := bnd_upP names _ hpos hok
  have hW := bnd_warsh _ _ hU
  have hul := upP_len names (coverPairs names (covers (newL names pairs)))
  have hup : (newL names (coverPairs names (covers (newL names pairs)))).up = (newL names pairs).up := by
    refine ext_sets hW H.up.bnd fun a b ha => ⟨fun hab => ?_, fun hab => ?_⟩
    · refine warshK_least names.length _ hul (fun a b => leB (newL names pairs).up a b = true) ?_ (fun a b c ha hb h1 h2 => H.up.trans a b c ha hb h1 h2) names.length (Nat.le_refl _) a b ha hab
      intro a b ha hab
      rcases (upP_le names _ hpos a b ha).1 hab with rfl | ⟨q, hq, h1, h2⟩
      · exact H.up.refl a ha
      · obtain ⟨c, hcm, rfl⟩ := coverPairs_mem hq
        obtain ⟨g1, g2, g3⟩ := hmem c hcm
        simp only [place _ g1, place _ g2, Int.toNat_natCast] at h1 h2
        rw [← h1, ← h2]; exact g3
    · have hb : b < names.length := H.up.lt_of hab
      have := chain H (fun a b => leB (warsh names.length (upP names (coverPairs names (covers (newL names pairs))))) a b = true)
        (fun a ha => warshK_more _ _ hul names.length a a ha ((upP_le names _ hpos a a ha).2 (.inl rfl)))
        (fun a b c ha hb _ h1 h2 => warshK_through names.length _ hul names.length (Nat.le_refl _) b hb a c ha h1 h2)
        (fun q hq => by
          obtain ⟨g1, g2, _⟩ := hmem q hq
          refine warshK_more _ _ hul names.length q.1 q.2 g1 ((upP_le names _ hpos q.1 q.2 g1).2 (.inr ⟨_, List.mem_map.2 ⟨q, hq, rfl⟩, ?_, ?_⟩))
          · simp only [place _ g1]; simp
          · simp only [place _ g2]; simp)
      exact this _ a b ha hb (Nat.le_refl _) hab
  have hL : newL names (coverPairs names (covers (newL names pairs))) = newL names pairs := by
    have h2 : (newL names (coverPairs names (covers (newL names pairs)))).down = (newL names pairs).down := by
      show downs _ (newL names (coverPairs names (covers (newL names pairs)))).up = downs _ (newL names pairs).up
      rw [hup]
    generalize e1 : newL names (coverPairs names (covers (newL names pairs))) = M at *
    generalize e2 : newL names pairs = K at *
    have h3 : M.names = K.names := by rw [← e1, ← e2]; rfl
    cases M; cases K
    simp only at h3 hup h2
    subst h3 hup h2; rfl
  refine ⟨hL, ?_⟩
  unfold newE
  rw [if_neg (by rw [hc]; simp), if_neg (by rw [hok]; simp), hL, if_neg (by rw [hr]; simp)]

/-- Each pair that was handed in stands. -/
theorem pairs_stand {names : List ByteArray} {pairs : List (ByteArray × ByteArray)} (h : newE names pairs = 0) {q : ByteArray × ByteArray} (hq : q ∈ pairs) : belowB (newL names pairs) (placeI names q.1) (placeI names q.2) = true := by
  have H := newL_lat h
  obtain ⟨hc, hp, hr⟩ := newE_zero h
  obtain ⟨hpos, hle⟩ := checkE_zero hc
  have h1 := List.all_eq_true.1 hp q hq
  unfold pairOk at h1
  rw [Bool.and_eq_true, decide_eq_true_eq, decide_eq_true_eq] at h1
  have l1 := placeI_lt names q.1 hpos
  have l2 := placeI_lt names q.2 hpos
  obtain ⟨a, ha⟩ := Int.eq_ofNat_of_zero_le h1.1
  obtain ⟨b, hb⟩ := Int.eq_ofNat_of_zero_le h1.2
  rw [ha] at l1 ⊢; rw [hb] at l2 ⊢
  have l1 : a < names.length := by omega
  have l2 : b < names.length := by omega
  rw [belowB_nat (L := newL names pairs) l1 l2]
  refine warshK_more names.length _ (upP_len _ _) names.length a b l1 ((upP_le names pairs hpos a b l1).2 (.inr ⟨q, hq, ?_, ?_⟩))
  · rw [ha]; rfl
  · rw [hb]; rfl

structure CovF (names : List ByteArray) (pairs : List (ByteArray × ByteArray)) (L : LatD) : Prop where
  nm : L.names = names
  lat : IsLat L
  stand : ∀ (k : Nat) (h : k < pairs.length), belowB L (placeI L.names pairs[k].1) (placeI L.names pairs[k].2) = true
  cov : ∀ (k : Nat) (h : k < (covers L).length), (covers L)[k].1 ≠ (covers L)[k].2 ∧ belowB L ((covers L)[k].1 : Int) ((covers L)[k].2 : Int) = true ∧ (covers L)[k].1 < names.length ∧ (covers L)[k].2 < names.length
  same : newL names (coverPairs names (covers L)) = L
  ok : newE names (coverPairs names (covers L)) = 0

theorem CovF.of {names : List ByteArray} {pairs : List (ByteArray × ByteArray)} (h : newE names pairs = 0) : CovF names pairs (newL names pairs) := by
  have H := newL_lat h
  refine ⟨rfl, H, fun k hk => pairs_stand h (List.getElem_mem hk), fun k hk => ?_, (covers_same h).1, (covers_same h).2⟩
  obtain ⟨h1, h2, h3⟩ := covers_mem (List.getElem_mem hk)
  have h4 := (coverB_iff H h1 h2).1 h3
  exact ⟨h4.1, by rw [belowB_nat h1 h2]; exact h4.2.1, h1, h2⟩
end Go.Proofs.YtckpffkofeoinaaGreatDoor

/- Print: the lines of a policy, walked. -/
namespace Go.Proofs.YtckpffkofeoinaaGreatDoor
open Go.RowKit Go.Maps

/-- The lines of Print. -/
def nameAt (r : RS) (i : Nat) : ByteArray := r.names.getD i ByteArray.empty
def levelN (r : RS) (c : ByteArray) : Nat := (ofAt r.of c).getD 0
def lineN (s : ByteArray) : List UInt8 := lineP [bLevel, s]
def lineC (r : RS) (c : Nat × Nat) : List UInt8 := lineP [bBelow, nameAt r c.1, nameAt r c.2]
def lineX (r : RS) (c : ByteArray) : List UInt8 := lineP [bChannel, c, nameAt r (levelN r c)]
def covs (r : RS) : List (Nat × Nat) := covers (newL r.names r.below)
def printN (r : RS) (k : Nat) : List UInt8 := (r.names.take k).flatMap lineN
def printC (r : RS) (k : Nat) : List UInt8 := ((covs r).take k).flatMap (lineC r)
def printX (r : RS) (k : Nat) : List UInt8 := ((chansL r).take k).flatMap (lineX r)
def printB (r : RS) : List UInt8 := r.names.flatMap lineN ++ ((covs r).flatMap (lineC r) ++ (chansL r).flatMap (lineX r))

theorem flat_succ {α : Type} (f : α → List UInt8) (l : List α) {k : Nat} (h : k < l.length) : (l.take (k + 1)).flatMap f = (l.take k).flatMap f ++ f l[k] := by
  rw [List.take_succ_eq_append_getElem h, List.flatMap_append]; simp
theorem flat_le {α : Type} (f : α → List UInt8) (l : List α) (k : Nat) : ((l.take k).flatMap f).length ≤ (l.flatMap f).length := by
  conv => rhs; rw [← List.take_append_drop k l, List.flatMap_append, List.length_append]
  omega

/-! ### channels -/
theorem ofAt_iff {l : List (ByteArray × Nat)} (h : (l.map (·.1)).Nodup) {c : ByteArray} {n : Nat} : ofAt l c = some n ↔ (c, n) ∈ l := by
  refine ⟨ofAt_mem, fun hm => ?_⟩
  induction l with
  | nil => simp at hm
  | cons q l ih =>
    rw [List.map_cons, List.nodup_cons] at h
    unfold ofAt
    rcases List.mem_cons.1 hm with rfl | hm
    · rw [if_pos rfl]
    · have hne : ¬ q.1 = c := fun e => h.1 (by rw [e]; exact List.mem_map.2 ⟨_, hm, rfl⟩)
      rw [if_neg hne]; exact ih h.2 hm

theorem mem_chansL {r : RS} {c : ByteArray} : c ∈ chansL r ↔ c ∈ r.of.map (·.1) := by
  unfold chansL chansB
  rw [List.mem_map]
  constructor
  · rintro ⟨x, hx, rfl⟩
    have hx2 := (List.mergeSort_perm _ Go.leB).mem_iff.1 hx
    obtain ⟨q, hq, rfl⟩ := List.mem_map.1 hx2
    rw [mkB_data]; exact List.mem_map.2 ⟨q, hq, rfl⟩
  · intro h
    obtain ⟨q, hq, rfl⟩ := List.mem_map.1 h
    exact ⟨q.1.data.toList, (List.mergeSort_perm _ Go.leB).mem_iff.2 (List.mem_map.2 ⟨q, hq, rfl⟩), mkB_data _⟩

theorem chansL_perm (r : RS) : (chansL r).Perm (r.of.map (·.1)) := by
  unfold chansL chansB
  have h := (List.mergeSort_perm (r.of.map (·.1.data.toList)) Go.leB).map mkB
  refine h.trans ?_
  rw [List.map_map]
  refine List.Perm.of_eq (List.map_congr_left fun q _ => ?_)
  exact mkB_data _

theorem levelN_of {r : RS} {c : ByteArray} (hc : c ∈ chansL r) : ofAt r.of c = some (levelN r c) := by
  have h := ofAt_isSome.2 (mem_chansL.1 hc)
  unfold levelN
  cases e : ofAt r.of c with
  | none => rw [e] at h; cases h
  | some n => rfl

theorem levelN_lt {r : RS} (hG : r.Good) {c : ByteArray} (hc : c ∈ chansL r) : levelN r c < r.names.length ∧ identOk c.data.toList = true := by
  have := hG.chans _ (ofAt_mem (levelN_of hc))
  exact ⟨this.2, this.1⟩

theorem ident_len {l : List UInt8} (h : identOk l = true) : l.length ≤ 20 := by
  unfold identOk at h
  simp only [Bool.and_eq_true, decide_eq_true_eq] at h
  exact h.2.1

/-- Two cells of a row of pairs. -/
theorem Rd.pair {w : World} {A : Option Addr} {l : List (Nat × Nat)} (h : Rd w A (pairsV l)) {k : Nat} (hk : k < l.length) :
    ∃ g o, A = some ⟨g, o, none⟩ ∧ w.cell? ⟨g, o + k * 2, none⟩ = some (.int .i64 (l[k].1 : Int)) ∧ w.cell? ⟨g, o + k * 2 + 1, none⟩ = some (.int .i64 (l[k].2 : Int)) := by
  obtain ⟨a1, a2⟩ := pairsV_at l hk
  obtain ⟨g, o, rfl, cp1⟩ := h.at a1
  obtain ⟨g', o', e1, cp2⟩ := h.at a2
  obtain ⟨rfl, rfl⟩ : g' = g ∧ o' = o := by simpa using e1.symm
  rw [← Nat.add_assoc] at cp2
  exact ⟨g', o', rfl, cp1, cp2⟩

/-- The builder in block w.heap.size, and nothing older has turned. -/
structure PrSt (w : World) (bs : List UInt8) (wr : World) : Prop where
  isB : IsB w.heap.size w.heap.size (Lib.byteCells bs) wr
  bel : Below w.heap.size w wr

theorem PrSt.below {w wr w' : World} {bs : List UInt8} (h : PrSt w bs wr) (hb : Below wr.heap.size wr w') : PrSt w bs w' :=
  ⟨IsB.below h.isB hb, h.bel.trans (hb.mono h.bel.size)⟩

/-- Rows that are none of bytes stand. -/
def RowsKept (w w' : World) : Prop := ∀ (base e size n : Nat) (v : Value) (xs : List Value), e ≠ 5 → e ≠ 73 → w.ownsRow base e size v n xs → w'.ownsRow base e size v n xs

theorem RowsKept.below {w w' : World} (hb : Below w.heap.size w w') : RowsKept w w' := fun _ _ _ _ _ _ _ _ h => owns_below h hb

/-- A line is written. -/
theorem pst_line {w wr : World} {bs : List UInt8} (h : PrSt w bs wr) (ws : List ByteArray) (n : Nat) (hn : ws.length = n) (hn2 : n ≤ 1000) (hlen : bs.length + (lineP ws).length ≤ 140737488355328) (cs : Array Value) (hcs : cs = (ws.map Value.string).toArray) :
    Calls Tryz.prog 29 #[.slice (some ⟨wr.heap.size, 0, none⟩) n n, .pointer (some ⟨w.heap.size, 0, none⟩)] (wr.alloc (.cells cs 9)) fun e w' => e = .returned (.tuple #[]) ∧ Hid (PrSt w (bs ++ lineP ws) w') ∧ Hid (RowsKept wr w') ∧ Hid (wr.heap.size ≤ w'.heap.size) := by
  subst hcs
  have ha : Below wr.heap.size wr (wr.alloc (.cells (ws.map Value.string).toArray 9)) := (Below.refl _ _).alloc (Nat.le_refl _) _
  have hP := h.below ha
  refine (pline_any w.heap.size w.heap.size wr.heap.size n ws bs _ hP.isB hP.bel.size hn ?_ (by simp) hlen hn2).mono ?_
  · intro j x hj
    rw [Nat.zero_add]
    rw [Lib.cell_of_heap (heap_alloc_new wr (.cells (ws.map Value.string).toArray 9 (0, 0)))]
    simp [hj]
  · rintro e w' ⟨rfl, h1, h2, h3⟩
    refine ⟨rfl, ⟨h1, hP.bel.trans h2⟩, ?_, ?_⟩
    · intro base e size n v xs he1 he2 ho
      have ho2 := owns_below ho ha
      obtain ⟨cs, hb⟩ := IsB.block hP.isB
      exact owns_others ho2 h3 he1 (owns_ne ho2 hb (Ne.symm he2))
    · exact Nat.le_trans ha.size h2.size


set_option maxRecDepth 100000 in
set_option maxHeartbeats 4000000 in
theorem print_any (p : Nat) (r : RS) (w : World) (hP : Pol w p r) (hG : r.Good) (hsz : r.of.length ≤ 1000000) (hlen : (printB r).length ≤ 1000000) :
    Calls Tryz.prog 13 #[.pointer (some ⟨p, 0, none⟩)] w fun e w' => e = .returned (.string (mkB (printB r))) ∧ Below w.heap.size w w' := by
  have hnd := hG.each
  have HP := Lib.hid hP; have HG := Lib.hid hG; have HND := Lib.hid hnd; have HLEN := Lib.hid hlen
  obtain ⟨l, b, h1, h2, h3, h4⟩ := hP
  obtain ⟨W0, hW0⟩ : ∃ W0, W0 = w.alloc (.cells #[.pointer none, .slice none 0 0] 73) := ⟨_, rfl⟩
  have hb0 : Below w.heap.size w W0 := by rw [hW0]; exact (Below.refl _ w).alloc (Nat.le_refl _) _
  have c0 : W0.cell? ⟨p, 0, none⟩ = some (.pointer (some ⟨l, 0, none⟩)) := by rw [hb0.cell (lt_of_block h1)]; simp [World.cell?, h1]
  have HS0 : Hid (PrSt w [] W0) := ⟨by rw [hW0]; exact Lib.IsBuilderF.of (Lib.fresh_isBuilder _ _ w), hb0⟩
  have HNM : Hid (Calls Tryz.prog 16 #[.pointer (some ⟨l, 0, none⟩)] W0 fun e w' => ∃ v', e = .returned v' ∧ Hid (w'.ownsRow W0.heap.size 9 1 v' r.names.length (r.names.map Value.string)) ∧ Below W0.heap.size W0 w') := names_any l _ W0 (h2.below hb0)
  have HCM : Hid (∀ wr, Below w.heap.size w wr → Calls Tryz.prog 32 #[.pointer (some ⟨l, 0, none⟩)] wr fun e w' => ∃ v', e = .returned v' ∧ Hid (w'.ownsRow wr.heap.size 82 2 v' (covs r).length (pairsV (covs r))) ∧ Below wr.heap.size wr w') := fun wr hb => covers_any l _ wr (h2.below hb)
  have HX : Hid (∀ wr, Below w.heap.size w wr → Calls Tryz.prog 12 #[.pointer (some ⟨p, 0, none⟩)] wr fun e w' => ∃ v', e = .returned v' ∧ Hid (w'.ownsRow wr.heap.size 9 1 v' (chansL r).length ((chansL r).map Value.string)) ∧ Below wr.heap.size wr w') := fun wr hb => channels_any p r wr (HP.out.below hb) HND.out hsz
  have HC : Hid (∀ wr, Below w.heap.size w wr → wr.cell? ⟨p, 0, none⟩ = some (.pointer (some ⟨l, 0, none⟩)) ∧ wr.cell? ⟨p, 1, none⟩ = some (.map (some b))) := fun wr hb => by
    rw [hb.cell (lt_of_block h1), hb.cell (lt_of_block h1)]; simp [World.cell?, h1]
  have HOF : Hid (∀ wr, Below w.heap.size w wr → OfIs wr b r.of) := fun wr hb => h3.below hb
  have hnl : r.names.length ≤ 16 := by obtain ⟨vn, vu, vd, d, vj, vm, _, _, _, _, _, ok⟩ := h2; exact ok.le
  clear h1 h2 h3 h4 hnd hlen hb0 hG
  subst hW0
  go_enter Tryz.func13, Tryz.ntmps13
  go_wp2_with (go_at_call 16; refine HNM.out.mono ?_; rintro e w1 ⟨v1, rfl, HO, hb1⟩; have HS1 := Lib.hid (HS0.out.below hb1); have HO1 := Lib.hid (owns_base HO.out HS0.out.bel.size); clear hb1 HO; obtain ⟨an, cn, rfl, hn1, hn2, hn3⟩ := owns_form HO1.out; clear hn3)
  clear HNM HS0 c0
  go_loopw [20] (fun i wr => ∃ k : Nat, k ≤ r.names.length ∧ i = .int .i64 k ∧ Hid (PrSt w (printN r k) wr) ∧ Hid (wr.ownsRow w.heap.size 9 1 (.slice an r.names.length cn) r.names.length (r.names.map Value.string))) (fun i _ => r.names.length - (intOf i).toNat)
  case atStart => exact ⟨0, Nat.zero_le _, rfl, HS1, HO1⟩
  case round =>
    clear HS1 HO1
    obtain ⟨k, hk, rfl, HSk, HOk⟩ := hrel
    by_cases hlt : k < r.names.length
    · obtain ⟨g, o, rfl, hc⟩ := (Rd.of_owns HOk.out).at (j := k) (v := Value.string r.names[k]) (by simp [hlt])
      have hnx : printN r (k + 1) = printN r k ++ lineP [bLevel, r.names[k]] := flat_succ _ _ hlt
      have hll : (printN r k).length + (lineP [bLevel, r.names[k]]).length ≤ 140737488355328 := by
        rw [← List.length_append, ← hnx]
        have h1 := flat_le lineN r.names (k + 1)
        have h2 := HLEN.out
        unfold printB at h2
        rw [List.length_append] at h2
        unfold printN
        omega
      have HNX := Lib.hid hnx; have HLL := Lib.hid hll; clear hnx hll
      generalize r.names[k] = s at *
      go_wp2_with (go_at_call 29; refine (pst_line HSk.out [bLevel, s] 2 rfl (by omega) HLL.out _ rfl).mono ?_; rintro e w2 ⟨rfl, HS2, HK2, hz2⟩; clear hz2)
      go_roundw
      case rel => exact ⟨k + 1, by omega, by go_num, by rw [HNX.out]; exact HS2, HK2.out _ _ _ _ _ _ (by decide) (by decide) HOk.out⟩
      case measure => simp [intOf]; omega
    · obtain rfl : k = r.names.length := by omega
      obtain ⟨cc0, cc1⟩ := HC.out _ HSk.out.bel
      go_wp2_with (go_at_call 32; refine (HCM.out _ HSk.out.bel).mono ?_; rintro e w3 ⟨v3, rfl, HO, hb3⟩; have HS3 := Lib.hid (HSk.out.below hb3); have HO3 := Lib.hid (owns_below HOk.out hb3); have HC3 := Lib.hid (owns_base HO.out HSk.out.bel.size); clear hb3 HO; obtain ⟨ac, cc, rfl, hcc1, hcc2, hcc3⟩ := owns_form HC3.out; clear hcc3)
      clear cc0 cc1 HSk HOk HCM
      have hcn : (covs r).length ≤ 1000000 := by have := coverTo_len (newL r.names r.below) r.names.length; have h2 : r.names.length * (newL r.names r.below).names.length ≤ 16 * 16 := Nat.mul_le_mul hnl hnl; show (coverTo (newL r.names r.below) r.names.length).length ≤ _; omega
      obtain ⟨nC, hnC⟩ : ∃ n, (covs r).length = n := ⟨_, rfl⟩
      rw [hnC] at HC3 hcc1 hcn ⊢
      have HNC := Lib.hid hnC; clear hnC
      go_loopw [35] (fun i wr => ∃ k : Nat, k ≤ nC ∧ i = .int .i64 k ∧ Hid (PrSt w (printN r r.names.length ++ printC r k) wr) ∧ Hid (wr.ownsRow w.heap.size 9 1 (.slice an r.names.length cn) r.names.length (r.names.map Value.string)) ∧ Hid (wr.ownsRow w.heap.size 82 2 (.slice ac nC cc) nC (pairsV (covs r)))) (fun i _ => nC - (intOf i).toNat)
      case atStart => exact ⟨0, Nat.zero_le _, rfl, by simpa [printC] using HS3, HO3, HC3⟩
      case round =>
        clear HS3 HO3 HC3
        obtain ⟨k, hk, rfl, HSk, HOk, HCk⟩ := hrel
        by_cases hlt : k < nC
        · have hlt' : k < (covs r).length := by rw [HNC.out]; exact hlt
          obtain ⟨g, o, rfl, d1, d2⟩ := (Rd.of_owns HCk.out).pair hlt'
          obtain ⟨m1, m2, _⟩ := covers_mem (List.getElem_mem hlt')
          have hnx : printC r (k + 1) = printC r k ++ lineP [bBelow, nameAt r (covs r)[k].1, nameAt r (covs r)[k].2] := flat_succ _ _ hlt'
          have hll : (printN r r.names.length ++ printC r k).length + (lineP [bBelow, nameAt r (covs r)[k].1, nameAt r (covs r)[k].2]).length ≤ 140737488355328 := by
            rw [← List.length_append, List.append_assoc, ← hnx]
            have h1 := flat_le (lineC r) (covs r) (k + 1)
            have h2 := HLEN.out
            unfold printB at h2
            rw [List.length_append, List.length_append] at h2
            rw [List.length_append]
            unfold printN printC
            rw [List.take_length]
            omega
          have HNX := Lib.hid hnx; have HLL := Lib.hid hll; clear hnx hll
          have hm1 : (covs r)[k].1 < r.names.length := m1
          have hm2 : (covs r)[k].2 < r.names.length := m2
          clear m1 m2
          generalize (covs r)[k].1 = q1 at *
          generalize (covs r)[k].2 = q2 at *
          obtain ⟨ga, oa, rfl, n1⟩ := (Rd.of_owns HOk.out).at (j := q1) (v := .string (nameAt r q1)) (by rw [List.getElem?_map, List.getElem?_eq_getElem hm1]; unfold nameAt; rw [List.getD_eq_getElem?_getD, List.getElem?_eq_getElem hm1]; rfl)
          obtain ⟨ga', oa', e1, n2⟩ := (Rd.of_owns HOk.out).at (j := q2) (v := .string (nameAt r q2)) (by rw [List.getElem?_map, List.getElem?_eq_getElem hm2]; unfold nameAt; rw [List.getD_eq_getElem?_getD, List.getElem?_eq_getElem hm2]; rfl)
          obtain ⟨rfl, rfl⟩ : ga' = ga ∧ oa' = oa := by simpa using e1.symm
          generalize nameAt r q1 = t1 at *
          generalize nameAt r q2 = t2 at *
          clear e1
          go_upto_region 12 with fail
          have hba : Below wr.heap.size wr (wr.alloc (.cells #[.int .i64 (q1 : Int), .int .i64 (q2 : Int)] 82)) := (Below.refl _ _).alloc (Nat.le_refl _) _
          have e1 : (wr.alloc (.cells #[.int .i64 (q1 : Int), .int .i64 (q2 : Int)] 82)).cell? ⟨wr.heap.size, 0, none⟩ = some (.int .i64 (q1 : Int)) := by
            rw [Lib.cell_of_heap (heap_alloc_new wr (.cells #[.int .i64 (q1 : Int), .int .i64 (q2 : Int)] 82 (0, 0)))]; rfl
          have e2 : (wr.alloc (.cells #[.int .i64 (q1 : Int), .int .i64 (q2 : Int)] 82)).cell? ⟨wr.heap.size, 1, none⟩ = some (.int .i64 (q2 : Int)) := by
            rw [Lib.cell_of_heap (heap_alloc_new wr (.cells #[.int .i64 (q1 : Int), .int .i64 (q2 : Int)] 82 (0, 0)))]; rfl
          have n3 := (hba.cell (World.block_lt_of_cell? wr _ n1)).trans n1
          have n4 := (hba.cell (World.block_lt_of_cell? wr _ n2)).trans n2
          have HSa := Lib.hid (HSk.out.below hba); have HOa := Lib.hid (owns_below HOk.out hba); have HCa := Lib.hid (owns_below HCk.out hba)
          clear HSk HOk HCk hba n1 n2 d1 d2
          generalize wr.heap.size = bw at *
          generalize wr.alloc (.cells #[.int .i64 (q1 : Int), .int .i64 (q2 : Int)] 82) = wa at *
          have HSd : Hid (PrSt w (printN r r.names.length ++ printC r k) wa.drew) := HSa.out.below ((Below.refl _ _).drew)
          have HOd : Hid (wa.drew.ownsRow w.heap.size 9 1 (.slice (some ⟨ga', oa', none⟩) r.names.length cn) r.names.length (r.names.map Value.string)) := HOa
          have HCd : Hid (wa.drew.ownsRow w.heap.size 82 2 (.slice (some ⟨g, o, none⟩) nC cc) nC (pairsV (covs r))) := HCa
          clear HSa HOa HCa
          go_region_with (go_at_call 29; refine (pst_line HSd.out [bBelow, t1, t2] 3 rfl (by omega) HLL.out _ rfl).mono ?_; rintro e w2 ⟨rfl, HS2, HK2, hz2⟩; clear hz2)
          all_goals
            have HO2 : Hid (w2.ownsRow w.heap.size 9 1 (.slice (some ⟨ga', oa', none⟩) r.names.length cn) r.names.length (r.names.map Value.string)) := HK2.out _ _ _ _ _ _ (by decide) (by decide) HOd.out
            have HC2 : Hid (w2.ownsRow w.heap.size 82 2 (.slice (some ⟨g, o, none⟩) nC cc) nC (pairsV (covs r))) := HK2.out _ _ _ _ _ _ (by decide) (by decide) HCd.out
            clear HOd HCd HSd HK2
            go_wp2
            go_roundw
            case rel => exact ⟨k + 1, by omega, by go_num, by rw [HNX.out, ← List.append_assoc]; exact HS2, HO2, HC2⟩
            case measure => simp [intOf]; omega
        · obtain rfl : k = nC := by omega
          obtain ⟨cc0, cc1⟩ := HC.out _ HSk.out.bel
          go_wp2_with (go_at_call 12; refine (HX.out _ HSk.out.bel).mono ?_; rintro e w4 ⟨v4, rfl, HO, hb4⟩; have HS4 := Lib.hid (HSk.out.below hb4); have HO4 := Lib.hid (owns_below HOk.out hb4); have HX4 := Lib.hid (owns_base HO.out HSk.out.bel.size); clear hb4 HO; obtain ⟨ax, cx, rfl, hcx1, hcx2, hcx3⟩ := owns_form HX4.out; clear hcx3)
          clear cc0 cc1 HSk HOk HCk HX hcc1 hcc2
          have hxn : (chansL r).length ≤ 1000000 := by rw [(chansL_perm r).length_eq, List.length_map]; exact hsz
          have hE : Hid (printN r r.names.length ++ printC r k = r.names.flatMap lineN ++ (covs r).flatMap (lineC r)) := by
            show _ = _
            unfold printN printC
            rw [← HNC.out, List.take_length, List.take_length]
          rw [hE.out] at HS4
          clear hE
          obtain ⟨nX, hnX⟩ : ∃ n, (chansL r).length = n := ⟨_, rfl⟩
          rw [hnX] at HX4 hcx1 hxn ⊢
          have HNX := Lib.hid hnX; clear hnX
          go_loopw [56] (fun i wr => ∃ k : Nat, k ≤ nX ∧ i = .int .i64 k ∧ Hid (PrSt w (r.names.flatMap lineN ++ (covs r).flatMap (lineC r) ++ printX r k) wr) ∧ Hid (wr.ownsRow w.heap.size 9 1 (.slice an r.names.length cn) r.names.length (r.names.map Value.string)) ∧ Hid (wr.ownsRow w.heap.size 9 1 (.slice ax nX cx) nX ((chansL r).map Value.string))) (fun i _ => nX - (intOf i).toNat)
          case atStart => exact ⟨0, Nat.zero_le _, rfl, by simpa [printX] using HS4, HO4, HX4⟩
          case round =>
            clear HS4 HO4 HX4
            obtain ⟨k5, hk5, rfl, HSk, HOk, HXk⟩ := hrel
            by_cases hlt : k5 < nX
            · have hlt' : k5 < (chansL r).length := by rw [HNX.out]; exact hlt
              obtain ⟨g, o, rfl, d1⟩ := (Rd.of_owns HXk.out).at (j := k5) (v := Value.string (chansL r)[k5]) (by simp [hlt'])
              have hmem := List.getElem_mem hlt'
              have hnx : printX r (k5 + 1) = printX r k5 ++ lineP [bChannel, (chansL r)[k5], nameAt r (levelN r (chansL r)[k5])] := flat_succ _ _ hlt'
              have hll : (r.names.flatMap lineN ++ (covs r).flatMap (lineC r) ++ printX r k5).length + (lineP [bChannel, (chansL r)[k5], nameAt r (levelN r (chansL r)[k5])]).length ≤ 140737488355328 := by
                rw [← List.length_append, List.append_assoc, ← hnx]
                have h1 := flat_le (lineX r) (chansL r) (k5 + 1)
                have h2 := HLEN.out
                unfold printB at h2
                rw [List.length_append, List.length_append] at h2
                rw [List.length_append, List.length_append]
                unfold printX
                omega
              have HNY := Lib.hid hnx; have HLL := Lib.hid hll; clear hnx hll
              obtain ⟨hlv, hid⟩ := levelN_lt HG.out hmem
              have hof := levelN_of hmem
              have hcs : (chansL r)[k5].size ≤ maxLen := by have := ident_len hid; have e : (chansL r)[k5].data.toList.length = (chansL r)[k5].size := by simp
                                                            unfold maxLen; omega
              obtain ⟨D, hD1, hD2⟩ := HOF.out _ HSk.out.bel
              have hD3 := (hD2 (chansL r)[k5]).2
              rw [hof] at hD3
              obtain ⟨cc0, cc1⟩ := HC.out _ HSk.out.bel
              have hkey := keyL_of hcs
              clear hD2 hid hmem hcs hof
              generalize (chansL r)[k5] = ch at *
              generalize levelN r ch = lv at *
              have HD := Lib.hid hD1; have HKEY := Lib.hid hkey
              have HV : Hid (∀ z : Int, D.atKey (keyL ch) (.lit (.int .i64 0)) = .lit (.int .i64 z) → z = (lv : Int)) := fun z hz => by
                rw [hD3] at hz
                injection hz with hz
                injection hz with _ hz
                exact hz.symm
              obtain ⟨ga, oa, rfl, n1⟩ := (Rd.of_owns HOk.out).at (j := lv) (v := .string (nameAt r lv)) (by rw [List.getElem?_map, List.getElem?_eq_getElem hlv]; unfold nameAt; rw [List.getD_eq_getElem?_getD, List.getElem?_eq_getElem hlv]; rfl)
              generalize nameAt r lv = t1 at *
              clear hD1 hD3 hkey
              go_wp2_with (first
                | (at_lookup; refine wpList_lookup_own_int _ rfl _ _ 47 rfl 9 3 .i64 klaw Tryz.underlying47 Tryz.underlying3 (zeroI _) b _ D rfl HD.out _ _ rfl HKEY.out ?_; intro z hat hwc; obtain rfl := HV.out z hat; clear hat hwc)
                | (go_at_call 29; refine (pst_line HSk.out [bChannel, ch, t1] 3 rfl (by omega) HLL.out _ rfl).mono ?_; rintro e w2 ⟨rfl, HS2, HK2, hz2⟩; clear hz2))
              go_roundw
              case rel => exact ⟨k5 + 1, by omega, by go_num, by rw [HNY.out, ← List.append_assoc]; exact HS2, HK2.out _ _ _ _ _ _ (by decide) (by decide) HOk.out, HK2.out _ _ _ _ _ _ (by decide) (by decide) HXk.out⟩
              case measure => simp [intOf]; omega
            · obtain rfl : k5 = nX := by omega
              have hfin : r.names.flatMap lineN ++ (covs r).flatMap (lineC r) ++ printX r k5 = printB r := by
                unfold printX printB
                rw [← HNX.out, List.take_length, List.append_assoc]
              rw [hfin] at HSk
              clear hfin
              go_wp2_with (go_at_call 33; refine (Tryz.Builder_String_any_k w.heap.size w.heap.size (printB r) _ HSk.out.isB HSk.out.bel.size).mono ?_; rintro e w6 ⟨rfl, _, hb6, _⟩; have HB6 := Lib.hid (HSk.out.bel.trans hb6); clear hb6)
              go_ret
              exact ⟨rfl, HB6.out⟩
end Go.Proofs.YtckpffkofeoinaaGreatDoor

/- What is printed is read as what it was: the plain part. -/
namespace Go.Proofs.YtckpffkofeoinaaGreatDoor

/-! ### clean words -/
/-- Neither a blank, nor a line feed, nor a remark's sign. -/
def cleanC (c : UInt8) : Bool := c != 32 && (c != 9 && (c != 35 && c != 10))
def Clean (l : List UInt8) : Prop := l ≠ [] ∧ ∀ c ∈ l, cleanC c = true

set_option maxRecDepth 20000 in
theorem sign_clean : ∀ n : Fin 256, isSign (UInt8.ofFin n) = true → cleanC (UInt8.ofFin n) = true := by decide
set_option maxRecDepth 100000 in
theorem part_clean : ∀ n : Fin 256, isPart (UInt8.ofFin n) = true → cleanC (UInt8.ofFin n) = true := by decide +kernel

theorem ok_clean {s : ByteArray} (h : okS s = true) : Clean s.data.toList := by
  unfold okS nameOk at h
  simp only [Bool.and_eq_true, decide_eq_true_eq] at h
  exact ⟨h.1, fun c hc => sign_clean c.toFin (List.all_eq_true.1 h.2.2.2 c hc)⟩
theorem ok_len {s : ByteArray} (h : okS s = true) : s.size ≤ 20 := by
  unfold okS nameOk at h
  simp only [Bool.and_eq_true, decide_eq_true_eq] at h
  have := h.2.1
  simpa using this
theorem ident_clean {l : List UInt8} (h : identOk l = true) : Clean l := by
  unfold identOk at h
  simp only [Bool.and_eq_true, decide_eq_true_eq] at h
  exact ⟨h.1, fun c hc => part_clean c.toFin (List.all_eq_true.1 h.2.2.1 c hc)⟩
theorem wordsGo_clean : ∀ (a : List UInt8) (cur rest : List UInt8), (∀ c ∈ a, cleanC c = true) → wordsGo cur (a ++ rest) = wordsGo (cur ++ a) rest
  | [], cur, rest, _ => by simp
  | c :: a, cur, rest, h => by
    have hc := h c (by simp)
    unfold cleanC at hc
    simp only [Bool.and_eq_true, bne_iff_ne, ne_eq] at hc
    rw [List.cons_append]
    conv => lhs; unfold wordsGo
    have hb : blankC c = false := by unfold blankC; simp [hc.1, hc.2.1]
    rw [if_neg hc.2.2.1, hb, if_neg (by simp), wordsGo_clean a _ rest fun x hx => h x (by simp [hx])]
    simp

theorem words2 {a b : List UInt8} (ha : Clean a) (hb : Clean b) : wordsL (a ++ 32 :: b) = [a, b] := by
  unfold wordsL
  rw [wordsGo_clean a _ _ ha.2]
  rw [List.nil_append]
  conv => lhs; unfold wordsGo
  rw [if_neg (by decide), if_pos (by decide), if_neg ha.1]
  have := wordsGo_clean b [] [] hb.2
  rw [List.append_nil] at this
  rw [this, List.nil_append]
  conv => lhs; unfold wordsGo
  rw [if_neg hb.1]

theorem words3 {a b c : List UInt8} (ha : Clean a) (hb : Clean b) (hc : Clean c) : wordsL (a ++ 32 :: (b ++ 32 :: c)) = [a, b, c] := by
  have h2 := words2 hb hc
  unfold wordsL at *
  rw [wordsGo_clean a _ _ ha.2, List.nil_append]
  conv => lhs; unfold wordsGo
  rw [if_neg (by decide), if_pos (by decide), if_neg ha.1, h2]

theorem clean10 {l : List UInt8} (h : Clean l) : ∀ c ∈ l, c ≠ 10 := fun c hc => by
  have := h.2 c hc
  unfold cleanC at this
  simp only [Bool.and_eq_true, bne_iff_ne, ne_eq] at this
  exact this.2.2.2

theorem linesL_flat : ∀ (xs : List (List UInt8)) (rest : List UInt8), (∀ x ∈ xs, ∀ c ∈ x, c ≠ 10) → linesL (xs.flatMap (fun x => x ++ [10]) ++ rest) = xs ++ linesL rest
  | [], rest, _ => rfl
  | x :: xs, rest, h => by
    rw [List.flatMap_cons, List.append_assoc, List.append_assoc, List.singleton_append, linesL_cut _ (h x (by simp)), linesL_flat xs rest fun y hy => h y (by simp [hy])]
    rfl

theorem bLevel_clean : Clean bLevel.data.toList := ⟨by decide, by decide⟩
theorem bBelow_clean : Clean bBelow.data.toList := ⟨by decide, by decide⟩
theorem bChannel_clean : Clean bChannel.data.toList := ⟨by decide, by decide⟩

theorem lineP2 (a b : ByteArray) : lineP [a, b] = (a.data.toList ++ 32 :: b.data.toList) ++ [10] := by
  unfold lineP; rw [List.map_cons, List.map_cons, List.map_nil, Lib.join_cons]; simp [Lib.joinTail]
theorem lineP3 (a b c : ByteArray) : lineP [a, b, c] = (a.data.toList ++ 32 :: (b.data.toList ++ 32 :: c.data.toList)) ++ [10] := by
  unfold lineP; rw [List.map_cons, List.map_cons, List.map_cons, List.map_nil, Lib.join_cons]; simp [Lib.joinTail]

theorem clean2_10 {a b : List UInt8} (ha : Clean a) (hb : Clean b) : ∀ c ∈ a ++ 32 :: b, c ≠ 10 := fun c hc => by
  rcases List.mem_append.1 hc with h | h
  · exact clean10 ha c h
  · rcases List.mem_cons.1 h with rfl | h
    · decide
    · exact clean10 hb c h
theorem clean3_10 {a b d : List UInt8} (ha : Clean a) (hb : Clean b) (hd : Clean d) : ∀ c ∈ a ++ 32 :: (b ++ 32 :: d), c ≠ 10 := fun c hc => by
  rcases List.mem_append.1 hc with h | h
  · exact clean10 ha c h
  · rcases List.mem_cons.1 h with rfl | h
    · decide
    · exact clean2_10 hb hd c h

/-! ### a line as Print writes it -/
def txt2 (a b : ByteArray) : List UInt8 := a.data.toList ++ 32 :: b.data.toList
def txt3 (a b c : ByteArray) : List UInt8 := a.data.toList ++ 32 :: (b.data.toList ++ 32 :: c.data.toList)

theorem words_txt2 {a b : ByteArray} (ha : Clean a.data.toList) (hb : Clean b.data.toList) : wordsF (mkB (txt2 a b)) = [a, b] := by
  rw [wordsF_eq, data_mkB, txt2, words2 ha hb]; simp [mkB_data]
theorem words_txt3 {a b c : ByteArray} (ha : Clean a.data.toList) (hb : Clean b.data.toList) (hc : Clean c.data.toList) : wordsF (mkB (txt3 a b c)) = [a, b, c] := by
  rw [wordsF_eq, data_mkB, txt3, words3 ha hb hc]; simp [mkB_data]

/-- The lines of what is printed. -/
def linesN (r : RS) : List (List UInt8) := r.names.map (txt2 bLevel)
def linesC (r : RS) : List (List UInt8) := (covs r).map fun c => txt3 bBelow (nameAt r c.1) (nameAt r c.2)
def linesX (r : RS) : List (List UInt8) := (chansL r).map fun c => txt3 bChannel c (nameAt r (levelN r c))

theorem flat_map_lines {α : Type} (f : α → List UInt8) (l : List α) : (l.map f).flatMap (fun x => x ++ [10]) = l.flatMap fun a => f a ++ [10] := by
  induction l with
  | nil => rfl
  | cons a l ih => rw [List.map_cons, List.flatMap_cons, List.flatMap_cons, ih]

theorem printB_lines (r : RS) : printB r = (linesN r ++ (linesC r ++ linesX r)).flatMap fun x => x ++ [10] := by
  unfold printB linesN linesC linesX
  rw [List.flatMap_append, List.flatMap_append, flat_map_lines, flat_map_lines, flat_map_lines]
  have e1 : lineN = fun a => txt2 bLevel a ++ [10] := by funext a; exact lineP2 _ _
  have e2 : lineC r = fun c => txt3 bBelow (nameAt r c.1) (nameAt r c.2) ++ [10] := by funext a; exact lineP3 _ _ _
  have e3 : lineX r = fun c => txt3 bChannel c (nameAt r (levelN r c)) ++ [10] := by funext a; exact lineP3 _ _ _
  rw [e1, e2, e3]

/-! ### reading it -/
theorem nameAt_ok {r : RS} (hG : r.Good) {i : Nat} (h : i < r.names.length) : okS (nameAt r i) = true ∧ nameAt r i ∈ r.names := by
  unfold nameAt
  rw [List.getD_eq_getElem?_getD, List.getElem?_eq_getElem h]
  exact ⟨hG.ok _ (List.getElem_mem h), List.getElem_mem h⟩

theorem read_names : ∀ (ns : List ByteArray) (q : RS) (k : Nat), (∀ s ∈ ns, okS s = true) → (q.names ++ ns).Nodup →
    ∃ k', linesTo q k (ns.map fun s => mkB (txt2 bLevel s)) = (0, k', { q with names := q.names ++ ns })
  | [], q, k, _, _ => ⟨k, by simp [linesTo]⟩
  | s :: ns, q, k, h, hnd => by
    have hs := h s (by simp)
    have hw := words_txt2 bLevel_clean (ok_clean hs)
    have hn : Lib.containsS q.names s = false := by
      cases hc : Lib.containsS q.names s with
      | false => rfl
      | true =>
        have hm := (Lib.containsS_iff _ _).1 hc
        exact absurd rfl ((List.nodup_append.1 hnd).2.2 s hm s (by simp))
    have hl : lineF q [bLevel, s] = (0, { q with names := q.names ++ [s] }) := by
      unfold lineF
      rw [if_pos (show [bLevel, s].length = 2 from rfl), if_pos (show w0 [bLevel, s] = bLevel from rfl)]
      unfold levelF
      rw [if_neg (show ¬ nameOk (w1 [bLevel, s]).data.toList = false from by show ¬ okS s = false; rw [hs]; simp), if_neg (show ¬ Lib.containsS q.names (w1 [bLevel, s]) = true from by show ¬ Lib.containsS q.names s = true; rw [hn]; simp)]
      rfl
    obtain ⟨k', hk⟩ := read_names ns { q with names := q.names ++ [s] } (k + ((mkB (txt2 bLevel s)).size + 1)) (fun x hx => h x (by simp [hx])) (by simpa using hnd)
    refine ⟨k', ?_⟩
    rw [List.map_cons, linesTo, hw, if_neg (by simp), hl, if_pos rfl]
    simp only
    rw [hk]
    simp

theorem read_covers : ∀ (cs : List (ByteArray × ByteArray)) (q : RS) (k : Nat), (∀ c ∈ cs, okS c.1 = true ∧ okS c.2 = true ∧ c.1 ∈ q.names ∧ c.2 ∈ q.names) →
    ∃ k', linesTo q k (cs.map fun c => mkB (txt3 bBelow c.1 c.2)) = (0, k', { q with below := q.below ++ cs })
  | [], q, k, _ => ⟨k, by simp [linesTo]⟩
  | c :: cs, q, k, h => by
    obtain ⟨h1, h2, h3, h4⟩ := h c (by simp)
    have hw := words_txt3 bBelow_clean (ok_clean h1) (ok_clean h2)
    have c1 := (Lib.containsS_iff _ _).2 h3
    have c2 := (Lib.containsS_iff _ _).2 h4
    have hl : lineF q [bBelow, c.1, c.2] = (0, { q with below := q.below ++ [(c.1, c.2)] }) := by
      unfold lineF
      rw [if_neg (by simp), if_pos (show [bBelow, c.1, c.2].length = 3 from rfl), if_pos (show w0 [bBelow, c.1, c.2] = bBelow from rfl)]
      unfold belowF
      rw [if_neg (show ¬ Lib.containsS q.names (w1 [bBelow, c.1, c.2]) = false from by show ¬ Lib.containsS q.names c.1 = false; rw [c1]; simp),
        if_neg (show ¬ Lib.containsS q.names (w2 [bBelow, c.1, c.2]) = false from by show ¬ Lib.containsS q.names c.2 = false; rw [c2]; simp)]
      rfl
    obtain ⟨k', hk⟩ := read_covers cs { q with below := q.below ++ [(c.1, c.2)] } (k + ((mkB (txt3 bBelow c.1 c.2)).size + 1)) (fun x hx => h x (by simp [hx]))
    refine ⟨k', ?_⟩
    rw [List.map_cons, linesTo, hw, if_neg (by simp), hl, if_pos rfl]
    simp only
    rw [hk]
    simp

theorem read_chans (lv : ByteArray → Nat) : ∀ (cs : List ByteArray) (q : RS) (k : Nat), (∀ s ∈ q.names, okS s = true) → checkE q.names = 0 → (∀ c ∈ cs, identOk c.data.toList = true ∧ lv c < q.names.length) → (cs ++ q.of.map (·.1)).Nodup →
    ∃ k', linesTo q k (cs.map fun c => mkB (txt3 bChannel c (q.names.getD (lv c) ByteArray.empty))) = (0, k', { q with of := (cs.map fun c => (c, lv c)).reverse ++ q.of })
  | [], q, k, _, _, _, _ => ⟨k, by simp [linesTo]⟩
  | c :: cs, q, k, hN, hE, h, hnd => by
    obtain ⟨h1, h2⟩ := h c (by simp)
    have hg : q.names.getD (lv c) ByteArray.empty = q.names[lv c] := by rw [List.getD_eq_getElem?_getD, List.getElem?_eq_getElem h2]; rfl
    have hok : okS (q.names.getD (lv c) ByteArray.empty) = true := by rw [hg]; exact hN _ (List.getElem_mem h2)
    have hw := words_txt3 bChannel_clean (ident_clean h1) (ok_clean hok)
    have hp : Lib.idxOfS q.names (q.names.getD (lv c) ByteArray.empty) = (lv c : Int) := by rw [hg]; exact placeI_get hE h2
    have hof : ofAt q.of c = Option.none := by
      rw [ofAt_none]
      rw [List.cons_append, List.nodup_cons] at hnd
      exact fun hm => hnd.1 (List.mem_append_right _ hm)
    have hl : lineF q [bChannel, c, q.names.getD (lv c) ByteArray.empty] = (0, { q with of := (c, lv c) :: q.of }) := by
      unfold lineF
      rw [if_neg (by simp), if_pos (show [bChannel, c, q.names.getD (lv c) ByteArray.empty].length = 3 from rfl), if_neg (show ¬ w0 [bChannel, c, q.names.getD (lv c) ByteArray.empty] = bBelow from by show ¬ bChannel = bBelow; decide), if_pos (show w0 [bChannel, c, q.names.getD (lv c) ByteArray.empty] = bChannel from rfl)]
      unfold chanF
      have e1 : w1 [bChannel, c, q.names.getD (lv c) ByteArray.empty] = c := rfl
      have e2 : w2 [bChannel, c, q.names.getD (lv c) ByteArray.empty] = q.names.getD (lv c) ByteArray.empty := rfl
      rw [e1, e2, h1, hp, hof, if_neg (by simp), if_neg (by omega), if_neg (by simp)]
      rw [Int.toNat_natCast]
    obtain ⟨k', hk⟩ := read_chans lv cs { q with of := (c, lv c) :: q.of } (k + ((mkB (txt3 bChannel c (q.names.getD (lv c) ByteArray.empty))).size + 1)) hN hE (fun x hx => h x (by simp [hx])) (by
      simp only [List.map_cons]
      have h3 : (cs ++ c :: q.of.map (·.1)).Perm (c :: cs ++ q.of.map (·.1)) := List.perm_middle
      exact h3.nodup_iff.2 hnd)
    refine ⟨k', ?_⟩
    rw [List.map_cons, linesTo, hw, if_neg (by simp), hl, if_pos rfl]
    simp only
    rw [hk]
    simp
end Go.Proofs.YtckpffkofeoinaaGreatDoor

/- Parse, by what is known of its answer. -/
namespace Go.Proofs.YtckpffkofeoinaaGreatDoor
open Go.RowKit Go.Maps

theorem parse_yes (s : ByteArray) (w : World) (hM : MaxL w) (h : (parseE s).1 = 0) :
    Calls Tryz.prog 5 #[.string s] w fun e w' => ∃ p, e = .returned (.tuple #[.pointer (some ⟨p, 0, none⟩), .int .i64 0, .int .i64 0]) ∧ Hid (Pol w' p (readF s).2.2) ∧ Hid (Below w.heap.size w w') := by
  refine (parse_any s w hM).mono ?_
  rintro e w' ⟨hb, ⟨_, p, he, hp⟩ | ⟨h2, _⟩⟩
  · exact ⟨p, he, hp, hb⟩
  · exact absurd h h2

theorem parse_no (s : ByteArray) (w : World) (hM : MaxL w) {c k : Int} (h1 : (parseE s).1 = c) (h2 : (parseE s).2 = k) (hc : c ≠ 0) :
    Calls Tryz.prog 5 #[.string s] w fun e w' => e = .returned (.tuple #[.pointer none, .int .i64 k, .int .i64 c]) ∧ Hid (Below w.heap.size w w') := by
  refine (parse_any s w hM).mono ?_
  rintro e w' ⟨hb, ⟨h, _⟩ | ⟨_, he⟩⟩
  · rw [h] at h1; exact absurd h1.symm hc
  · exact ⟨by rw [he, h1, h2], hb⟩

theorem parse_zero {s : ByteArray} (h : (parseE s).1 = 0) : parseE s = (0, 0) ∧ newE (readF s).2.2.names (readF s).2.2.below = 0 := by
  have key : parseE s = (0, 0) := by
    unfold parseE at h ⊢
    split
    · rename_i h1; rw [if_pos h1] at h; exact absurd h (by decide)
    · rename_i h1
      rw [if_neg h1] at h
      split
      · rename_i h2; rw [if_pos h2] at h; exact absurd h h2
      · rename_i h2
        rw [if_neg h2] at h
        split
        · rename_i h3; rw [if_pos h3] at h; exact absurd h h3
        · rfl
  exact ⟨key, parse_ok key⟩

theorem linesTo_le : ∀ (ls : List ByteArray) (r : RS) (k : Nat), (linesTo r k ls).2.1 ≤ k + (ls.map fun x => x.size + 1).sum
  | [], r, k => by simp [linesTo]
  | l :: ls, r, k => by
    unfold linesTo
    rw [List.map_cons, List.sum_cons]
    split
    · have := linesTo_le ls r (k + (l.size + 1)); omega
    · split
      · have := linesTo_le ls (lineF r (wordsF l)).2 (k + (l.size + 1)); omega
      · simp <;> omega

theorem lines_sum : ∀ (l : List UInt8), ((linesL l).map fun x => x.length + 1).sum = l.length + 1
  | [] => rfl
  | c :: l => by
    have ih := lines_sum l
    rw [linesL_cons]
    split
    · simp [ih]; omega
    · split
      · rename_i e; exact absurd e (linesL_ne l)
      · rename_i e; rw [e] at ih; simp at ih ⊢; omega

theorem linesF_sum (s : ByteArray) : ((linesF s).map fun x => x.size + 1).sum = s.size + 1 := by
  rw [linesF_eq, List.map_map]
  have : (fun x : ByteArray => x.size + 1) ∘ mkB = fun x : List UInt8 => x.length + 1 := by funext x; simp [mkB_size]
  rw [this, lines_sum]; simp

theorem parse_small (s : ByteArray) : 0 ≤ (parseE s).2 ∧ (parseE s).2 ≤ (s.size : Int) + 1 := by
  have h := linesTo_le (linesF s) RS.none 0
  rw [linesF_sum] at h
  have h2 : (readF s).2.1 ≤ s.size + 1 := by unfold readF; omega
  unfold parseE
  repeat' split
  all_goals (constructor <;> simp <;> omega)
end Go.Proofs.YtckpffkofeoinaaGreatDoor

/- What is printed is read as a policy that tells the same, and is short. -/
namespace Go.Proofs.YtckpffkofeoinaaGreatDoor

/-- The policy that is read of what is printed. -/
def backR (r : RS) : RS := ⟨r.names, coverPairs r.names (covs r), ((chansL r).map fun c => (c, levelN r c)).reverse⟩

theorem print_lines (r : RS) (h : ∀ x ∈ linesN r ++ (linesC r ++ linesX r), ∀ c ∈ x, c ≠ 10) : linesF (mkB (printB r)) = (linesN r ++ (linesC r ++ linesX r)).map mkB ++ [mkB []] := by
  rw [linesF_eq, data_mkB, printB_lines]
  have := linesL_flat (linesN r ++ (linesC r ++ linesX r)) [] h
  rw [List.append_nil] at this
  rw [this, List.map_append]
  rfl

theorem cov_in {r : RS} {c : Nat × Nat} (h : c ∈ covs r) : c.1 < r.names.length ∧ c.2 < r.names.length := by
  obtain ⟨h1, h2, _⟩ := covers_mem h
  exact ⟨h1, h2⟩

theorem lines_clean {r : RS} (hG : r.Good) : ∀ x ∈ linesN r ++ (linesC r ++ linesX r), ∀ c ∈ x, c ≠ 10 := by
  intro x hx
  rcases List.mem_append.1 hx with h | h
  · obtain ⟨s, hs, rfl⟩ := List.mem_map.1 h
    exact clean2_10 bLevel_clean (ok_clean (hG.ok s hs))
  · rcases List.mem_append.1 h with h | h
    · obtain ⟨c, hc, rfl⟩ := List.mem_map.1 h
      obtain ⟨h1, h2⟩ := cov_in hc
      exact clean3_10 bBelow_clean (ok_clean (nameAt_ok hG h1).1) (ok_clean (nameAt_ok hG h2).1)
    · obtain ⟨c, hc, rfl⟩ := List.mem_map.1 h
      obtain ⟨h1, h2⟩ := levelN_lt hG hc
      exact clean3_10 bChannel_clean (ident_clean h2) (ok_clean (nameAt_ok hG h1).1)

theorem chans_nodup {r : RS} (hG : r.Good) : (chansL r).Nodup := (chansL_perm r).nodup_iff.2 hG.each

theorem linesTo_then {r r' : RS} {k k' : Nat} {a : List ByteArray} (h : linesTo r k a = (0, k', r')) (b : List ByteArray) : linesTo r k (a ++ b) = linesTo r' k' b := by
  rw [linesTo_append, h, if_pos rfl]

theorem read_print {r : RS} (hG : r.Good) (hE : newE r.names r.below = 0) : ∃ k, readF (mkB (printB r)) = (0, k, backR r) := by
  obtain ⟨hc, _, _⟩ := newE_zero hE
  obtain ⟨k1, e1⟩ := read_names r.names RS.none 0 hG.ok (show ([] ++ r.names).Nodup from hG.once)
  have e1 : linesTo RS.none 0 (r.names.map fun s => mkB (txt2 bLevel s)) = (0, k1, (⟨r.names, [], []⟩ : RS)) := e1
  obtain ⟨k2, e2⟩ := read_covers (coverPairs r.names (covs r)) ⟨r.names, [], []⟩ k1 (fun c hc => by
    obtain ⟨q, hq, rfl⟩ := List.mem_map.1 hc
    obtain ⟨h1, h2⟩ := cov_in hq
    exact ⟨(nameAt_ok hG h1).1, (nameAt_ok hG h2).1, (nameAt_ok hG h1).2, (nameAt_ok hG h2).2⟩)
  have e2 : linesTo ⟨r.names, [], []⟩ k1 ((coverPairs r.names (covs r)).map fun c => mkB (txt3 bBelow c.1 c.2)) = (0, k2, (⟨r.names, coverPairs r.names (covs r), []⟩ : RS)) := e2
  obtain ⟨k3, e3⟩ := read_chans (levelN r) (chansL r) ⟨r.names, coverPairs r.names (covs r), []⟩ k2 hG.ok hc (fun c hc => ⟨(levelN_lt hG hc).2, (levelN_lt hG hc).1⟩) (by simpa using chans_nodup hG)
  have e3 : linesTo ⟨r.names, coverPairs r.names (covs r), []⟩ k2 ((chansL r).map fun c => mkB (txt3 bChannel c (r.names.getD (levelN r c) ByteArray.empty))) = (0, k3, backR r) := by
    refine e3.trans ?_
    unfold backR
    simp
  have l1 : (linesN r).map mkB = r.names.map fun s => mkB (txt2 bLevel s) := by unfold linesN; rw [List.map_map]; rfl
  have l2 : (linesC r).map mkB = (coverPairs r.names (covs r)).map fun c => mkB (txt3 bBelow c.1 c.2) := by unfold linesC coverPairs; rw [List.map_map, List.map_map]; rfl
  have l3 : (linesX r).map mkB = (chansL r).map fun c => mkB (txt3 bChannel c (r.names.getD (levelN r c) ByteArray.empty)) := by unfold linesX; rw [List.map_map]; rfl
  have hlast : (wordsF (mkB [])).length = 0 := by rw [wordsF_eq, data_mkB]; rfl
  refine ⟨k3 + ((mkB []).size + 1), ?_⟩
  unfold readF
  rw [print_lines r (lines_clean hG), List.map_append, List.map_append, List.append_assoc, List.append_assoc, l1, l2, l3]
  rw [linesTo_then e1, linesTo_then e2, linesTo_then e3, linesTo, if_pos hlast, linesTo]

/-! ### it tells the same -/
theorem back_of {r : RS} (hG : r.Good) (c : ByteArray) : ofAt (backR r).of c = ofAt r.of c := by
  have hnd : ((backR r).of.map (·.1)).Nodup := by
    show ((((chansL r).map fun c => (c, levelN r c)).reverse).map (·.1)).Nodup
    rw [List.map_reverse, List.map_map]
    have : (chansL r).map ((fun q : ByteArray × Nat => q.1) ∘ fun c => (c, levelN r c)) = chansL r := by
      conv => rhs; rw [← List.map_id (chansL r)]
      exact List.map_congr_left fun x _ => rfl
    rw [this]
    exact (List.reverse_perm _).nodup_iff.2 (chans_nodup hG)
  have key : ∀ n, ofAt (backR r).of c = some n ↔ ofAt r.of c = some n := fun n => by
    rw [ofAt_iff hnd]
    show (c, n) ∈ ((chansL r).map fun c => (c, levelN r c)).reverse ↔ _
    rw [List.mem_reverse, List.mem_map]
    constructor
    · rintro ⟨d, hd, e⟩
      injection e with e1 e2
      subst e1; subst e2
      exact levelN_of hd
    · intro h
      have hm : c ∈ chansL r := mem_chansL.2 (List.mem_map.2 ⟨_, ofAt_mem h, rfl⟩)
      refine ⟨c, hm, ?_⟩
      have := levelN_of hm
      rw [h] at this
      injection this with this
      rw [this]
  cases h : ofAt r.of c with
  | none =>
    cases h2 : ofAt (backR r).of c with
    | none => rfl
    | some n => have := (key n).1 h2; rw [h] at this; cases this
  | some n => exact (key n).2 h

theorem back_level {r : RS} (hG : r.Good) (c : ByteArray) : levelI (backR r) c = levelI r c := by unfold levelI; rw [back_of hG]
theorem back_newL {r : RS} (hE : newE r.names r.below = 0) : newL (backR r).names (backR r).below = newL r.names r.below ∧ newE (backR r).names (backR r).below = 0 := covers_same hE
theorem back_may {r : RS} (hG : r.Good) (hE : newE r.names r.below = 0) (a b : ByteArray) : mayB (backR r) a b = mayB r a b := by
  unfold mayB; rw [back_level hG, back_level hG, (back_newL hE).1]

theorem back_chans {r : RS} : chansL (backR r) = chansL r := by
  unfold chansL
  congr 1
  unfold chansB
  refine mergeSort_of_perm ?_
  show ((((chansL r).map fun c => (c, levelN r c)).reverse).map (·.1.data.toList)).Perm _
  rw [List.map_reverse, List.map_map]
  refine (List.reverse_perm _).trans ?_
  have h := (chansL_perm r).map (fun c : ByteArray => c.data.toList)
  rw [List.map_map] at h
  exact h

theorem back_print {r : RS} (hG : r.Good) (hE : newE r.names r.below = 0) : printB (backR r) = printB r := by
  have h1 : covs (backR r) = covs r := by unfold covs; rw [(back_newL hE).1]
  have h2 : lineC (backR r) = lineC r := rfl
  have h3 : lineX (backR r) = lineX r := by
    funext c
    unfold lineX
    have : levelN (backR r) c = levelN r c := by unfold levelN; rw [back_of hG]
    rw [this]; rfl
  unfold printB
  rw [h1, h2, h3, back_chans]
  rfl

/-! ### how long it is -/
def costL (names : List ByteArray) (l : List (ByteArray × Nat)) : Nat := (l.map fun q => q.1.size + (names.getD q.2 ByteArray.empty).size + 10).sum

theorem words_sum : ∀ (l cur : List UInt8), ((wordsGo cur l).map fun x => x.length + 1).sum ≤ cur.length + l.length + 1
  | [], cur => by
    unfold wordsGo
    split
    · simp
    · simp
  | c :: l, cur => by
    unfold wordsGo
    split
    · split
      · simp
      · simp <;> omega
    · split
      · split
        · have := words_sum l []; simp at this ⊢; omega
        · have := words_sum l []; simp at this ⊢; omega
      · have := words_sum l (cur ++ [c]); simp at this ⊢; omega

theorem idx_hit {names : List ByteArray} {s : ByteArray} (h : ¬ Lib.idxOfS names s < 0) : (Lib.idxOfS names s).toNat < names.length ∧ names.getD (Lib.idxOfS names s).toNat ByteArray.empty = s := by
  have key : ∀ (l : List ByteArray) (i : Nat), s ∈ l → ∃ k : Nat, Lib.idxFromS l s i = ((i + k : Nat) : Int) ∧ k < l.length ∧ l.getD k ByteArray.empty = s := by
    intro l
    induction l with
    | nil => intro i hm; simp at hm
    | cons x l ih =>
      intro i hm
      by_cases e : x = s
      · refine ⟨0, ?_, by simp, by simpa using e⟩
        rw [Lib.idxFromS_hit s (x :: l) 0 i (by simp) (by simpa using e) (by omega)]
      · have hm2 : s ∈ l := by
          rcases List.mem_cons.1 hm with h | h
          · exact absurd h.symm e
          · exact h
        obtain ⟨k, h1, h2, h3⟩ := ih (i + 1) hm2
        have h4 : Lib.idxFromS (x :: l) s i = Lib.idxFromS l s (i + 1) := by simp [Lib.idxFromS, e]
        exact ⟨k + 1, by rw [h4, h1]; congr 1; omega, by simpa using h2, by simpa using h3⟩
  have hm := (Lib.idxOfS_nonneg_iff names s).1 (by omega)
  obtain ⟨k, h1, h2, h3⟩ := key names 0 hm
  have e : (Lib.idxOfS names s).toNat = k := by unfold Lib.idxOfS; rw [h1]; omega
  rw [e]; exact ⟨h2, h3⟩

theorem words_three {l : ByteArray} (h : (wordsF l).length = 3) : (w0 (wordsF l)).size + (w1 (wordsF l)).size + (w2 (wordsF l)).size + 3 ≤ l.size + 1 := by
  have hs := words_sum l.data.toList []
  have e : wordsF l = (wordsL l.data.toList).map mkB := wordsF_eq l
  match hw : wordsF l, h with
  | [x, y, z], _ =>
    have h2 : wordsL l.data.toList = [x.data.toList, y.data.toList, z.data.toList] := by
      rw [← map_data_mkB (wordsL l.data.toList), ← e, hw]; rfl
    unfold wordsL at h2
    rw [h2] at hs
    simp at hs
    show x.size + y.size + z.size + 3 ≤ l.size + 1
    omega

theorem cost_step {r : RS} (hG : r.Good) (l : ByteArray) : costL (lineF r (wordsF l)).2.names (lineF r (wordsF l)).2.of ≤ costL r.names r.of + (l.size + 1) := by
  unfold lineF
  split
  · split
    · unfold levelF
      split
      · simp
      · split
        · simp
        · refine Nat.le_trans (Nat.le_of_eq ?_) (Nat.le_add_right _ _)
          unfold costL
          congr 1
          refine List.map_congr_left fun q hq => ?_
          have := (hG.chans q hq).2
          congr 3
          rw [List.getD_eq_getElem?_getD, List.getD_eq_getElem?_getD, List.getElem?_append_left this]
    · simp
  · split
    · rename_i h3
      split
      · unfold belowF
        split
        · simp
        · split <;> simp
      · split
        · rename_i hw
          unfold chanF
          split
          · simp
          · split
            · simp
            · rename_i hi
              split
              · simp
              · have h4 := words_three h3
                rw [hw, show bChannel.size = 7 from rfl] at h4
                have h5 := (idx_hit hi).2
                show (costL r.names ((w1 (wordsF l), (Lib.idxOfS r.names (w2 (wordsF l))).toNat) :: r.of)) ≤ _
                unfold costL
                rw [List.map_cons, List.sum_cons]
                simp only
                rw [h5]
                omega
        · simp
    · simp

theorem cost_all : ∀ (ls : List ByteArray) (r : RS) (k : Nat), r.Good → costL (linesTo r k ls).2.2.names (linesTo r k ls).2.2.of ≤ costL r.names r.of + (ls.map fun x => x.size + 1).sum
  | [], r, k, _ => by simp [linesTo]
  | l :: ls, r, k, h => by
    unfold linesTo
    rw [List.map_cons, List.sum_cons]
    split
    · have := cost_all ls r (k + (l.size + 1)) h; omega
    · split
      · have h1 := cost_all ls (lineF r (wordsF l)).2 (k + (l.size + 1)) (h.step _)
        have h2 := cost_step h l
        omega
      · simp

theorem cost_read (s : ByteArray) : costL (readF s).2.2.names (readF s).2.2.of ≤ s.size + 1 := by
  have h := cost_all (linesF s) RS.none 0 RS.none_good
  have e := linesF_sum s
  rw [e] at h
  unfold readF
  have h0 : costL RS.none.names RS.none.of = 0 := rfl
  omega

theorem flat_bound {α : Type} (f : α → List UInt8) (m : Nat) : ∀ (l : List α), (∀ a ∈ l, (f a).length ≤ m) → (l.flatMap f).length ≤ l.length * m
  | [], _ => by simp
  | a :: l, h => by
    have := flat_bound f m l fun x hx => h x (by simp [hx])
    have h2 := h a (by simp)
    rw [List.flatMap_cons, List.length_append, List.length_cons, Nat.add_mul, Nat.one_mul]
    omega

theorem lineX_len (r : RS) (c : ByteArray) : (lineX r c).length = c.size + (nameAt r (levelN r c)).size + 10 := by
  unfold lineX; rw [lineP3]
  have e : bChannel.data.toList.length = 7 := rfl
  simp [e]; omega

theorem printX_cost {r : RS} (hG : r.Good) : ((chansL r).flatMap (lineX r)).length = costL r.names r.of := by
  rw [List.length_flatMap]
  unfold costL
  have h1 := (chansL_perm r).map (fun c => (lineX r c).length)
  rw [h1.sum_nat, List.map_map]
  congr 1
  refine List.map_congr_left fun q hq => ?_
  show (lineX r q.1).length = _
  rw [lineX_len]
  have : levelN r q.1 = q.2 := by unfold levelN; rw [(ofAt_iff hG.each).2 hq]; rfl
  rw [this]; rfl

theorem print_len {r : RS} (hG : r.Good) (hE : newE r.names r.below = 0) : (printB r).length ≤ 12720 + costL r.names r.of := by
  have hc := (newE_zero hE).1
  have hle := (checkE_zero hc).2
  unfold printB
  rw [List.length_append, List.length_append, printX_cost hG]
  have h1 := flat_bound lineN 27 r.names (fun s hs => by
    have := ok_len (hG.ok s hs)
    unfold lineN; rw [lineP2]
    have e : bLevel.data.toList.length = 5 := rfl
    simp [e]; omega)
  have h2 := flat_bound (lineC r) 48 (covs r) (fun c hc => by
    obtain ⟨a1, a2⟩ := cov_in hc
    have b1 := ok_len (nameAt_ok hG a1).1
    have b2 := ok_len (nameAt_ok hG a2).1
    unfold lineC; rw [lineP3]
    have e : bBelow.data.toList.length = 5 := rfl
    simp [e]; omega)
  have h3 : (covs r).length ≤ 16 * 16 := by
    have := coverTo_len (newL r.names r.below) r.names.length
    have h2 : r.names.length * (newL r.names r.below).names.length ≤ 16 * 16 := Nat.mul_le_mul hle hle
    show (coverTo (newL r.names r.below) r.names.length).length ≤ _
    omega
  have h4 : r.names.length * 27 ≤ 16 * 27 := Nat.mul_le_mul_right _ hle
  have h5 : (covs r).length * 48 ≤ 256 * 48 := Nat.mul_le_mul_right _ h3
  omega
end Go.Proofs.YtckpffkofeoinaaGreatDoor

/- sameTexts of one list with itself; what is known of a policy that is carried along. -/
namespace Go.Proofs.YtckpffkofeoinaaGreatDoor
open Go.RowKit Go.Maps

set_option maxRecDepth 100000 in
set_option maxHeartbeats 2000000 in
theorem sameTexts_any (A B : Option Addr) (n c c2 : Nat) (l : List ByteArray) (w : World) (hn : l.length = n) (hr : Rd w A (l.map Value.string)) (hr2 : Rd w B (l.map Value.string)) (hl : n ≤ 1000000) :
    Calls Tryz.prog 11 #[.slice A n c, .slice B n c2] w fun e w' => e = .returned (.bool true) ∧ ∃ k, w' = w.drewN k := by
  have HN := Lib.hid hn; have HR := Lib.hid hr; have HR2 := Lib.hid hr2; clear hn hr hr2
  go_enter Tryz.func11, Tryz.ntmps11
  go_wp2_with fail
  go_loopw [5] (fun i wr => ∃ k : Nat, k ≤ n ∧ i = .int .i64 k ∧ Hid (∃ m, wr = w.drewN m)) (fun i _ => n - (intOf i).toNat)
  case atStart => exact ⟨0, Nat.zero_le _, rfl, 0, rfl⟩
  case round =>
    obtain ⟨k, hk, rfl, HW⟩ := hrel
    by_cases hlt : k < n
    · have hlt' : k < l.length := by rw [HN.out]; exact hlt
      have hr1 : Rd wr A (l.map Value.string) := by obtain ⟨m, rfl⟩ := HW.out; exact HR.out.drewN m
      have hr2 : Rd wr B (l.map Value.string) := by obtain ⟨m, rfl⟩ := HW.out; exact HR2.out.drewN m
      obtain ⟨g, o, rfl, d1⟩ := hr1.at (j := k) (v := .string l[k]) (by simp [hlt'])
      obtain ⟨g2, o2, rfl, d2⟩ := hr2.at (j := k) (v := .string l[k]) (by simp [hlt'])
      clear hr1 hr2
      generalize l[k] = q at *
      go_wp2_with fail
      go_quiet (fail)
      go_wp2
      go_roundw
      case rel => exact ⟨k + 1, by omega, by go_num, by obtain ⟨m, rfl⟩ := HW.out; exact ⟨m + nq, by rw [World.drewN_drewN]⟩⟩
      case measure => simp [intOf]; omega
    · obtain rfl : k = n := by omega
      go_wp2
      go_ret
      exact ⟨ret_bool rfl, HW.out⟩

theorem print_r2 (p : Nat) (s : ByteArray) (w : World) (hP : Pol w p (readF s).2.2) (hE : newE (readF s).2.2.names (readF s).2.2.below = 0) (hs : s.size ≤ 30000) :
    Calls Tryz.prog 13 #[.pointer (some ⟨p, 0, none⟩)] w fun e w' => e = .returned (.string (mkB (printB (readF s).2.2))) ∧ Hid (Below w.heap.size w w') := by
  have hG := readF_good s
  have h1 := print_len hG hE
  have h2 := cost_read s
  have h3 : (readF s).2.2.of.length ≤ 1000000 := by
    have := (RS.Ok.all (linesF s) (r := RS.none) (k := 0) (RS.none_ok s.size 0) fun x hx => lines_le hx).of
    have := (lines_count s).2
    show (linesTo RS.none 0 (linesF s)).2.2.of.length ≤ _
    omega
  exact print_any p _ w hP hG h3 (by omega)

theorem of_small {s : ByteArray} (hs : s.size ≤ 30000) : (readF s).2.2.of.length ≤ 1000000 := by
  have := (RS.Ok.all (linesF s) (r := RS.none) (k := 0) (RS.none_ok s.size 0) fun x hx => lines_le hx).of
  have := (lines_count s).2
  show (linesTo RS.none 0 (linesF s)).2.2.of.length ≤ _
  omega

theorem channels_r (p : Nat) (s : ByteArray) (w : World) (hP : Pol w p (readF s).2.2) (hs : s.size ≤ 30000) :
    Calls Tryz.prog 12 #[.pointer (some ⟨p, 0, none⟩)] w fun e w' => ∃ a c, e = .returned (.slice a (chansL (readF s).2.2).length c) ∧ Hid (Rd w' a ((chansL (readF s).2.2).map Value.string)) ∧ Hid (Below w.heap.size w w') := by
  refine (channels_any p _ w hP (readF_good s).each (of_small hs)).mono ?_
  rintro e w' ⟨v, rfl, HO, hb⟩
  obtain ⟨a, c, rfl, _, _, hr⟩ := owns_form HO.out
  exact ⟨a, c, rfl, hr, hb⟩
end Go.Proofs.YtckpffkofeoinaaGreatDoor
