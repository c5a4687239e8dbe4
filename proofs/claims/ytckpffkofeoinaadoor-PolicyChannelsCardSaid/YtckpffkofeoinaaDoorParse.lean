/- policy.Parse. -/
import Derived.Test.YtckpffkofeoinaaDoorLine
import Derived.Lib.SplitLaws
namespace Go.Proofs.YtckpffkofeoinaaDoor
open Go.RowKit Go.Maps

theorem lines_count (s : ByteArray) : (linesF s).length = Lib.countB s ⟨#[10]⟩ + 1 ∧ (linesF s).length ≤ s.size + 1 := by
  have h1 : (linesF s).length = Lib.countB s ⟨#[10]⟩ + 1 := Lib.splitB_all _ (by decide) 0 _ s rfl
  have h2 := Lib.countB_le ⟨#[10]⟩ (by decide) s.size s (Nat.le_refl _)
  exact ⟨h1, by omega⟩

/-- What Parse hands back. -/
def ParsePost (s : ByteArray) (w : World) (e : Ending) (w' : World) : Prop :=
  Below w.heap.size w w' ∧ ((parseE s = (0, 0) ∧ ∃ p, e = .returned (.tuple #[.pointer (some ⟨p, 0, none⟩), .int .i64 0, .int .i64 0]) ∧ Pol w' p (readF s).2.2) ∨
    ((parseE s).1 ≠ 0 ∧ e = .returned (.tuple #[.pointer none, .int .i64 (parseE s).2, .int .i64 (parseE s).1])))

theorem ParsePost.bad {s : ByteArray} {w w' : World} {c k : Int} {e : Ending} (hb : Below w.heap.size w w') (h : parseE s = (c, k)) (hc : c ≠ 0) (he : e = .returned (.tuple #[.pointer none, .int .i64 k, .int .i64 c])) : ParsePost s w e w' :=
  ⟨hb, .inr ⟨by rw [h]; exact hc, by rw [h]; exact he⟩⟩

theorem lineF_err (r : RS) (ws : List ByteArray) : (lineF r ws).1 = 0 ∨ (lineF r ws).1 = 2 ∨ (lineF r ws).1 = 3 ∨ (lineF r ws).1 = 4 := by
  unfold lineF levelF belowF chanF
  repeat' split
  all_goals simp

/-- Behind i lines: r was read, and the rest is read from k on. -/
structure Loop (w W : World) (s : ByteArray) (base p b B : Nat) (i k : Nat) (r : RS) (wr : World) : Prop where
  st : RdSt base p b r wr
  turn : Turn base p b W wr
  rest : readF s = linesTo r k ((linesF s).drop i)
  ok : r.Ok s.size i
  lines : W.heap[B]? = some (.cells ((linesF s).map Value.string).toArray 9 (0, 0))
  bB : B < base ∧ B ≠ p ∧ B ≠ b
  bel : Below w.heap.size w W
  far : w.heap.size ≤ p ∧ w.heap.size ≤ b ∧ w.heap.size ≤ base
  small : k ≤ i * (s.size + 1)

theorem Turn.bel {w W w' : World} {base p b : Nat} (hb : Below w.heap.size w W) (h : Turn base p b W w') (f1 : w.heap.size ≤ p) (f2 : w.heap.size ≤ b) (f3 : w.heap.size ≤ base) : Below w.heap.size w w' :=
  ⟨h.os.trans hb.os, h.tape.trans hb.tape, h.output.trans hb.output, Nat.le_trans hb.size h.size, fun q hq => by
    rw [h.block q (by omega) (by omega) (by omega)]; exact hb.block q hq⟩

theorem Loop.below {w W : World} {s : ByteArray} {base p b B i k : Nat} {r : RS} {wr : World} (h : Loop w W s base p b B i k r wr) : Below w.heap.size w wr :=
  h.turn.bel h.bel h.far.1 h.far.2.1 h.far.2.2

theorem NewPost.yes {w w' : World} {names : List ByteArray} {pairs : List (ByteArray × ByteArray)} {e : Ending} (h : NewPost w w' names pairs e) (h0 : newE names pairs = 0) :
    ∃ p, e = .returned (.tuple #[.pointer (some ⟨p, 0, none⟩), .int .i64 0]) ∧ Hid (Lat w' p (newL names pairs)) ∧ Hid (Below w.heap.size w w') := by
  obtain ⟨hB, ⟨_, p, he, hp, hL⟩ | ⟨h1, _⟩⟩ := h
  · exact ⟨p, he, hL, hB⟩
  · exact absurd h0 h1
theorem NewPost.no {w w' : World} {names : List ByteArray} {pairs : List (ByteArray × ByteArray)} {e : Ending} {c : Int} (h : NewPost w w' names pairs e) (h0 : newE names pairs = c) (hc : c ≠ 0) :
    e = .returned (.tuple #[.pointer none, .int .i64 c]) ∧ Hid (Below w.heap.size w w') := by
  obtain ⟨hB, ⟨h1, _⟩ | ⟨_, he⟩⟩ := h
  · exact absurd (h0.symm.trans h1) hc
  · exact ⟨by rw [he, h0]; rfl, hB⟩

theorem Loop.line {w W : World} {s : ByteArray} {base p b B i k : Nat} {r : RS} {wr : World} (h : Loop w W s base p b B i k r wr) {l : ByteArray} (hl : (linesF s)[i]? = some l) : wr.cell? ⟨B, i, none⟩ = some (.string l) := by
  have hb := h.turn.block B h.bB.1 h.bB.2.1 h.bB.2.2
  rw [h.lines] at hb
  simp [World.cell?, hb, hl]

theorem Loop.drop {s : ByteArray} {i : Nat} {l : ByteArray} (hl : (linesF s)[i]? = some l) : (linesF s).drop i = l :: (linesF s).drop (i + 1) := by
  obtain ⟨h, e⟩ := List.getElem?_eq_some_iff.1 hl
  rw [List.drop_eq_getElem_cons h, e]

/-- A line without words. -/
theorem Loop.skip {w W : World} {s : ByteArray} {base p b B i k : Nat} {r : RS} {wr w' : World} (h : Loop w W s base p b B i k r wr) {l : ByteArray} (hl : (linesF s)[i]? = some l) (h0 : (wordsF l).length = 0) (hb : Below wr.heap.size wr w') :
    Loop w W s base p b B (i + 1) (k + (l.size + 1)) r w' := by
  have e := Loop.drop hl
  have hls : l.size ≤ s.size := lines_le (List.mem_of_getElem? hl)
  refine ⟨h.st.below hb, h.turn.trans (Turn.of_below hb h.st.base_le), ?_, ?_, h.lines, h.bB, h.bel, h.far, ?_⟩
  · rw [h.rest, e, linesTo, if_pos h0]
  · have := h.ok
    exact ⟨this.short, by have := this.names; omega, by have := this.below; omega, by have := this.of; omega, this.at_⟩
  · have := h.small
    rw [Nat.add_mul, Nat.one_mul]
    omega

/-- A line that is read. -/
theorem Loop.next {w W : World} {s : ByteArray} {base p b B i k : Nat} {r : RS} {wr w1 w' : World} (h : Loop w W s base p b B i k r wr) {l : ByteArray} (hl : (linesF s)[i]? = some l) (h0 : ¬ (wordsF l).length = 0) (hz : (lineF r (wordsF l)).1 = 0)
    (hb : Below wr.heap.size wr w1) (hs : RdSt base p b (lineF r (wordsF l)).2 w') (ht : Turn base p b w1 w') :
    Loop w W s base p b B (i + 1) (k + (l.size + 1)) (lineF r (wordsF l)).2 w' := by
  have e := Loop.drop hl
  have hls : l.size ≤ s.size := lines_le (List.mem_of_getElem? hl)
  refine ⟨hs, (h.turn.trans (Turn.of_below hb h.st.base_le)).trans ht, ?_, h.ok.step fun x hx => Nat.le_trans (words_le hx) hls, h.lines, h.bB, h.bel, h.far, ?_⟩
  · rw [h.rest, e, linesTo, if_neg h0, if_pos hz]
  · have := h.small
    rw [Nat.add_mul, Nat.one_mul]
    omega

theorem Loop.wrong {w W : World} {s : ByteArray} {base p b B i k : Nat} {r : RS} {wr : World} (h : Loop w W s base p b B i k r wr) {l : ByteArray} (hl : (linesF s)[i]? = some l) (h0 : ¬ (wordsF l).length = 0) (hz : ¬ (lineF r (wordsF l)).1 = 0) (hlong : ¬ 20000 < s.size) :
    parseE s = ((lineF r (wordsF l)).1, (k : Int)) := by
  have e : readF s = ((lineF r (wordsF l)).1, k, r) := by rw [h.rest, Loop.drop hl, linesTo, if_neg h0, if_neg hz]
  unfold parseE
  rw [if_neg hlong, e, if_pos hz]

theorem Loop.last {w W : World} {s : ByteArray} {base p b B i k : Nat} {r : RS} {wr : World} (h : Loop w W s base p b B i k r wr) (hi : i = (linesF s).length) (hlong : ¬ 20000 < s.size) :
    (readF s).2.2 = r ∧ parseE s = if newE r.names r.below ≠ 0 then (newE r.names r.below, (s.size : Int)) else (0, 0) := by
  have e : readF s = (0, k, r) := by rw [h.rest, hi, List.drop_length, linesTo]
  refine ⟨by rw [e], ?_⟩
  unfold parseE
  rw [if_neg hlong, e, if_neg (by simp)]

theorem Loop.k_le {w W : World} {s : ByteArray} {base p b B i k : Nat} {r : RS} {wr : World} (h : Loop w W s base p b B i k r wr) (hi : i ≤ (linesF s).length) (hs : s.size ≤ 20000) : k ≤ 1000000000 := by
  have h1 := h.small
  have h2 := (lines_count s).2
  have h3 : i * (s.size + 1) ≤ 20001 * 20001 := Nat.mul_le_mul (by omega) (by omega)
  omega

theorem Loop.lens {w W : World} {s : ByteArray} {base p b B i k : Nat} {r : RS} {wr : World} (h : Loop w W s base p b B i k r wr) (hi : i ≤ (linesF s).length) (hs : s.size ≤ 20000) : r.names.length ≤ 100000 ∧ r.below.length ≤ 100000 ∧ r.of.length ≤ 100000 := by
  have h2 := (lines_count s).2
  have := h.ok
  exact ⟨by have := this.names; omega, by have := this.below; omega, by have := this.of; omega⟩

set_option maxRecDepth 100000 in
set_option maxHeartbeats 4000000 in
theorem parse_any (s : ByteArray) (w : World) (hM : MaxL w) :
    Calls Tryd.prog 8 #[.string s] w fun e w' => ParsePost s w e w' := by
  by_cases hlong : 20000 < s.size
  · have hfin : parseE s = (7, 0) := by unfold parseE; rw [if_pos hlong]
    have HF := Lib.hid hfin; clear hfin
    have hl : (20000 : Int) < (s.size : Int) := by omega
    clear hM
    go_enter Tryd.func8, Tryd.ntmps8
    go_wp2
    go_ret3
    exact ParsePost.bad (Below.refl _ _) HF.out (by decide) rfl
  · have HM := Lib.hid hM
    have HL := Lib.hid hlong
    have hl : ¬ (20000 : Int) < (s.size : Int) := by omega
    have hs20 : s.size ≤ 20000 := by omega
    obtain ⟨N, hN⟩ : ∃ N, Lib.countB s ⟨#[10]⟩ + 1 = N := ⟨_, rfl⟩
    have hN2 : (linesF s).length = N := by rw [(lines_count s).1, hN]
    have hN3 : N ≤ 20001 := by have := (lines_count s).2; omega
    obtain ⟨W0, hW0⟩ : ∃ W0, W0 = (w.alloc (.map #[] 0)).alloc (.cells #[.slice none 0 0, .slice none 0 0, .map (some w.heap.size)] 43) := ⟨_, rfl⟩
    have hS0 : W0.heap.size = w.heap.size + 1 + 1 := by rw [hW0]; simp
    have hb0 : Below w.heap.size w W0 := by rw [hW0]; exact ((Below.refl _ w).alloc (Nat.le_refl _) _).alloc (by simp) _
    have hp0 : W0.heap[w.heap.size + 1]? = some (.cells #[.slice none 0 0, .slice none 0 0, .map (some w.heap.size)] 43 (0, 0)) := by
      rw [hW0]
      have := heap_alloc_new (w.alloc (.map #[] 0)) (.cells #[.slice none 0 0, .slice none 0 0, .map (some w.heap.size)] 43 (0, 0))
      simpa using this
    have ho0 : OfIs W0 w.heap.size [] := by rw [hW0]; exact (OfIs.made w).kept (World.grownBy_alloc _ _ none) (by simp)
    have HSP : Hid (Calls Tryd.prog 20 #[.string s, .string ⟨#[10]⟩] W0 fun e w' => e = .returned (.slice (some ⟨w.heap.size + 2, 0, none⟩) N N) ∧ w' = W0.alloc (.cells ((linesF s).map Value.string).toArray 9)) := by
      obtain ⟨m, hm⟩ := hM.below hb0
      have := Tryd.strings_Split s ⟨#[10]⟩ m W0 (by omega) hm (by decide)
      rw [hN, hS0] at this
      exact this
    have HLP : Hid (∀ w1 : World, w1 = W0.alloc (.cells ((linesF s).map Value.string).toArray 9) → Loop w w1 s w1.heap.size (w.heap.size + 1) w.heap.size (w.heap.size + 2) 0 0 RS.none w1) := by
      intro w1 hw1
      have h1 : w1.heap.size = w.heap.size + 3 := by rw [hw1]; simp [hS0]
      have hb1 : Below W0.heap.size W0 w1 := by rw [hw1]; exact (Below.refl _ _).alloc (Nat.le_refl _) _
      refine ⟨⟨.slice none 0 0, .slice none 0 0, by rw [hb1.block _ (by omega)]; exact hp0, World.ownsRow_nil _ _ _ _, World.ownsRow_nil _ _ _ _, ho0.below hb1, by omega, by omega, by omega, Nat.le_refl _⟩, Turn.of_below (Below.refl _ _) (Nat.le_refl _), rfl, RS.none_ok _ _, ?_, ⟨by omega, by omega, by omega⟩, hb0.trans (hb1.mono hb0.size), ⟨by omega, by omega, by omega⟩, by omega⟩
      rw [hw1]
      have := heap_alloc_new W0 (.cells ((linesF s).map Value.string).toArray 9 (0, 0))
      rw [hS0] at this
      exact this
    have HN := Lib.hid hN2
    have HMM : Hid (∀ w' : World, Below w.heap.size w w' → MaxL w') := fun w' hb => hM.below hb
    clear hlong hM hN hN2 hp0 ho0 hb0 hS0
    subst hW0
    have hmm := @run_makeMap Tryd.prog
    go_enter Tryd.func8, Tryd.ntmps8
    go_wp2_with (go_at_call 20; refine HSP.out.mono ?_; rintro e w1 ⟨rfl, hw1⟩; have HL0 := Lib.hid (HLP.out w1 hw1); clear hw1)
    clear HSP HLP
    go_loopw [6, 22] (fun s6 s22 wr => ∃ (i k : Nat) (r : RS), i ≤ N ∧ k ≤ 1000000000 ∧ s6 = .int .i64 k ∧ s22 = .int .i64 i ∧ Hid (Loop w w1 s w1.heap.size (w.heap.size + 1) w.heap.size (w.heap.size + 2) i k r wr)) (fun _ s22 _ => N - (intOf s22).toNat)
    case atStart => exact ⟨0, 0, RS.none, Nat.zero_le _, by omega, rfl, rfl, HL0⟩
    case round =>
      clear HL0
      obtain ⟨i, k, r, hi, hk, rfl, rfl, HLo⟩ := hrel
      by_cases hlt : i < N
      · obtain ⟨l, hl⟩ : ∃ l, (linesF s)[i]? = some l := ⟨_, List.getElem?_eq_getElem (by rw [HN.out]; exact hlt)⟩
        have hc := HLo.out.line hl
        have hls : l.size ≤ s.size := lines_le (List.mem_of_getElem? hl)
        have HLL := Lib.hid hl
        have hilt : (i : Int) < (N : Int) := by omega
        have HM1 := Lib.hid (HMM.out _ HLo.out.below)
        have HWL : Hid (∀ x ∈ wordsF l, x.size ≤ 140737488351232) := fun x hx => by have := words_le hx; omega
        have HWN : Hid ((wordsF l).length = (wordsF l).length) := rfl
        by_cases h0 : (wordsF l).length = 0
        · have H0 := Lib.hid h0; clear h0 hl
          go_wp2_with (go_at_call 21; refine (words_any l _ (by omega) HM1.out).mono ?_; rintro e w2 ⟨A, rfl, ho2, hb2⟩; rw [H0.out]; have HB2 := Lib.hid hb2; clear ho2 hb2)
          go_roundw
          case rel =>
            have hn := HLo.out.skip HLL.out H0.out HB2.out
            exact ⟨i + 1, k + (l.size + 1), r, by omega, hn.k_le (by rw [HN.out]; omega) hs20, by go_num, by go_num, hn⟩
          case measure => simp [intOf]; omega
        · obtain ⟨n, hn⟩ : ∃ n, (wordsF l).length = n := ⟨_, rfl⟩
          have hnp : (0 : Int) < (n : Int) := by omega
          have H0 := Lib.hid h0; have HNW := Lib.hid hn; clear h0 hl hn
          obtain ⟨q1, q2, q3⟩ := HLo.out.lens (by rw [HN.out]; exact hi) hs20
          have HQ1 := Lib.hid q1; have HQ2 := Lib.hid q2; have HQ3 := Lib.hid q3; clear q1 q2 q3
          by_cases hz : (lineF r (wordsF l)).1 = 0
          · have HZ := Lib.hid hz; clear hz
            go_wp2_with (first | (go_at_call 21; refine (words_any l _ (by omega) HM1.out).mono ?_; rintro e w2 ⟨A, rfl, ho2, hb2⟩; rw [HNW.out]; have HB2 := Lib.hid hb2; have HRW := Lib.hid (Rd.of_owns ho2); clear ho2 hb2) | (go_at_call 22; refine (line_any _ _ _ A n r (wordsF l) w2 HNW.out HRW.out HWL.out (HMM.out _ (HLo.out.below.trans (HB2.out.mono HLo.out.below.size))) (HLo.out.st.below HB2.out) HQ1.out HQ2.out HQ3.out).mono ?_; rintro e w3 ⟨rfl, hs3, ht3⟩; rw [HZ.out]; have HS3 := Lib.hid hs3; have HT3 := Lib.hid ht3; clear hs3 ht3))
            go_roundw
            case rel =>
              have hn := HLo.out.next HLL.out H0.out HZ.out HB2.out HS3.out HT3.out
              exact ⟨i + 1, k + (l.size + 1), _, by omega, hn.k_le (by rw [HN.out]; omega) hs20, by go_num, by go_num, hn⟩
            case measure => simp [intOf]; omega
          · obtain ⟨ec, hec⟩ : ∃ ec, (lineF r (wordsF l)).1 = ec := ⟨_, rfl⟩
            have hne : (ec != 0) = true := by rw [← hec]; simpa using hz
            have HEC := Lib.hid hec; have HZ := Lib.hid hz; clear hz hec
            go_wp2_with (first | (go_at_call 21; refine (words_any l _ (by omega) HM1.out).mono ?_; rintro e w2 ⟨A, rfl, ho2, hb2⟩; rw [HNW.out]; have HB2 := Lib.hid hb2; have HRW := Lib.hid (Rd.of_owns ho2); clear ho2 hb2) | (go_at_call 22; refine (line_any _ _ _ A n r (wordsF l) w2 HNW.out HRW.out HWL.out (HMM.out _ (HLo.out.below.trans (HB2.out.mono HLo.out.below.size))) (HLo.out.st.below HB2.out) HQ1.out HQ2.out HQ3.out).mono ?_; rintro e w3 ⟨rfl, hs3, ht3⟩; rw [HEC.out]; have HS3 := Lib.hid hs3; have HT3 := Lib.hid ht3; clear hs3 ht3))
            go_ret3
            have hw := HLo.out.wrong HLL.out H0.out HZ.out HL.out
            rw [HEC.out] at hw
            have hb3 := ((HLo.out.turn.trans (Turn.of_below HB2.out HLo.out.st.base_le)).trans HT3.out).bel HLo.out.bel HLo.out.far.1 HLo.out.far.2.1 HLo.out.far.2.2
            exact ParsePost.bad hb3 hw (by simpa using hne) rfl
      · obtain rfl : i = N := by omega
        have hfin := HLo.out.last HN.out.symm HL.out
        obtain ⟨q1, q2, q3⟩ := HLo.out.lens (by rw [HN.out]; exact Nat.le_refl _) hs20
        have HSR : Hid (ShortS r.names) := fun x hx => by have := HLo.out.ok.short x hx; omega
        have HB1 := Lib.hid HLo.out.below
        have hst := HLo.out.st
        obtain ⟨vn, vb, h1, h2, h3, h4, h5, h6, h7, h8⟩ := hst
        obtain ⟨an, cn, rfl, hn1, hn2, hn3⟩ := owns_form h2
        obtain ⟨ab, cb, rfl, hb1, hb2, hb3⟩ := owns_form h3
        obtain ⟨cp0, cp1, cp2, _, _⟩ := cell_in h1
        have HNW : Hid (∀ k : Nat, Calls Tryd.prog 23 #[.slice an r.names.length cn, .slice ab r.below.length cb] (wr.drewN k) fun e w' => NewPost (wr.drewN k) w' r.names r.below e) := fun k =>
          new_any _ _ _ _ _ _ r.names r.below _ rfl hn1 (Nat.le_trans hn2 (by unfold maxLen; omega)) (hn3.drewN k) HSR.out (by omega) rfl (hb3.drewN k) (by omega)
        have HF1 := Lib.hid hfin.1; have HF2 := Lib.hid hfin.2; have H4 := Lib.hid h4; have H1 := Lib.hid h1
        have HAT : Hid (∀ q ∈ r.of, q.2 < r.names.length) := HLo.out.ok.at_
        clear hfin h1 h2 h3 h4 h5 h6 h7 h8 hn3 hb3 q1 q2 q3 hn1 hn2 hb1 hb2
        by_cases hE : newE r.names r.below = 0
        · have HE := Lib.hid hE
          have hPE := HF2.out
          rw [if_neg (by simpa using hE)] at hPE
          have HPE := Lib.hid hPE; clear hE hPE HF2
          go_upto_region 15 with fail
          go_region_with (go_at_call 23; refine (HNW.out 1).mono ?_; rintro e w4 hP; obtain ⟨p2, rfl, HLA, HB4⟩ := hP.yes HE.out; clear hP)
          all_goals
            have hb4 : Below wr.heap.size wr w4 := (below_drewN (Below.refl _ wr) 1).trans HB4.out
            have hp4 : w4.heap[w.heap.size + 1]? = some (.cells #[.slice an r.names.length cn, .slice ab r.below.length cb, .map (some w.heap.size)] 43 (0, 0)) := by
              rw [hb4.block _ (lt_of_block H1.out)]; exact H1.out
            obtain ⟨_, _, d2, _, _⟩ := cell_in hp4
            have HOF := Lib.hid (H4.out.below hb4)
            have HBW := Lib.hid (HB1.out.trans (hb4.mono HB1.out.size))
            clear hb4 hp4 cp0 cp1 cp2
            go_wp2
            go_ret3
            have hal : Below w4.heap.size w4 (w4.alloc (.cells #[.pointer (some ⟨p2, 0, none⟩), .map (some w.heap.size)] 50)) := (Below.refl _ _).alloc (Nat.le_refl _) _
            refine ⟨HBW.out.trans (hal.mono HBW.out.size), .inl ⟨HPE.out, _, rfl, ?_⟩⟩
            rw [HF1.out]
            exact ⟨p2, w.heap.size, heap_alloc_new _ _, HLA.out.below hal, HOF.out.below hal, HAT.out⟩
        · obtain ⟨ec, hec⟩ : ∃ ec, newE r.names r.below = ec := ⟨_, rfl⟩
          have hPE := HF2.out
          rw [if_pos hE] at hPE
          rw [hec] at hE hPE
          have hne : (ec != 0) = true := by simpa using hE
          have HEC := Lib.hid hec; have HPE := Lib.hid hPE; have HE := Lib.hid hE; clear hE hPE HF2 hec
          go_upto_region 15 with fail
          go_region_with (go_at_call 23; refine (HNW.out 1).mono ?_; rintro e w4 hP; obtain ⟨rfl, HB4⟩ := hP.no HEC.out HE.out; clear hP)
          all_goals
            have HBW := Lib.hid (HB1.out.trans (((below_drewN (Below.refl _ wr) 1).trans HB4.out).mono HB1.out.size))
            clear cp0 cp1 cp2
            go_wp2
            go_ret3
            exact ParsePost.bad HBW.out HPE.out HE.out rfl
end Go.Proofs.YtckpffkofeoinaaDoor
