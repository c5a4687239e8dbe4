/- The document's Words, walked. -/
import Derived.Test.YtckpffkofeoinaaGreatDoorZWords
namespace Go.Proofs.YtckpffkofeoinaaGreatDoor
open Go.RowKit Go.Maps

/-- What Words hands back. -/
def WordsPost (l : ByteArray) (w : World) (e : Ending) (w' : World) : Prop := ∃ v, e = .returned v ∧ Hid (w'.ownsRow w.heap.size 9 1 v (wordsF l).length ((wordsF l).map Value.string)) ∧ Hid (Below w.heap.size w w')

theorem WSt.post {l : ByteArray} {w wr : World} {k a : Nat} {done : List ByteArray} {v : Value} (h : WSt l w k a done v wr) (he : wordsF l = done) : WordsPost l w (.returned v) wr := ⟨v, rfl, by rw [he]; exact h.own, h.bel⟩

theorem WSt.more {l : ByteArray} {w wr w1 : World} {k a gg cap : Nat} {done : List ByteArray} {v : Value} (h : WSt l w k a done v wr) (x : ByteArray) (o : Obj)
    (ho : w1.ownsRow w.heap.size 9 1 (.slice (some ⟨gg, 0, none⟩) (done.length + 1) cap) (done.length + 1) (done.map Value.string ++ [.string x])) (hg : (wr.alloc o).grownBy w1 v.ownBlock) :
    w1.ownsRow w.heap.size 9 1 (.slice (some ⟨gg, 0, none⟩) (done.length + 1) cap) (done ++ [x]).length ((done ++ [x]).map Value.string) ∧ Below w.heap.size w w1 := by
  refine ⟨by simpa using ho, (h.bel.alloc h.bel.size _).grown hg (by have := h.bel.size; simp; omega) (fun q hq => (h.own.lt q hq).1)⟩

/-- At the loop's head: a byte more is looked at, or the words are whole. -/
def WRel (l : ByteArray) (w : World) (v s4 s5 : Value) (wr : World) : Prop :=
  (∃ (k a : Nat) (done : List ByteArray), k ≤ l.size ∧ a ≤ k ∧ done.length ≤ 100001 ∧ s4 = .int .i64 a ∧ s5 = .int .i64 k ∧ Hid (WSt l w k a done v wr)) ∨
  (s5 = .int .i64 ((l.size + 1 : Nat) : Int) ∧ Hid (wr.ownsRow w.heap.size 9 1 v (wordsF l).length ((wordsF l).map Value.string)) ∧ Hid (Below w.heap.size w wr))

set_option maxRecDepth 100000 in
set_option maxHeartbeats 4000000 in
theorem rwords_any (l : ByteArray) (w : World) (hl : l.size ≤ 100000) :
    Calls Tryz.prog 21 #[.string l] w fun e w' => WordsPost l w e w' := by
  obtain ⟨i3, hi3, hz30, hz31, hz32⟩ := info_parts info_strZ
  go_enter Tryz.func21, Tryz.ntmps21
  go_wp2_with fail
  go_loopw [3, 4, 5] (fun v s4 s5 wr => WRel l w v s4 s5 wr) (fun _ _ s5 _ => l.size + 2 - (intOf s5).toNat)
  case atStart => exact .inl ⟨0, 0, [], Nat.zero_le _, Nat.le_refl _, by simp, rfl, rfl, ⟨WInv.init l, World.ownsRow_nil _ _ _ _, Below.refl _ _⟩⟩
  case round =>
    have hlen := words_len l
    rcases hrel with ⟨k, a, done, hk, ha, hd, rfl, rfl, HS⟩ | ⟨rfl, HO, HB⟩
    case inr =>
      have hf : ¬ (((l.size + 1 : Nat) : Int) ≤ (l.size : Int)) := by omega
      go_wp2
      go_ret
      exact ⟨_, rfl, HO, HB⟩
    by_cases hlt : k < l.size
    · obtain ⟨q1, q2, q3, q4⟩ := chr_tests l[k]
      by_cases h35 : l[k] = 35
      · have t1 : ((l[k].toNat : Int) != 32) = true := by rw [q1, h35]; decide
        have t2 : ((l[k].toNat : Int) != 9) = true := by rw [q2, h35]; decide
        have t3 : ((l[k].toNat : Int) != 35) = false := by rw [q3, h35]; decide
        have t4 : ((l[k].toNat : Int) == 35) = true := by rw [q4, h35]; decide
        have H35 := Lib.hid h35
        clear q1 q2 q3 q4 h35
        by_cases hak : a < k
        · have he := Lib.hid (HS.out.inv.hash1 hak hlt H35.out)
          go_wp2_with (at_builtin; refine wpList_append_lies _ rfl _ _ _ rfl w.heap.size 9 i3 _ 1 16 Tryz.underlying33 hi3 hz30 hz31 hz32 rfl (by omega) u3 _ _ rfl (World.ownsRow.alloc (w := wr) HS.out.own _) ⟨wr.heap.size, 0, none⟩ 1 1 [.string (l.extract a k)] rfl rfl (World.news_of_block (cs := #[.string (l.extract a k)]) (t := 9) (fr := (0, 0)) (heap_alloc_new wr _)) (by simp [Value.oneCell']) (by omega) (by unfold maxLen; omega) (by omega) (by have := HS.out.bel.size; simp; omega) (wr.heap.size + 1) (by simp) ?_; intro gg cap w1 hown1 hgrow hat hltg; have HM := Lib.hid (HS.out.more _ _ hown1 hgrow); clear hown1 hgrow hat hltg)
          go_ret
          exact ⟨_, rfl, by rw [he.out]; exact HM.out.1, HM.out.2⟩
        · obtain rfl : a = k := by omega
          have he := Lib.hid (HS.out.inv.hash0 hlt H35.out)
          go_wp2
          go_ret
          exact HS.out.post he.out
      · cases hb : blankC l[k] with
        | true =>
          have hx : ((l[k].toNat : Int) != 32) = false ∨ (((l[k].toNat : Int) != 32) = true ∧ ((l[k].toNat : Int) != 9) = false) := by
            rw [q1, q2]
            unfold blankC at hb
            revert hb
            generalize l[k] = c
            intro hb
            rw [Bool.or_eq_true, beq_iff_eq, beq_iff_eq] at hb
            rcases hb with rfl | rfl
            · left; decide
            · right; decide
          have t4 : ((l[k].toNat : Int) == 35) = false := by rw [q4]; simpa using h35
          have H35 := Lib.hid h35; have HB := Lib.hid hb
          clear q1 q2 q3 q4 h35 hb
          rcases hx with t1 | ⟨t1, t2⟩
          all_goals
            by_cases hak : a < k
            · have hinv := Lib.hid (HS.out.inv.blank1 hak hlt H35.out HB.out)
              go_wp2_with (at_builtin; refine wpList_append_lies _ rfl _ _ _ rfl w.heap.size 9 i3 _ 1 16 Tryz.underlying33 hi3 hz30 hz31 hz32 rfl (by omega) u3 _ _ rfl (World.ownsRow.alloc (w := wr) HS.out.own _) ⟨wr.heap.size, 0, none⟩ 1 1 [.string (l.extract a k)] rfl rfl (World.news_of_block (cs := #[.string (l.extract a k)]) (t := 9) (fr := (0, 0)) (heap_alloc_new wr _)) (by simp [Value.oneCell']) (by omega) (by unfold maxLen; omega) (by omega) (by have := HS.out.bel.size; simp; omega) (wr.heap.size + 1) (by simp) ?_; intro gg cap w1 hown1 hgrow hat hltg; have HM := Lib.hid (HS.out.more _ _ hown1 hgrow); clear hown1 hgrow hat hltg)
              go_roundw
              case rel => exact .inl ⟨k + 1, k + 1, _, by omega, Nat.le_refl _, by have := hinv.out.len; omega, by go_num, by go_num, ⟨hinv.out, HM.out.1, HM.out.2⟩⟩
              case measure => simp [intOf]; omega
            · obtain rfl : a = k := by omega
              have hinv := Lib.hid (HS.out.inv.blank0 hlt H35.out HB.out)
              go_wp2
              go_roundw
              case rel => exact .inl ⟨a + 1, a + 1, done, by omega, Nat.le_refl _, hd, by go_num, by go_num, ⟨hinv.out, HS.out.own, HS.out.bel⟩⟩
              case measure => simp [intOf]; omega
        | false =>
          have hx : ((l[k].toNat : Int) != 32) = true ∧ ((l[k].toNat : Int) != 9) = true := by
            rw [q1, q2]
            unfold blankC at hb
            rw [Bool.or_eq_false_iff] at hb
            exact ⟨by simpa using hb.1, by simpa using hb.2⟩
          obtain ⟨t1, t2⟩ := hx
          have t3 : ((l[k].toNat : Int) != 35) = true := by rw [q3]; simpa using h35
          have hinv := Lib.hid (HS.out.inv.step hlt h35 hb)
          clear q1 q2 q3 q4 h35 hb
          go_wp2
          go_roundw
          case rel => exact .inl ⟨k + 1, a, done, by omega, by omega, hd, rfl, by go_num, ⟨hinv.out, HS.out.own, HS.out.bel⟩⟩
          case measure => simp [intOf]; omega
    · obtain rfl : k = l.size := by omega
      by_cases hak : a < l.size
      · have he := Lib.hid (HS.out.inv.end1 hak)
        go_wp2_with (at_builtin; refine wpList_append_lies _ rfl _ _ _ rfl w.heap.size 9 i3 _ 1 16 Tryz.underlying33 hi3 hz30 hz31 hz32 rfl (by omega) u3 _ _ rfl (World.ownsRow.alloc (w := wr) HS.out.own _) ⟨wr.heap.size, 0, none⟩ 1 1 [.string (l.extract a l.size)] rfl rfl (World.news_of_block (cs := #[.string (l.extract a l.size)]) (t := 9) (fr := (0, 0)) (heap_alloc_new wr _)) (by simp [Value.oneCell']) (by omega) (by unfold maxLen; omega) (by omega) (by have := HS.out.bel.size; simp; omega) (wr.heap.size + 1) (by simp) ?_; intro gg cap w1 hown1 hgrow hat hltg; have HM := Lib.hid (HS.out.more _ _ hown1 hgrow); clear hown1 hgrow hat hltg)
        go_roundw
        case rel => exact .inr ⟨by go_num, by rw [he.out]; exact HM.out.1, HM.out.2⟩
        case measure => simp [intOf] <;> omega
      · obtain rfl : a = l.size := by omega
        have he := Lib.hid (HS.out.inv.end0)
        go_wp2
        go_roundw
        case rel => exact .inr ⟨by go_num, by rw [he.out]; exact HS.out.own, HS.out.bel⟩
        case measure => simp [intOf] <;> omega
end Go.Proofs.YtckpffkofeoinaaGreatDoor
