/- The document's Ident is token's. -/
import Derived.Test.YtckpffkofeoinaaGreatDoorWds
namespace Go.Proofs.YtckpffkofeoinaaGreatDoor
open Go.RowKit Go.Maps

def isDig (c : UInt8) : Bool := 48 ≤ c && c ≤ 57
def isPart2 (c : UInt8) : Bool := isDig c || ((97 ≤ c && c ≤ 122) || ((65 ≤ c && c ≤ 90) || c == 95))
theorem part_all : ∀ n : Fin 256, isPart (UInt8.ofFin n) = isPart2 (UInt8.ofFin n) := by decide +kernel
theorem part_eq (c : UInt8) : isPart c = isPart2 c := part_all c.toFin
theorem dig_all : ∀ n : Fin 256, decide (Lib.indexByte digitsL (UInt8.ofFin n) < 0) = !isDig (UInt8.ofFin n) := by decide +kernel
theorem dig_eq (c : UInt8) : decide (Lib.indexByte digitsL c < 0) = !isDig c := dig_all c.toFin

theorem digit_any (c : UInt8) (w : World) :
    Calls Tryz.prog 93 #[.int .u8 c.toNat] w fun e w' => e = .returned (.bool (isDig c)) ∧ w = w' := by
  have hf : isDig c = (decide ((48 : Int) ≤ (c.toNat : Int)) && decide ((c.toNat : Int) ≤ 57)) := by
    unfold isDig
    rw [Bool.eq_iff_iff]
    simp only [Bool.and_eq_true, decide_eq_true_eq, UInt8.le_iff_toNat_le]
    have e1 : (48 : UInt8).toNat = 48 := rfl
    have e2 : (57 : UInt8).toNat = 57 := rfl
    rw [e1, e2]; omega
  have HF := Lib.hid hf; clear hf
  have hz := c.toNat_lt
  by_cases h1 : (48 : Int) ≤ (c.toNat : Int)
  · go_enter Tryz.func93, Tryz.ntmps93
    go_wp2
    go_ret
    exact ⟨ret_bool (by rw [HF.out, decide_eq_true h1]; simp), rfl⟩
  · go_enter Tryz.func93, Tryz.ntmps93
    go_wp2
    go_ret
    exact ⟨ret_bool (by rw [HF.out, decide_eq_false (by omega : ¬ (48 : Int) ≤ (c.toNat : Int))]; rfl), rfl⟩

theorem part_any (c : UInt8) (w : World) :
    Calls Tryz.prog 91 #[.int .u8 c.toNat] w fun e w' => e = .returned (.bool (isPart c)) ∧ w = w' := by
  have hf : isPart c = (isDig c || ((decide ((97 : Int) ≤ (c.toNat : Int)) && decide ((c.toNat : Int) ≤ 122)) || ((decide ((65 : Int) ≤ (c.toNat : Int)) && decide ((c.toNat : Int) ≤ 90)) || decide ((c.toNat : Int) = 95)))) := by
    rw [part_eq]
    unfold isPart2
    congr 1
    rw [Bool.eq_iff_iff]
    simp only [Bool.or_eq_true, Bool.and_eq_true, decide_eq_true_eq, UInt8.le_iff_toNat_le, beq_iff_eq]
    have e1 : (97 : UInt8).toNat = 97 := rfl
    have e2 : (122 : UInt8).toNat = 122 := rfl
    have e3 : (65 : UInt8).toNat = 65 := rfl
    have e4 : (90 : UInt8).toNat = 90 := rfl
    have e5 : c = 95 ↔ c.toNat = 95 := ⟨fun h => by rw [h]; rfl, fun h => UInt8.toNat_inj.1 h⟩
    rw [e1, e2, e3, e4, e5]; omega
  have HF := Lib.hid hf; clear hf
  have HD : Hid (Calls Tryz.prog 93 #[.int .u8 c.toNat] w fun e w' => e = .returned (.bool (isDig c)) ∧ w = w') := digit_any c w
  have hz := c.toNat_lt
  cases hd : isDig c with
  | true =>
    rw [hd] at HD
    have HDD := Lib.hid hd; clear hd
    go_enter Tryz.func91, Tryz.ntmps91
    go_wp2_with (go_at_call 93; refine HD.out.mono ?_; rintro e w' ⟨rfl, rfl⟩)
    go_ret
    exact ⟨ret_bool (by rw [HF.out, HDD.out]; rfl), rfl⟩
  | false =>
    rw [hd] at HD
    have HDD := Lib.hid hd; clear hd
    have fin : ∀ b : Bool, b = ((decide ((97 : Int) ≤ (c.toNat : Int)) && decide ((c.toNat : Int) ≤ 122)) || ((decide ((65 : Int) ≤ (c.toNat : Int)) && decide ((c.toNat : Int) ≤ 90)) || decide ((c.toNat : Int) = 95))) → b = isPart c := fun b hb => by rw [HF.out, HDD.out, hb]; simp
    have HFI := Lib.hid fin; clear fin
    by_cases h1 : (97 : Int) ≤ (c.toNat : Int)
    · by_cases h2 : (c.toNat : Int) ≤ 122
      · go_enter Tryz.func91, Tryz.ntmps91
        go_wp2_with (go_at_call 93; refine HD.out.mono ?_; rintro e w' ⟨rfl, rfl⟩)
        go_ret
        exact ⟨ret_bool (HFI.out _ (by simp [h1, h2])), rfl⟩
      · have h3 : ¬ (c.toNat : Int) ≤ 90 := by omega
        have h4 : ¬ (c.toNat : Int) = 95 := by omega
        have h5 : (65 : Int) ≤ (c.toNat : Int) := by omega
        go_enter Tryz.func91, Tryz.ntmps91
        go_wp2_with (go_at_call 93; refine HD.out.mono ?_; rintro e w' ⟨rfl, rfl⟩)
        go_ret
        exact ⟨ret_bool (HFI.out _ (by rw [decide_eq_true h1, decide_eq_false (by omega : ¬ (c.toNat : Int) ≤ 122), decide_eq_true (by omega : (65 : Int) ≤ (c.toNat : Int)), decide_eq_false (by omega : ¬ (c.toNat : Int) ≤ 90), decide_eq_false h4]; simp; omega)), rfl⟩
    · by_cases h2 : (65 : Int) ≤ (c.toNat : Int)
      · by_cases h3 : (c.toNat : Int) ≤ 90
        · go_enter Tryz.func91, Tryz.ntmps91
          go_wp2_with (go_at_call 93; refine HD.out.mono ?_; rintro e w' ⟨rfl, rfl⟩)
          go_ret
          exact ⟨ret_bool (HFI.out _ (by simp [h2, h3])), rfl⟩
        · go_enter Tryz.func91, Tryz.ntmps91
          go_wp2_with (go_at_call 93; refine HD.out.mono ?_; rintro e w' ⟨rfl, rfl⟩)
          go_ret
          exact ⟨ret_bool (HFI.out _ (by rw [decide_eq_false (by omega : ¬ (97 : Int) ≤ (c.toNat : Int)), decide_eq_true h2, decide_eq_false (by omega : ¬ (c.toNat : Int) ≤ 90)]; simp <;> (try rfl) <;> (try omega))), rfl⟩
      · have h4 : ¬ (c.toNat : Int) = 95 := by omega
        go_enter Tryz.func91, Tryz.ntmps91
        go_wp2_with (go_at_call 93; refine HD.out.mono ?_; rintro e w' ⟨rfl, rfl⟩)
        go_ret
        exact ⟨ret_bool (HFI.out _ (by rw [decide_eq_false (by omega : ¬ (97 : Int) ≤ (c.toNat : Int)), decide_eq_false (by omega : ¬ (65 : Int) ≤ (c.toNat : Int)), decide_eq_false h4]; simp; omega)), rfl⟩

/-! ### the words that the language keeps -/
def keptW : List (List UInt8) := [[118, 97, 114], [112, 114, 111, 99], [105, 110, 116], [98, 111, 111, 108], [97, 114, 114], [102, 117, 110], [105, 110], [111, 117, 116], [105, 102], [101, 108, 115, 101], [119, 104, 105, 108, 101], [99, 97, 108, 108], [114, 101, 116, 117, 114, 110], [116, 104, 114, 111, 119], [116, 114, 121], [99, 97, 116, 99, 104], [110, 101, 119], [108, 101, 110], [116, 114, 117, 101], [102, 97, 108, 115, 101]]

theorem keptW_kept : ∀ l ∈ keptW, keptB l = true := by decide +kernel

/-- What stands between two blanks of the row of kept words. -/
def keptAt (i : Nat) : List UInt8 := (keptL.drop (i + 1)).takeWhile (fun c => c != 32)
theorem kept_between : ∀ i ∈ List.range keptL.length, keptL.getD i 0 = 32 → keptAt i = [] ∨ keptAt i ∈ keptW := by decide +kernel

theorem takeWhile_word {a b : List UInt8} (h : ∀ c ∈ a, c ≠ 32) : (a ++ 32 :: b).takeWhile (fun c => c != 32) = a := by
  induction a with
  | nil => simp
  | cons x a ih =>
    have hx : (x != 32) = true := by simpa using h x (by simp)
    rw [List.cons_append, List.takeWhile_cons, hx, if_pos rfl, ih fun c hc => h c (by simp [hc])]

theorem prefix_drop {a b : List UInt8} (h : a.isPrefixOf b = true) : ∃ c, b = a ++ c := by
  rw [List.isPrefixOf_iff_prefix] at h
  obtain ⟨c, rfl⟩ := h
  exact ⟨c, rfl⟩

theorem contains_at {s sub : List UInt8} (h : Lib.contains s sub = true) (hs : sub ≠ []) : ∃ i, i < s.length ∧ ∃ c, s.drop i = sub ++ c := by
  have key : ∀ s : List UInt8, 0 ≤ Lib.index s sub → ∃ i, i < s.length ∧ ∃ c, s.drop i = sub ++ c := by
    intro s
    induction s with
    | nil =>
      intro h
      unfold Lib.index at h
      have : sub.isEmpty = false := by cases sub with | nil => exact absurd rfl hs | cons _ _ => rfl
      rw [this] at h; simp at h
    | cons b l ih =>
      intro h
      unfold Lib.index at h
      by_cases hp : sub.isPrefixOf (b :: l) = true
      · obtain ⟨c, hc⟩ := prefix_drop hp
        exact ⟨0, by simp, c, by rw [List.drop_zero, hc]⟩
      · rw [if_neg hp] at h
        have h2 : 0 ≤ Lib.index l sub := by
          by_cases h3 : (Lib.index l sub == -1) = true
          · rw [if_pos h3] at h; omega
          · have := Lib.index_ge l sub
            have h4 : Lib.index l sub ≠ -1 := by simpa using h3
            omega
        obtain ⟨i, h5, c, h6⟩ := ih h2
        exact ⟨i + 1, by simp; omega, c, by rw [List.drop_succ_cons]; exact h6⟩
  unfold Lib.contains at h
  exact key s (by simpa using h)

theorem kept_eq (l : List UInt8) : keptB l = decide (l ∈ keptW) := by
  rw [Bool.eq_iff_iff, decide_eq_true_eq]
  refine ⟨fun h => ?_, keptW_kept l⟩
  unfold keptB at h
  simp only [Bool.and_eq_true, decide_eq_true_eq] at h
  obtain ⟨h1, h2, h3⟩ := h
  have hsp : ∀ c ∈ l, c ≠ 32 := by
    have h4 : Lib.indexByte l 32 = -1 := by have := Lib.indexByte_ge l 32; omega
    intro c hc he
    obtain ⟨k, hk, e⟩ := List.getElem_of_mem hc
    exact Lib.indexByte_none h4 k (by rw [List.getElem?_eq_getElem hk, e, he])
  obtain ⟨i, hi, c, hc⟩ := contains_at h3 (by simp)
  have hc2 : keptL.drop i = 32 :: (l ++ 32 :: c) := by rw [hc]; simp
  have h5 : keptL.getD i 0 = 32 := by
    rw [List.drop_eq_getElem_cons hi] at hc2
    rw [List.getD_eq_getElem?_getD, List.getElem?_eq_getElem hi]
    exact (List.cons.inj hc2).1
  have h6 : keptL.drop (i + 1) = l ++ 32 :: c := by
    rw [List.drop_eq_getElem_cons hi] at hc2
    exact (List.cons.inj hc2).2
  have h7 : keptAt i = l := by unfold keptAt; rw [h6]; exact takeWhile_word hsp
  rcases kept_between i (List.mem_range.2 hi) h5 with h8 | h8
  · rw [h7] at h8; exact absurd h8 h1
  · rw [h7] at h8; exact h8

def keptV : List ByteArray := keptW.map mkB
def keptCells : Array Value := #[.string ⟨#[118, 97, 114]⟩, .string ⟨#[112, 114, 111, 99]⟩, .string ⟨#[105, 110, 116]⟩, .string ⟨#[98, 111, 111, 108]⟩, .string ⟨#[97, 114, 114]⟩, .string ⟨#[102, 117, 110]⟩, .string ⟨#[105, 110]⟩, .string ⟨#[111, 117, 116]⟩, .string ⟨#[105, 102]⟩, .string ⟨#[101, 108, 115, 101]⟩, .string ⟨#[119, 104, 105, 108, 101]⟩, .string ⟨#[99, 97, 108, 108]⟩, .string ⟨#[114, 101, 116, 117, 114, 110]⟩, .string ⟨#[116, 104, 114, 111, 119]⟩, .string ⟨#[116, 114, 121]⟩, .string ⟨#[99, 97, 116, 99, 104]⟩, .string ⟨#[110, 101, 119]⟩, .string ⟨#[108, 101, 110]⟩, .string ⟨#[116, 114, 117, 101]⟩, .string ⟨#[102, 97, 108, 115, 101]⟩]
theorem keptCells_eq : keptCells = (keptV.map Value.string).toArray := rfl
theorem keptV_len : keptV.length = 20 := rfl

theorem kept_mem (s : ByteArray) : keptB s.data.toList = true ↔ s ∈ keptV := by
  rw [kept_eq, decide_eq_true_eq]
  unfold keptV
  rw [List.mem_map]
  constructor
  · intro h; exact ⟨_, h, mkB_data s⟩
  · rintro ⟨l, hl, rfl⟩; rw [data_mkB]; exact hl

set_option maxRecDepth 100000 in
theorem rkept_any (s : ByteArray) (w : World) :
    Calls Tryz.prog 92 #[.string s] w fun e w' => e = .returned (.bool (keptB s.data.toList)) ∧ Hid (Below w.heap.size w w') := by
  obtain ⟨wa, hwa⟩ : ∃ wa, wa = w.alloc (.cells keptCells 9) := ⟨_, rfl⟩
  have hb : Below w.heap.size w wa := by rw [hwa]; exact (Below.refl _ w).alloc (Nat.le_refl _) _
  have hc : ∀ (k : Nat) (h : k < keptV.length), wa.cell? ⟨w.heap.size, k, none⟩ = some (.string keptV[k]) := fun k h => by
    rw [hwa, Lib.cell_of_heap (heap_alloc_new w (.cells keptCells 9 (0, 0))), keptCells_eq]
    simp [h]
  have HB := Lib.hid hb; have HC := Lib.hid hc
  have HW : Hid (w.alloc (.cells keptCells 9) = wa) := hwa.symm
  have HM := Lib.hid (kept_mem s)
  clear hb hc hwa
  go_enter Tryz.func92, Tryz.ntmps92
  go_wp2_with fail
  have hw2 := HW.out
  unfold keptCells at hw2
  rw [hw2]
  clear hw2
  go_loopw [4] (fun i wr => ∃ k : Nat, k ≤ 20 ∧ i = .int .i64 k ∧ Hid (∀ (j : Nat) (h : j < keptV.length), j < k → keptV[j] ≠ s) ∧ wr = wa) (fun i _ => 20 - (intOf i).toNat)
  case atStart => exact ⟨0, Nat.zero_le _, rfl, fun j h hj => absurd hj (Nat.not_lt_zero j), rfl⟩
  case round =>
    obtain ⟨k, hk, rfl, HJ, rfl⟩ := hrel
    by_cases hlt : k < 20
    · have hk2 : k < keptV.length := hlt
      have d1 := HC.out k hk2
      by_cases he : keptV[k] = s
      · have hmem : s ∈ keptV := by rw [← he]; exact List.getElem_mem hk2
        have HF : Hid (keptB s.data.toList = true) := by show _ = _; exact HM.out.2 hmem
        have hb2 : (keptV[k].toList == s.toList) = true := by rw [he]; simp
        clear hmem he
        generalize keptV[k] = q at *
        go_wp2
        go_ret
        exact ⟨ret_bool HF.out.symm, HB.out⟩
      · have HJ2 : Hid (∀ (j : Nat) (h : j < keptV.length), j < k + 1 → keptV[j] ≠ s) := fun j h hj => by
          by_cases e : j = k
          · subst e; exact he
          · exact HJ.out j h (by omega)
        have hb2 : (keptV[k].toList == s.toList) = false := by
          rw [beq_eq_false_iff_ne]
          intro e
          apply he
          rw [ByteArray.toList_eq, ByteArray.toList_eq] at e
          exact data_inj e
        clear he
        generalize keptV[k] = q at *
        go_wp2
        go_roundw
        case rel => exact ⟨k + 1, by omega, by go_num, HJ2, trivial⟩
        case measure => simp [intOf]; omega
    · obtain rfl : k = 20 := by omega
      have hnm : s ∉ keptV := fun hm => by
        obtain ⟨j, hj, e⟩ := List.getElem_of_mem hm
        exact HJ.out j hj (by have := keptV_len; omega) e
      have HF : Hid (keptB s.data.toList = false) := by show _ = _; exact Bool.eq_false_iff.2 fun h => hnm (HM.out.1 h)
      clear hnm
      go_wp2
      go_ret
      exact ⟨ret_bool HF.out.symm, HB.out⟩

set_option maxRecDepth 100000 in
theorem rident_any (s : ByteArray) (w : World) (hs : s.size ≤ 140737488351232) :
    Calls Tryz.prog 73 #[.string s] w fun e w' => e = .returned (.bool (identOk s.data.toList)) ∧ Hid (Below w.heap.size w w') := by
  have hlen : s.data.toList.length = s.size := by simp
  have HLEN := Lib.hid hlen; clear hlen
  go_enter Tryz.func73, Tryz.ntmps73
  go_wp2_with fail
  go_loopw [3] (fun i wr => ∃ k : Nat, k ≤ s.size ∧ i = .int .i64 k ∧ Hid ((s.data.toList.take k).all isPart = true) ∧ wr = w) (fun i _ => s.size - (intOf i).toNat)
  case atStart => exact ⟨0, Nat.zero_le _, rfl, rfl, rfl⟩
  case round =>
    obtain ⟨k, hk, rfl, HA, rfl⟩ := hrel
    by_cases hlt : k < s.size
    · have hlt' : k < s.data.toList.length := by rw [HLEN.out]; exact hlt
      cases hp : isPart s[k] with
      | true =>
        have HA2 : Hid ((s.data.toList.take (k + 1)).all isPart = true) := by
          show _ = _
          rw [List.take_succ_eq_append_getElem hlt', List.all_append, HA.out, Bool.true_and, List.all_cons, List.all_nil]
          have : s.data.toList[k] = s[k] := rfl
          rw [this, hp]; rfl
        have HP : Hid (Calls Tryz.prog 91 #[.int .u8 s[k].toNat] wr fun e w' => e = .returned (.bool true) ∧ wr = w') := by
          have := part_any s[k] wr; rw [hp] at this; exact this
        clear hp
        go_wp2_with (go_at_call 91; refine HP.out.mono ?_; rintro e w' ⟨rfl, rfl⟩)
        go_roundw
        case rel => exact ⟨k + 1, by omega, by go_num, HA2, trivial⟩
        case measure => simp [intOf]; omega
      | false =>
        have HF : Hid (identOk s.data.toList = false) := by
          show _ = _
          have h1 : s.data.toList.all isPart = false := by
            rw [List.all_eq_false]; exact ⟨s[k], List.getElem_mem hlt', by rw [hp]; simp⟩
          unfold identOk
          rw [h1]; simp
        have HP : Hid (Calls Tryz.prog 91 #[.int .u8 s[k].toNat] wr fun e w' => e = .returned (.bool false) ∧ wr = w') := by
          have := part_any s[k] wr; rw [hp] at this; exact this
        clear hp
        go_wp2_with (go_at_call 91; refine HP.out.mono ?_; rintro e w' ⟨rfl, rfl⟩)
        go_ret
        exact ⟨ret_bool HF.out.symm, Below.refl _ _⟩
    · obtain rfl : k = s.size := by omega
      have hall : s.data.toList.all isPart = true := by have := HA.out; rwa [← HLEN.out, List.take_length] at this
      have HALL := Lib.hid hall; clear hall
      have HK : Hid (∀ wx : World, Calls Tryz.prog 92 #[.string s] wx fun e w' => e = .returned (.bool (keptB s.data.toList)) ∧ Hid (Below wx.heap.size wx w')) := fun wx => rkept_any s wx
      by_cases h0 : s.size = 0
      · have HF : Hid (identOk s.data.toList = false) := by
          show _ = _
          rw [List.eq_nil_of_length_eq_zero (l := s.data.toList) (by rw [HLEN.out]; exact h0)]; rfl
        go_wp2_with (go_at_call 92; refine (HK.out _).mono ?_; rintro e w1 ⟨rfl, hb1⟩)
        go_ret
        exact ⟨ret_bool HF.out.symm, hb1⟩
      · by_cases h20 : 20 < s.size
        · have HF : Hid (identOk s.data.toList = false) := by
            show _ = _
            unfold identOk
            rw [decide_eq_false (p := s.data.toList.length ≤ 20) (by rw [HLEN.out]; omega)]; simp
          go_wp2_with (go_at_call 92; refine (HK.out _).mono ?_; rintro e w1 ⟨rfl, hb1⟩)
          go_ret
          exact ⟨ret_bool HF.out.symm, hb1⟩
        · have hpos : 0 < s.size := by omega
          have HF : Hid (identOk s.data.toList = (!isDig s[0] && !keptB s.data.toList)) := by
            show _ = _
            have hh : s.data.toList.headD 0 = s[0] := by
              rw [List.headD_eq_head?_getD, List.head?_eq_getElem?, List.getElem?_eq_getElem (by rw [HLEN.out]; omega)]; rfl
            have hne : s.data.toList ≠ [] := fun e => by have := HLEN.out; rw [e] at this; simp at this; omega
            unfold identOk
            rw [decide_eq_true hne, decide_eq_true (p := s.data.toList.length ≤ 20) (by rw [HLEN.out]; omega), HALL.out, hh, dig_eq]; simp
          have HD : Hid (∀ wx : World, Calls Tryz.prog 93 #[.int .u8 s[0].toNat] wx fun e w' => e = .returned (.bool (isDig s[0])) ∧ wx = w') := fun wx => digit_any _ wx
          go_wp2_with (first | (go_at_call 92; refine (HK.out _).mono ?_; rintro e w1 ⟨rfl, hb1⟩; have HB1 := Lib.hid hb1; clear hb1) | (go_at_call 93; refine (HD.out _).mono ?_; rintro e w' ⟨rfl, rfl⟩))
          all_goals
            go_ret
            exact ⟨ret_bool (by rw [HF.out]; simp [*]), HB1.out⟩
end Go.Proofs.YtckpffkofeoinaaGreatDoor
