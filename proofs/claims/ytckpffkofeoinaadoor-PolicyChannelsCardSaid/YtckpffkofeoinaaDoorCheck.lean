/- levels.check, and the search for a name that is none. -/
import Derived.Test.YtckpffkofeoinaaDoorLev2
import Derived.Test.YtckpffkofeoinaaDoorName
namespace Go.Proofs.YtckpffkofeoinaaDoor
open Go.RowKit

def okS (s : ByteArray) : Bool := nameOk s.data.toList
/-- No string is longer than may be read. -/
def ShortS (zs : List ByteArray) : Prop := ∀ s ∈ zs, s.size ≤ 140737488351232

set_option maxRecDepth 100000 in
theorem checkF_any (s : ByteArray) (w : World) (hs : s.size ≤ 140737488351232) :
    Calls Tryd.prog 62 #[.string s] w fun e w' => e = .returned (.bool (!okS s)) ∧ Below w.heap.size w w' := by
  go_enter Tryd.func62, Tryd.ntmps62
  go_wp2_with (go_at_call 41; refine (name_any s _ hs).mono ?_; rintro e w' ⟨rfl, hb⟩)
  go_ret
  exact ⟨ret_bool rfl, hb⟩

set_option maxRecDepth 100000 in
theorem idxF_str (A : Option Addr) (c n : Nat) (zs : List ByteArray) (w : World) (hn : zs.length = n) (hr : Rd w A (zs.map Value.string)) (hs : ShortS zs) (hl : zs.length ≤ 140737488355328) :
    Calls Tryd.prog 73 #[.slice A n c, .func (.func 62) #[] #[]] w fun e w' => (∃ i : Int, e = .returned (.int .i64 i) ∧ Hid (decide (i ≥ 0) = !zs.all okS)) ∧ Below w.heap.size w w' := by
  subst hn
  go_enter Tryd.func73, Tryd.ntmps73
  have HR := Lib.hid hr; have HS := Lib.hid hs; clear hr hs
  go_wp2
  go_loopw [8] (fun i wr => ∃ k : Nat, k ≤ zs.length ∧ i = .int .i64 k ∧ Hid ((zs.take k).all okS = true) ∧ Below w.heap.size w wr) (fun i _ => zs.length - (intOf i).toNat)
  case atStart => exact ⟨0, Nat.zero_le _, rfl, rfl, Below.refl _ _⟩
  case round =>
    obtain ⟨k, hk, rfl, HA, hB⟩ := hrel
    by_cases hlt : k < zs.length
    · obtain ⟨b, o, hA, hc⟩ := (HR.out.below hB).at (j := k) (v := Value.string zs[k]) (by simp [hlt])
      subst hA
      have hsz : zs[k].size ≤ 140737488351232 := HS.out _ (List.getElem_mem hlt)
      cases hok : okS zs[k] with
      | true =>
        have hk1 : Hid ((zs.take (k + 1)).all okS = true) := by
          show _ = true
          rw [List.take_succ_eq_append_getElem hlt, List.all_append, HA.out, Bool.true_and, List.all_cons, List.all_nil, hok]; rfl
        have HOK := Lib.hid hok; clear hok
        generalize zs[k] = s at *
        go_wp2_with (go_at_call 62; refine (checkF_any s _ hsz).mono ?_; rintro e w' ⟨rfl, hb⟩; rw [HOK.out]; have HB' := Lib.hid (hB.trans (hb.mono hB.size)); clear hb)
        go_roundw
        case rel => exact ⟨k + 1, by omega, by go_num, hk1, HB'.out⟩
        case measure => simp [intOf]; omega
      | false =>
        have hfin : zs.all okS = false := by rw [List.all_eq_false]; exact ⟨_, List.getElem_mem hlt, by rw [hok]; simp⟩
        have HF := Lib.hid hfin; clear hfin
        have HOK := Lib.hid hok; clear hok
        generalize zs[k] = s at *
        go_wp2_with (go_at_call 62; refine (checkF_any s _ hsz).mono ?_; rintro e w' ⟨rfl, hb⟩; rw [HOK.out]; have HB' := Lib.hid (hB.trans (hb.mono hB.size)); clear hb)
        go_ret
        exact ⟨⟨_, rfl, by rw [HF.out]; exact decide_eq_true (Int.natCast_nonneg _)⟩, HB'.out⟩
    · have hfin : zs.all okS = true := by have := HA.out; rwa [List.take_of_length_le (by omega)] at this
      have HF := Lib.hid hfin; clear hfin
      go_wp2
      go_ret
      exact ⟨⟨_, rfl, by rw [HF.out]; rfl⟩, hB⟩

set_option maxRecDepth 100000 in
theorem conF_str (A : Option Addr) (c n : Nat) (zs : List ByteArray) (w : World) (hn : zs.length = n) (hr : Rd w A (zs.map Value.string)) (hs : ShortS zs) (hl : zs.length ≤ 140737488355328) :
    Calls Tryd.prog 61 #[.slice A n c, .func (.func 62) #[] #[]] w fun e w' => e = .returned (.bool (!zs.all okS)) ∧ Below w.heap.size w w' := by
  have HR := Lib.hid hr; have HS := Lib.hid hs; have HN := Lib.hid hn; clear hr hs hn
  go_enter Tryd.func61, Tryd.ntmps61
  go_wp2_with (go_at_call 73; refine (idxF_str _ _ _ _ _ HN.out HR.out HS.out hl).mono ?_; rintro e w' ⟨⟨i, rfl, HI⟩, hb⟩)
  go_ret
  exact ⟨ret_bool HI.out, hb⟩

/-- A name that stands twice, among the first k. -/
def dupTo (names : List ByteArray) (k : Nat) : Bool := (List.range k).any fun i => Lib.containsS (names.take i) (names.getD i ByteArray.empty)
def checkE (names : List ByteArray) : Int :=
  if names.length = 0 ∨ 16 < names.length then 8 else if names.all okS = false then 3 else if dupTo names names.length then 4 else 0

set_option maxRecDepth 100000 in
theorem check_any (A : Option Addr) (c n : Nat) (zs : List ByteArray) (w : World) (hn : zs.length = n) (hc : n ≤ c) (hr : Rd w A (zs.map Value.string)) (hs : ShortS zs) (hl : zs.length ≤ 140737488355328) (hcl : c ≤ 9223372036854775807) :
    Calls Tryd.prog 44 #[.slice A n c] w fun e w' => e = .returned (.int .i64 (checkE zs)) ∧ Below w.heap.size w w' := by
  subst hn
  by_cases h0 : zs.length = 0 ∨ 16 < zs.length
  · have hfin : checkE zs = 8 := by rw [checkE, if_pos h0]
    rw [hfin]; clear hfin
    rcases h0 with h0 | h0
    · have hb : ((zs.length : Int) == 0) = true := by simp [h0]
      have H0 := Lib.hid h0; clear h0
      go_enter Tryd.func44, Tryd.ntmps44
      go_wp2_with fail
      go_ret
      exact ⟨rfl, Below.refl _ _⟩
    · have hb : ((zs.length : Int) == 0) = false := by rw [beq_eq_false_iff_ne]; omega
      go_enter Tryd.func44, Tryd.ntmps44
      go_wp2_with fail
      go_ret
      exact ⟨rfl, Below.refl _ _⟩
  · have hpos : 0 < zs.length := by omega
    have hle : zs.length ≤ 16 := by omega
    have hb : ((zs.length : Int) == 0) = false := by rw [beq_eq_false_iff_ne]; omega
    have HR := Lib.hid hr; have HS := Lib.hid hs; clear hr hs
    have hchk : checkE zs = if zs.all okS = false then 3 else if dupTo zs zs.length then 4 else 0 := by rw [checkE, if_neg h0]
    have HC := Lib.hid hchk; clear hchk h0
    cases hall : zs.all okS with
    | false =>
      have hfin : checkE zs = 3 := by rw [HC.out, if_pos hall]
      rw [hfin]; clear hfin
      have HA := Lib.hid hall; clear hall
      go_enter Tryd.func44, Tryd.ntmps44
      go_wp2_with (go_at_call 61; refine (conF_str _ _ _ _ _ rfl HR.out HS.out hl).mono ?_; rintro e w' ⟨rfl, hb⟩; rw [HA.out])
      go_ret
      exact ⟨rfl, by assumption⟩
    | true =>
      have hfin : checkE zs = if dupTo zs zs.length then 4 else 0 := by rw [HC.out, if_neg (by rw [hall]; simp)]
      have HF := Lib.hid hfin; clear hfin
      have HA := Lib.hid hall; clear hall
      go_enter Tryd.func44, Tryd.ntmps44
      go_wp2_with (go_at_call 61; refine (conF_str _ _ _ _ _ rfl HR.out HS.out hl).mono ?_; rintro e w1 ⟨rfl, hB⟩; rw [HA.out])
      go_loop [17] (fun i => ∃ k : Nat, k ≤ zs.length ∧ i = .int .i64 k ∧ Hid (dupTo zs k = false)) (fun i => zs.length - (intOf i).toNat)
      case atStart => exact ⟨0, Nat.zero_le _, rfl, rfl⟩
      case round =>
        obtain ⟨k, hk, rfl, HD⟩ := hrel
        by_cases hlt : k < zs.length
        · have hr1 := HR.out.below hB
          obtain ⟨b, o, hA, hc1⟩ := hr1.at (j := k) (v := Value.string zs[k]) (by simp [hlt])
          subst hA
          have hr2 : Hid (Rd w1 (some ⟨b, o, none⟩) ((zs.take k).map Value.string)) := by
            rcases hr1 with e | ⟨b', o', e, h⟩
            · simp at e; rw [e] at hlt; simp at hlt
            · refine .inr ⟨b', o', e, fun j v hj => h j v ?_⟩
              rw [List.getElem?_map, List.getElem?_take] at hj
              rw [List.getElem?_map]
              split at hj
              · exact hj
              · simp at hj
          have hdk : dupTo zs (k + 1) = Lib.containsS (zs.take k) zs[k] := by
            have := HD.out
            simp only [dupTo] at this ⊢
            rw [List.range_succ, List.any_append, this, Bool.false_or, List.any_cons, List.any_nil, Bool.or_false, List.getD_eq_getElem?_getD, List.getElem?_eq_getElem hlt]; rfl
          have hlen : Hid ((zs.take k).length = k) := by show _ = _; rw [List.length_take]; omega
          have HDK := Lib.hid hdk; clear hdk hr1
          cases hd : Lib.containsS (zs.take k) zs[k] with
          | true =>
            have hfin : checkE zs = 4 := by
              rw [HF.out, if_pos]
              simp only [dupTo, List.any_eq_true, List.mem_range]
              exact ⟨k, hlt, by rw [List.getD_eq_getElem?_getD, List.getElem?_eq_getElem hlt]; exact hd⟩
            have HFF := Lib.hid hfin; have HDD := Lib.hid hd; clear hfin hd
            generalize zs[k] = s at *
            go_wp2_with (go_at_call 42; refine (con_str _ _ _ (zs.take k) s _ hr2.out hlen.out (by omega)).mono ?_; rintro e w' ⟨rfl, rfl⟩; rw [HDD.out])
            go_ret
            exact ⟨ret_int HFF.out.symm, hB⟩
          | false =>
            have hnx : Hid (dupTo zs (k + 1) = false) := by show _ = false; rw [HDK.out, hd]
            have HDD := Lib.hid hd; clear hd
            generalize zs[k] = s at *
            go_wp2_with (go_at_call 42; refine (con_str _ _ _ (zs.take k) s _ hr2.out hlen.out (by omega)).mono ?_; rintro e w' ⟨rfl, rfl⟩; rw [HDD.out])
            go_round
            case rel => exact ⟨k + 1, by omega, by go_num, hnx⟩
            case measure => simp [intOf]; omega
        · have hfin : checkE zs = 0 := by
            have hd := HD.out
            obtain rfl : k = zs.length := by omega
            rw [HF.out, hd]; rfl
          have HFF := Lib.hid hfin; clear hfin
          go_wp2
          go_ret
          exact ⟨ret_int HFF.out.symm, hB⟩
end Go.Proofs.YtckpffkofeoinaaDoor
