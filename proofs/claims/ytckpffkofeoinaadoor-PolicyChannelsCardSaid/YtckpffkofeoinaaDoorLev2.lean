/- The walks of functions of package levels that read a lattice; Name. -/
import Derived.Test.YtckpffkofeoinaaDoorLev1
import Derived.Test.YtckpffkofeoinaaDoorLat
namespace Go.Proofs.YtckpffkofeoinaaDoor
open Go.RowKit

theorem idxOf_at {l : List Nat} {k s : Nat} (hk : k < l.length) (hs : l[k] = s) (hn : s ∉ l.take k) : l.idxOf s = k := by
  have e : l = l.take k ++ l[k] :: l.drop (k + 1) := by simp
  rw [e, List.idxOf_append, if_neg hn, hs, List.idxOf_cons_self, List.length_take]
  omega

set_option maxRecDepth 100000 in
theorem idx_set (A : Option Addr) (c n : Nat) (l : List Nat) (s : Nat) (w : World) (hr : Rd w A (u32s l)) (hn : l.length = n) (hl : n ≤ 140737488355328) :
    Calls Tryd.prog 74 #[.slice A n c, .int .u32 s] w fun e w' => e = .returned (.int .i64 (firstI l s)) ∧ w = w' := by
  subst hn
  go_enter Tryd.func74, Tryd.ntmps74
  have HR := Lib.hid hr; clear hr
  go_wp2
  go_loop [8] (fun i => ∃ k : Nat, k ≤ l.length ∧ i = .int .i64 k ∧ Hid (s ∉ l.take k)) (fun i => l.length - (intOf i).toNat)
  case atStart => exact ⟨0, Nat.zero_le _, rfl, by simp [Hid]⟩
  case round =>
    obtain ⟨k, hk, rfl, HA⟩ := hrel
    by_cases hlt : k < l.length
    · obtain ⟨b, o, hA, hc⟩ := HR.out.at (j := k) (v := Value.int .u32 l[k]) (by simp [u32s, hlt])
      subst hA
      by_cases hs : s = l[k]
      · have hs1 : ((s : Int) == (l[k] : Int)) = true := by simp [hs]
        have HS := Lib.hid hs; clear hs
        go_wp2
        go_ret
        refine ⟨ret_int ?_, rfl⟩
        have hm : s ∈ l := by rw [HS.out]; exact List.getElem_mem hlt
        rw [firstI, if_pos hm]
        congr 1
        exact (idxOf_at hlt HS.out.symm HA.out).symm
      · have hs1 : ((s : Int) == (l[k] : Int)) = false := by simp; omega
        have HS : Hid (s ∉ l.take (k + 1)) := by
          show ¬ _
          rw [List.take_succ_eq_append_getElem hlt]
          simp only [List.mem_append, List.mem_singleton, not_or]
          exact ⟨HA.out, hs⟩
        clear hs
        go_wp2
        go_round
        case rel => exact ⟨k + 1, by omega, by go_num, HS⟩
        case measure => simp [intOf]; omega
    · go_wp2
      go_ret
      refine ⟨ret_int ?_, rfl⟩
      have := HA.out
      rw [List.take_of_length_le (by omega)] at this
      rw [firstI, if_neg this]

set_option maxRecDepth 100000 in
theorem first_any (A : Option Addr) (c n : Nat) (l : List Nat) (s : Nat) (w : World) (hr : Rd w A (u32s l)) (hn : l.length = n) (hl : n ≤ 140737488355328) :
    Calls Tryd.prog 63 #[.slice A n c, .int .u32 s] w fun e w' => e = .returned (.int .i64 (firstI l s)) ∧ w = w' := by
  go_enter Tryd.func63, Tryd.ntmps63
  have HR := Lib.hid hr; clear hr
  have HN := Lib.hid hn; clear hn
  go_wp2_with (go_at_call 74; refine (idx_set _ _ _ _ _ _ HR.out HN.out hl).mono ?_; rintro e w' ⟨rfl, rfl⟩)
  go_ret
  exact ⟨ret_int rfl, rfl⟩

/-- A name's place. -/
def placeI (names : List ByteArray) (s : ByteArray) : Int := Lib.idxOfS names s

theorem idx_str (A : Option Addr) (c n : Nat) (l : List ByteArray) (s : ByteArray) (w : World) (hr : Rd w A (l.map Value.string)) (hn : l.length = n) (hl : n ≤ 140737488355328) :
    Calls Tryd.prog 43 #[.slice A n c, .string s] w fun e w' => e = .returned (.int .i64 (placeI l s)) ∧ w' = w := by
  subst hn
  cases l with
  | nil => exact Tryd.slices_Index_string_empty A c s w
  | cons x l =>
    rcases hr with h | ⟨b, o, rfl, h⟩
    · simp at h
    · have h2 := Tryd.slices_Index_string b o (x :: l).length c (x :: l) s w (Nat.le_refl _) (by omega) (fun j hj => h j _ (by rw [List.getElem?_map, List.getD_eq_getElem?_getD, List.getElem?_eq_getElem hj]; rfl))
      rw [List.take_length] at h2
      exact h2

theorem con_str (A : Option Addr) (c n : Nat) (l : List ByteArray) (s : ByteArray) (w : World) (hr : Rd w A (l.map Value.string)) (hn : l.length = n) (hl : n ≤ 140737488355328) :
    Calls Tryd.prog 42 #[.slice A n c, .string s] w fun e w' => e = .returned (.bool (Lib.containsS l s)) ∧ w' = w := by
  subst hn
  cases l with
  | nil => exact Tryd.slices_Contains_string_empty A c s w
  | cons x l =>
    rcases hr with h | ⟨b, o, rfl, h⟩
    · simp at h
    · have h2 := Tryd.slices_Contains_string b o (x :: l).length c (x :: l) s w (Nat.le_refl _) (by omega) (fun j hj => h j _ (by rw [List.getElem?_map, List.getD_eq_getElem?_getD, List.getElem?_eq_getElem hj]; rfl))
      rw [List.take_length] at h2
      exact h2

set_option maxRecDepth 100000 in
theorem place_any (p : Nat) (L : LatD) (s : ByteArray) (w : World) (h : Lat w p L) :
    Calls Tryd.prog 45 #[.pointer (some ⟨p, 0, none⟩), .string s] w fun e w' => e = .returned (.int .i64 (placeI L.names s)) ∧ w' = w := by
  obtain ⟨an, cn, au, cu, ad, cd, h0, h1, h2, r0, r1, r2, l0, l1, l2, ok⟩ := h.cells
  have := ok.le
  have HR := Lib.hid r0; clear r0
  clear r1 r2 h1 h2
  go_enter Tryd.func45, Tryd.ntmps45
  go_wp2_with (go_at_call 43; refine (idx_str _ _ _ _ _ _ HR.out rfl (by omega)).mono ?_; rintro e w' ⟨rfl, rfl⟩)
  go_ret
  exact ⟨ret_int rfl, rfl⟩

def belowB (L : LatD) (a b : Int) : Bool := decide (0 ≤ a ∧ 0 ≤ b ∧ a < L.names.length ∧ b < L.names.length) && (L.up.getD a.toNat 0).testBit b.toNat

set_option maxRecDepth 100000 in
theorem below_any (p : Nat) (L : LatD) (a b : Int) (w : World) (h : Lat w p L) :
    Calls Tryd.prog 32 #[.pointer (some ⟨p, 0, none⟩), .int .i64 a, .int .i64 b] w fun e w' => e = .returned (.bool (belowB L a b)) ∧ w = w' := by
  obtain ⟨an, cn, au, cu, ad, cd, h0, h1, h2, r0, r1, r2, l0, l1, l2, ok⟩ := h.cells
  clear r0 r2 h2 h
  by_cases hw : 0 ≤ a ∧ 0 ≤ b ∧ a < L.names.length ∧ b < L.names.length
  · have hd : decide (0 ≤ a ∧ 0 ≤ b ∧ a < L.names.length ∧ b < L.names.length) = true := decide_eq_true hw
    have HD := Lib.hid hd; clear hd
    obtain ⟨ha, hb, ha2, hb2⟩ := hw
    have hup : L.up.length = L.names.length := ok.up
    have hc := r1.at (j := a.toNat) (v := Value.int .u32 ((L.up.getD a.toNat 0 : Nat) : Int)) (by simp [u32s, List.getD_eq_getElem?_getD]; rw [List.getElem?_eq_getElem (by omega)]; simp)
    obtain ⟨g, o, rfl, hc⟩ := hc
    have hs : L.up.getD a.toNat 0 ≤ 65535 := LatD.Ok.lt ok.le (ok.upB _ (by rw [List.getD_eq_getElem?_getD, List.getElem?_eq_getElem (by omega)]; exact List.getElem_mem _))
    have hle := ok.le
    have hfin : belowB L a b = (L.up.getD a.toNat 0).testBit b.toNat := by rw [belowB, HD.out, Bool.true_and]
    rw [hfin]
    have HU := Lib.hid hup; clear hup hfin r1 ok
    generalize L.up.getD a.toNat 0 = s at *
    go_enter Tryd.func32, Tryd.ntmps32
    go_wp2_with (first | (go_at_call 53; refine (within_any _ _ _ _ _ _ _ h0).mono ?_; rintro e w' ⟨rfl, rfl⟩; rw [HD.out]) | (go_at_call 46; refine (has_any _ _ _ (by omega) (by omega) (by omega)).mono ?_; rintro e w' ⟨rfl, rfl⟩))
    go_ret
    exact ⟨ret_bool rfl, rfl⟩
  · have hd : decide (0 ≤ a ∧ 0 ≤ b ∧ a < L.names.length ∧ b < L.names.length) = false := decide_eq_false hw
    have HD := Lib.hid hd; clear hd hw
    have hfin : belowB L a b = false := by rw [belowB, HD.out, Bool.false_and]
    rw [hfin]
    go_enter Tryd.func32, Tryd.ntmps32
    go_wp2_with (go_at_call 53; refine (within_any _ _ _ _ _ _ _ h0).mono ?_; rintro e w' ⟨rfl, rfl⟩; rw [HD.out])
    go_ret
    exact ⟨ret_bool rfl, rfl⟩

set_option maxRecDepth 100000 in
theorem len_any (p : Nat) (L : LatD) (w : World) (h : Lat w p L) :
    Calls Tryd.prog 12 #[.pointer (some ⟨p, 0, none⟩)] w fun e w' => e = .returned (.int .i64 L.names.length) ∧ w = w' := by
  obtain ⟨an, cn, au, cu, ad, cd, h0, h1, h2, r0, r1, r2, l0, l1, l2, ok⟩ := h.cells
  clear r0 r1 r2 h1 h2 ok h
  go_enter Tryd.func12, Tryd.ntmps12
  go_wp2
  go_ret
  exact ⟨ret_int rfl, rfl⟩
end Go.Proofs.YtckpffkofeoinaaDoor
