/- token.Ident. -/
import Derived.Test.YtckpffkofeoinaaDoorPPol
import Derived.Lib.ConvBytes
import Derived.Laws.BytesArg
namespace Go.Proofs.YtckpffkofeoinaaDoor
open Go.RowKit

/-- The cell of internal/bytealg.MaxLen holds some number. -/
def MaxL (w : World) : Prop := ∃ m, w.cell? ⟨0, 0, none⟩ = some (.int .i64 m)
theorem MaxL.below {w w' : World} (h : MaxL w) (hb : Below w.heap.size w w') : MaxL w' := by
  obtain ⟨m, hm⟩ := h
  exact ⟨m, by rw [hb.cell (World.block_lt_of_cell? w _ hm)]; exact hm⟩

set_option maxRecDepth 100000 in
theorem partF_any (b : Nat) (ps : ByteArray) (c : UInt8) (w : World) (hb : w.cell? ⟨b, 0, none⟩ = some (.string ps)) :
    Calls Tryd.prog 34 #[.int .u8 c.toNat, .pointer (some ⟨b, 0, none⟩)] w fun e w' => e = .returned (.bool (decide (Lib.indexByte ps.data.toList c < 0))) ∧ w = w' := by
  have hs : ∀ w : World, Calls Tryd.prog 18 #[.string ps, .int .u8 c.toNat] w fun e w' => e = .returned (.int .i64 (Lib.indexByte ps.data.toList c)) ∧ w' = w := fun w => by
    have h := Tryd.strings_IndexByte ps c.toNat w
    have e : (c.toNat : Int).toNat.toUInt8 = c := by simp
    rw [e] at h; exact h
  go_enter Tryd.func34, Tryd.ntmps34
  go_wp2_with (go_at_call 18; refine (hs _).mono ?_; rintro e w' ⟨rfl, rfl⟩)
  go_ret
  exact ⟨ret_bool rfl, rfl⟩

set_option maxRecDepth 100000 in
theorem idxP_byte (A : Option Addr) (c n b : Nat) (ps : ByteArray) (p : UInt8 → Bool) (hp : ∀ c, p c = !decide (Lib.indexByte ps.data.toList c < 0)) (zs : List UInt8) (w : World) (hb : w.cell? ⟨b, 0, none⟩ = some (.string ps)) (hn : zs.length = n) (hr : Rd w A (zs.map fun (z : UInt8) => Value.int .u8 z.toNat)) (hl : zs.length ≤ 140737488355328) :
    Calls Tryd.prog 54 #[.slice A n c, .func (.func 34) #[] #[.pointer (some ⟨b, 0, none⟩)]] w fun e w' => (∃ i : Int, e = .returned (.int .i64 i) ∧ decide (i ≥ 0) = !zs.all p) ∧ w = w' := by
  subst hn
  go_enter Tryd.func54, Tryd.ntmps54
  have HR := Lib.hid hr; have HB := Lib.hid hb; have HP := Lib.hid hp; clear hr hb hp
  go_wp2
  go_loop [8] (fun i => ∃ k : Nat, k ≤ zs.length ∧ i = .int .i64 k ∧ (zs.take k).all p = true) (fun i => zs.length - (intOf i).toNat)
  case atStart => exact ⟨0, Nat.zero_le _, rfl, by simp⟩
  case round =>
    obtain ⟨k, hk, rfl, hall⟩ := hrel
    have HA := Lib.hid hall; clear hall
    by_cases hlt : k < zs.length
    · obtain ⟨b, o, hA, hc⟩ := HR.out.at (j := k) (v := Value.int .u8 zs[k].toNat) (by simp [hlt])
      subst hA
      have hq := HP.out zs[k]
      by_cases hs : p zs[k] = true
      · have hn : decide (Lib.indexByte ps.data.toList zs[k] < 0) = false := by rw [hs] at hq; simpa using hq.symm
        have hk1 : (zs.take (k + 1)).all p = true := by rw [List.take_succ_eq_append_getElem hlt, List.all_append, HA.out, Bool.true_and, List.all_cons, List.all_nil, hs]; rfl
        have HS := Lib.hid hk1; clear hk1 hs hq
        have HN := Lib.hid hn; clear hn
        go_wp2_with (go_at_call 34; refine (partF_any _ _ _ _ HB.out).mono ?_; rintro e w' ⟨rfl, rfl⟩; rw [HN.out])
        go_round
        case rel => exact ⟨k + 1, by omega, by go_num, HS.out⟩
        case measure => simp [intOf]; omega
      · have hn : decide (Lib.indexByte ps.data.toList zs[k] < 0) = true := by
          have e : p zs[k] = false := by simpa using hs
          rw [e] at hq; simpa using hq.symm
        have HS := Lib.hid hs; clear hs hq
        have HN := Lib.hid hn; clear hn
        go_wp2_with (go_at_call 34; refine (partF_any _ _ _ _ HB.out).mono ?_; rintro e w' ⟨rfl, rfl⟩; rw [HN.out])
        go_ret
        refine ⟨⟨_, rfl, ?_⟩, rfl⟩
        have h1 : zs.all p = false := by
          rw [List.all_eq_false]; exact ⟨_, List.getElem_mem hlt, HS.out⟩
        rw [h1]; simp
    · go_wp2
      go_ret
      refine ⟨⟨_, rfl, ?_⟩, rfl⟩
      have h1 : zs.all p = true := by
        have := HA.out; rwa [List.take_of_length_le (by omega)] at this
      rw [h1]; rfl

set_option maxRecDepth 100000 in
theorem conP_byte (A : Option Addr) (c n b : Nat) (ps : ByteArray) (p : UInt8 → Bool) (hp : ∀ c, p c = !decide (Lib.indexByte ps.data.toList c < 0)) (zs : List UInt8) (w : World) (hb : w.cell? ⟨b, 0, none⟩ = some (.string ps)) (hn : zs.length = n) (hr : Rd w A (zs.map fun (z : UInt8) => Value.int .u8 z.toNat)) (hl : zs.length ≤ 140737488355328) :
    Calls Tryd.prog 33 #[.slice A n c, .func (.func 34) #[] #[.pointer (some ⟨b, 0, none⟩)]] w fun e w' => e = .returned (.bool (!zs.all p)) ∧ w = w' := by
  have HN := Lib.hid hn; have HP := Lib.hid hp; clear hn hp
  go_enter Tryd.func33, Tryd.ntmps33
  go_wp2_with (go_at_call 54; refine (idxP_byte _ _ _ _ ps p HP.out _ _ hb HN.out hr hl).mono ?_; rintro e w' ⟨⟨i, rfl, hi⟩, rfl⟩; have HI := Lib.hid hi; clear hi)
  go_ret
  exact ⟨ret_bool HI.out, rfl⟩

set_option maxRecDepth 100000 in
theorem only_any (s ps : ByteArray) (p : UInt8 → Bool) (hp : ∀ c, p c = !decide (Lib.indexByte ps.data.toList c < 0)) (w : World) (hs : s.size ≤ 20) :
    Calls Tryd.prog 17 #[.string s, .string ps] w fun e w' => e = .returned (.bool (s.data.toList.all p)) ∧ Below w.heap.size w w' := by
  have hsz : s.data.toList.length = s.size := by simp
  have hcv := fun (w : World) => Lib.run_convert_string_bytes (P := Tryd.prog) w 9 74 5 s Tryd.underlying9 Tryd.underlying74 Tryd.underlying5
  obtain ⟨W, hW⟩ : ∃ W, W = w.alloc (.cells #[.string ps] 9) := ⟨_, rfl⟩
  have hWs : W.heap.size = w.heap.size + 1 := by rw [hW]; simp
  have hrd : Hid (Rd (Lib.bytesWorld W 5 s) (some ⟨w.heap.size + 1, 0, none⟩) (s.data.toList.map fun (z : UInt8) => Value.int .u8 z.toNat)) := by
    rw [← hWs]
    refine .inr ⟨_, _, rfl, fun j v hj => ?_⟩
    rw [List.getElem?_map] at hj
    have hjl : j < s.data.toList.length := by
      rcases Nat.lt_or_ge j s.data.toList.length with h | h
      · exact h
      · rw [List.getElem?_eq_none h] at hj; simp at hj
    rw [List.getElem?_eq_getElem hjl] at hj
    rw [Nat.zero_add, Lib.bytesWorld_cell _ _ _ _ (by simpa using hjl), ← Option.some.inj hj, List.getD_eq_getElem?_getD, List.getElem?_eq_getElem hjl]
    rfl
  have hbel : Hid (Below W.heap.size W (Lib.bytesWorld W 5 s)) := ⟨rfl, rfl, rfl, by rw [Lib.bytesWorld_size]; omega, fun k hk => Lib.bytesWorld_at_old W _ s k hk⟩
  have hb2 : Hid (Below w.heap.size w (Lib.bytesWorld W 5 s)) := by
    have h1 : Below w.heap.size w W := by rw [hW]; exact (Below.refl _ w).alloc (Nat.le_refl _) _
    exact h1.trans (hbel.out.mono h1.size)
  have hcell : Hid ((Lib.bytesWorld W 5 s).cell? ⟨w.heap.size, 0, none⟩ = some (.string ps)) := by
    show _ = _
    rw [hbel.out.cell (by simp; omega), hW]
    have h1 := heap_alloc_new w (.cells #[.string ps] 9)
    unfold World.cell?
    simp only [h1]
    rfl
  have hcw := hcv W; rw [hWs] at hcw; clear hcv
  subst hW
  have HSZ := Lib.hid hsz; clear hsz
  have HP := Lib.hid hp; clear hp; clear hbel hWs
  go_enter Tryd.func17, Tryd.ntmps17
  go_wp2_with (go_at_call 33; refine (conP_byte _ _ _ w.heap.size ps p HP.out s.data.toList _ hcell.out HSZ.out hrd.out (by have := HSZ.out; omega)).mono ?_; rintro e w' ⟨rfl, rfl⟩)
  go_ret
  exact ⟨ret_bool (by simp), hb2.out⟩

theorem idx_any (t : ByteArray) (c : UInt8) (w : World) : Calls Tryd.prog 18 #[.string t, .int .u8 c.toNat] w fun e w' => e = .returned (.int .i64 (Lib.indexByte t.data.toList c)) ∧ w' = w := by
  have h := Tryd.strings_IndexByte t c.toNat w
  have e : (c.toNat : Int).toNat.toUInt8 = c := by simp
  rw [e] at h; exact h

theorem cat3 (a s b : ByteArray) : (a ++ s ++ b).data.toList = a.data.toList ++ s.data.toList ++ b.data.toList := by simp

set_option maxRecDepth 100000 in
theorem kept_any (s : ByteArray) (w : World) (hs : s.size ≤ 20) (h0 : 0 < s.size) (hm : MaxL w) :
    Calls Tryd.prog 19 #[.string s] w fun e w' => e = .returned (.bool (keptB s.data.toList)) ∧ w' = w := by
  have hsz : s.data.toList.length = s.size := by simp
  have hne : s.data.toList ≠ [] := fun e => by rw [e] at hsz; simp at hsz; omega
  have e2 : (!s.toList.isEmpty) = true := by rw [ByteArray.toList_eq]; simpa using hne
  have hfin : keptB s.data.toList = (decide (Lib.indexByte s.data.toList 32 < 0) && Lib.contains keptL ([32] ++ s.data.toList ++ [32])) := by
    rw [keptB, decide_eq_true hne, Bool.true_and]
  have hi : ∀ w : World, Calls Tryd.prog 18 #[.string s, .int .u8 32] w fun e w' => e = .returned (.int .i64 (Lib.indexByte s.data.toList 32)) ∧ w' = w := fun w => idx_any s 32 w
  obtain ⟨m, hm⟩ := hm
  have hc : ∀ K : ByteArray, K.size < 1000 → Calls Tryd.prog 36 #[.string K, .string (⟨#[32]⟩ ++ s ++ ⟨#[32]⟩)] w fun e w' => e = .returned (.bool (Lib.contains K.data.toList ([32] ++ s.data.toList ++ [32]))) ∧ w' = w := fun K hK => by
    have h := Tryd.strings_Contains K (⟨#[32]⟩ ++ s ++ ⟨#[32]⟩) m w (by omega) hm
    rw [cat3] at h; exact h
  clear hne
  have HF := Lib.hid hfin; have HI := Lib.hid hi; have HC := Lib.hid hc; clear hfin hi hc
  cases hd : decide (Lib.indexByte s.data.toList 32 < 0) with
  | false =>
    have HD := Lib.hid hd; clear hd
    go_enter Tryd.func19, Tryd.ntmps19
    go_wp2_with (go_at_call 18; refine (HI.out _).mono ?_; rintro e w' ⟨rfl, rfl⟩; have hq := of_decide_eq_false HD.out)
    go_ret
    exact ⟨ret_bool (by rw [HF.out, HD.out]; rfl), rfl⟩
  | true =>
    have HD := Lib.hid hd; clear hd
    go_enter Tryd.func19, Tryd.ntmps19
    go_wp2_with (first | (go_at_call 18; refine (HI.out _).mono ?_; rintro e w' ⟨rfl, rfl⟩; have hq := of_decide_eq_true HD.out) | (go_at_call 36; refine (HC.out _ (by decide)).mono ?_; rintro e w' ⟨rfl, rfl⟩))
    go_ret
    exact ⟨ret_bool (by rw [HF.out, HD.out]; rfl), rfl⟩
end Go.Proofs.YtckpffkofeoinaaDoor
