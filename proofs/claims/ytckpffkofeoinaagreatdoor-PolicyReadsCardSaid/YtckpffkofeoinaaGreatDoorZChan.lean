/- The document's (*reader).channel. -/
import Derived.Test.YtckpffkofeoinaaGreatDoorZIns
import Derived.Test.YtckpffkofeoinaaGreatDoorLow
import Derived.Deep.CutBlock
namespace Go.Proofs.YtckpffkofeoinaaGreatDoor
open Go.RowKit Go.Maps Go.Proofs.YtckpffkofeoinaaGreatDoor.Lr

theorem info_intZ : (Tryz.prog.info? 3).map (fun i => (i.zero, i.size, i.bytes)) = some (some (.int .i64 0), 1, 8) := by kernel_rfl

theorem owns_turn {w w' : World} {base p e size n : Nat} {v : Value} {xs : List Value} (h : w.ownsRow base e size v n xs) (ht : Turn w.heap.size p p w w') (hp : p < base) : w'.ownsRow base e size v n xs := by
 refine ⟨h.1, h.2.imp id ?_⟩
 rintro ⟨g, cap, cur, hv, hb, hg, h5⟩
 exact ⟨g, cap, cur, hv, hb, by rw [ht.block g (lt_of_block hg) (by omega) (by omega)]; exact hg, h5⟩

/-- What the cell held when the region began, as long as the store has not come up. -/
def SC (p f : Nat) (vc : Value) (l : Array Bool) (w : World) : Prop := l.getD 21 true = false → w.cell? ⟨p, f, none⟩ = some vc
theorem SC_set {p f : Nat} {vc : Value} {l : Array Bool} {w : World} (i : Nat) (h21 : i ≠ 21) (h : SC p f vc l w) : SC p f vc (l.setIfInBounds i true) w := by
 unfold SC at *; rw [getD_set_ne true h21]; exact h

theorem add_at (g o j : Nat) : (⟨g, o, none⟩ : Addr).add j = ⟨g, o + j, none⟩ := by unfold Addr.add; split <;> simp_all
theorem src_take {w w' : World} {base e g n cap k : Nat} {xs : List Value} (h : w.ownsRow base e 1 (.slice (some ⟨g, 0, none⟩) n cap) n xs) (hg : w'.heap[g]? = w.heap[g]?) (hk : k ≤ n) : SrcIs w' (.slice (some ⟨g, 0, none⟩) k cap) k (xs.take k) := by
 refine .inl ⟨_, _, rfl, by rw [List.length_take, h.1]; omega, fun j u hj => ?_⟩
 rw [List.getElem?_take] at hj
 split at hj
 ·have h1 := h.cells (g := g) rfl j u hj
  rw [add_at] at h1 ⊢
  rw [← h1]; exact World.cell?_of_block hg
 ·cases hj
theorem src_drop {w w' : World} {base e g n cap k : Nat} {xs : List Value} {A : Option Addr} (h : w.ownsRow base e 1 (.slice (some ⟨g, 0, none⟩) n cap) n xs) (hg : w'.heap[g]? = w.heap[g]?) (hk : k ≤ n) (hn : n ≤ cap)
  (hA : (if cap = k then some (⟨g, 0, none⟩ : Addr) else some ⟨g, k, none⟩) = A) (c : Nat) : SrcIs w' (.slice A (n - k) c) (n - k) (xs.drop k) := by
 subst hA
 by_cases hck : cap = k
 ·rw [if_pos hck]
  have hl : xs.length ≤ k := by rw [h.1]; omega
  refine .inl ⟨_, _, rfl, by rw [List.length_drop, h.1]; omega, fun j u hj => ?_⟩
  rw [List.drop_eq_nil_of_le hl] at hj; cases hj
 rw [if_neg hck]
 refine .inl ⟨_, _, rfl, by rw [List.length_drop, h.1]; omega, fun j u hj => ?_⟩
 rw [List.getElem?_drop] at hj
 have h1 := h.cells (g := g) rfl (k + j) u hj
 rw [add_at] at h1 ⊢
 rw [show k + j = 0 + (k + j) by omega, ← h1]; exact World.cell?_of_block hg
theorem src_new {w : World} {q T : Nat} {u : Value} {fr : Nat × Nat} (h : w.heap[q]? = some (.cells #[u] T fr)) : SrcIs w (.slice (some ⟨q, 0, none⟩) 1 1) 1 [u] :=
 .inl ⟨_, _, rfl, rfl, World.news_of_block h⟩
theorem own_empty {w : World} {H q T : Nat} (h : w.heap[q]? = some (.cells #[] T (0, 0))) (hq : H ≤ q) : w.ownsRow H T 1 (.slice (some ⟨q, 0, none⟩) 0 0) 0 [] :=
 ⟨rfl, .inr ⟨q, 0, #[], rfl, hq, h, Nat.le_refl _, by unfold maxLen; omega, rfl, rfl⟩⟩
theorem one_take {l : List Value} (h : ∀ u ∈ l, u.oneCell' = true) (k : Nat) : ∀ u ∈ l.take k, u.oneCell' = true := fun u hu => h u (List.mem_of_mem_take hu)
theorem one_drop {l : List Value} (h : ∀ u ∈ l, u.oneCell' = true) (k : Nat) : ∀ u ∈ l.drop k, u.oneCell' = true := fun u hu => h u (List.mem_of_mem_drop hu)
theorem one_str (l : List ByteArray) : ∀ u ∈ l.map Value.string, u.oneCell' = true := fun u hu => by obtain ⟨c, _, rfl⟩ := List.mem_map.1 hu; rfl
theorem one_lev (r : RS) : ∀ u ∈ levsL r, u.oneCell' = true := fun u hu => by unfold levsL at hu; obtain ⟨c, _, rfl⟩ := List.mem_map.1 hu; rfl
theorem ins_next {wr w w' : World} {e n : Nat} {v : Value} {xs : List Value} (hb : Below wr.heap.size wr w) (ho : w.ownsRow wr.heap.size e 1 v n xs) (hg : w.grownBy w' v.ownBlock) : Below wr.heap.size wr w' :=
 hb.grown hg hb.size fun k hk => (ho.lt k hk).1

/-- Behind the store of the channels. -/
def MidC (_base p : Nat) (wr wx : World) (vn vb vp : Value) (n : Nat) (l : List ByteArray) : Prop :=
 ∃ v3, wx.heap[p]? = some (.cells #[vn, vb, vp, v3] 60 (0, 0)) ∧ wx.ownsRow wr.heap.size 9 1 v3 n (l.map Value.string) ∧ Turn wr.heap.size p p wr wx
theorem midC_of {base p n n' : Nat} {wr wd : World} {vn vb vp vc v3 : Value} {l : List ByteArray} {l' : List Value} (hb : Below wr.heap.size wr wd) (hp : wr.heap[p]? = some (.cells #[vn, vb, vp, vc] 60 (0, 0)))
  (ho : wd.ownsRow wr.heap.size 9 1 v3 n' l') (hn : n' = n) (hl : l' = l.map Value.string) : MidC base p wr (wd.setCell ⟨p, 3, none⟩ v3) vn vb vp n l := by
 subst hn hl
 have hlt := lt_of_block hp
 refine ⟨v3, set4_3 ((hb.block p hlt).trans hp), owns_set ho hlt 3, ⟨hb.os, hb.tape, hb.output, by simpa [World.setCell] using hb.size, fun k hk hkp _ => ?_⟩⟩
 rw [Below.heap_setCell _ _ _ _ hkp, hb.block k hk]
/-- Behind the store of the places. -/
def MidP (_base p : Nat) (wr wx : World) (vn vb vc : Value) (n : Nat) (l : List Value) : Prop :=
 ∃ v2, wx.heap[p]? = some (.cells #[vn, vb, v2, vc] 60 (0, 0)) ∧ wx.ownsRow wr.heap.size 3 1 v2 n l ∧ Turn wr.heap.size p p wr wx
theorem midP_of {base p n n' : Nat} {wr wd : World} {vn vb vp vc v2 : Value} {l l' : List Value} (hb : Below wr.heap.size wr wd) (hp : wr.heap[p]? = some (.cells #[vn, vb, vp, vc] 60 (0, 0)))
  (ho : wd.ownsRow wr.heap.size 3 1 v2 n' l') (hn : n' = n) (hl : l' = l) : MidP base p wr (wd.setCell ⟨p, 2, none⟩ v2) vn vb vc n l := by
 subst hn hl
 have hlt := lt_of_block hp
 refine ⟨v2, set4_2 ((hb.block p hlt).trans hp), owns_set ho hlt 2, ⟨hb.os, hb.tape, hb.output, by simpa [World.setCell] using hb.size, fun k hk hkp _ => ?_⟩⟩
 rw [Below.heap_setCell _ _ _ _ hkp, hb.block k hk]

theorem Turn.less {base base' p : Nat} {w w' : World} (h : Turn base' p p w w') (hb : base ≤ base') : Turn base p p w w' := ⟨h.os, h.tape, h.output, h.size, fun k hk => h.block k (by omega)⟩

theorem chan_end {base p ix nX k : Nat} {r : RS} {x : ByteArray} {w w1 wc wF : World} {vn vb v3 : Value} (hB1 : Below w.heap.size w w1) (hbl : base ≤ w.heap.size)
  (h2 : w1.ownsRow base 9 1 vn r.names.length (r.names.map Value.string)) (h3 : w1.ownsRow base 107 2 vb r.below.length (strs2 r.below)) (h7 : p < base) (h8 : base ≤ w1.heap.size)
  (hnX : (chansL r).length = nX) (hlow : ∀ y ∈ (chansB r).take k, y < x.data.toList) (hhi : ∀ y ∈ (chansB r)[k]?, ¬ y < x.data.toList) (hno : (ofAt r.of x).isSome = false)
  (m2 : wc.ownsRow w1.heap.size 9 1 v3 (nX + 1) (((chansL r).take k ++ ([x] ++ (chansL r).drop k)).map Value.string)) (m3 : Turn w1.heap.size p p w1 wc)
  (hM : MidP base p wc wF vn vb v3 (nX + 1) ((levsL r).take k ++ ([.int .i64 (ix : Int)] ++ (levsL r).drop k))) :
  DSt base p { r with of := (x, ix) :: r.of } wF ∧ Turn base p p w wF := by
 obtain ⟨v2, n1, n2, n3⟩ := hM
 have hl : (chansL { r with of := (x, ix) :: r.of }).length = nX + 1 := by
  rw [chansL_add hlow hhi, (insert_perm _ _ _).length_eq, List.length_cons, hnX]
 have hs := m3.size; have hs2 := n3.size
 refine ⟨⟨vn, vb, v2, v3, n1, owns_turn (owns_turn h2 m3 h7) n3 h7, owns_turn (owns_turn h3 m3 h7) n3 h7, ?_, ?_, ?_, h7, by omega⟩, (Turn.of_below hB1 hbl).trans ((m3.less h8).trans (n3.less (by omega)))⟩
 ·rw [hl, levsL_add hlow hhi hno]; exact owns_base n2 (by omega)
 ·rw [hl, chansL_add hlow hhi]; exact owns_base (owns_turn m2 n3 (by omega)) h8
 ·cases hv : v3.ownBlock with
  | none => exact .inl rfl
  | some q =>
   have hq := (m2.lt q hv).1
   refine .inr fun e => ?_
   have := (h2.lt q e.symm).2
   omega

set_option maxRecDepth 100000 in
set_option maxHeartbeats 1000000 in
theorem rchan_main (base p ix : Nat) (r : RS) (x y : ByteArray) (w : World) (hS : DSt base p r w) (hr : r.names.length ≤ 100000) (hc : (chansL r).length ≤ 100000)
  (hI : Calls Tryz.prog 73 #[.string x] w fun e w' => e = .returned (.bool true) ∧ Hid (Below w.heap.size w w'))
  (hix : Lib.idxOfS r.names y = (ix : Int)) (hno : (ofAt r.of x).isSome = false) :
  Calls Tryz.prog 49 #[.pointer (some ⟨p, 0, none⟩), .string x, .string y] w fun e w' => DPost base p w (0, { r with of := (x, ix) :: r.of }) e w' := by
 have HBL := Lib.hid hS.base_le; have HS := Lib.hid hS; clear hS
 have HI := Lib.hid hI; clear hI
 have HPL : Hid (∀ (A : Option Addr) (c : Nat) (wx : World), Rd wx A (r.names.map Value.string) → Calls Tryz.prog 24 #[.slice A r.names.length c, .string y] wx fun e w' => e = .returned (.int .i64 ix) ∧ wx = w') := fun A c wx h => by
  rw [← hix]; exact (rplace22_any A _ c r.names y _ rfl h (by omega)).mono fun _ _ h => ⟨h.1, h.2.symm⟩
 obtain ⟨nX, hnX⟩ : ∃ n, (chansL r).length = n := ⟨_, rfl⟩
 obtain ⟨iz, hiz, hizn⟩ : ∃ iz, Lib.idxOfS (chansL r) x = iz ∧ ¬ 0 ≤ iz := ⟨_, rfl, fun h0 => by
  have h1 := (Lib.idxOfS_nonneg_iff _ _).1 h0
  rw [ofAt_isSome.2 (mem_chansL.1 h1)] at hno; cases hno⟩
 have HPC : Hid (∀ (A : Option Addr) (c : Nat) (wx : World), Rd wx A ((chansL r).map Value.string) → Calls Tryz.prog 24 #[.slice A nX c, .string x] wx fun e w' => e = .returned (.int .i64 iz) ∧ wx = w') := fun A c wx h => by
  rw [← hiz]; exact (rplace22_any A _ c (chansL r) x _ hnX h (by omega)).mono fun _ _ h => ⟨h.1, h.2.symm⟩
 obtain ⟨i3, hi3, hz30, hz31, hz32⟩ := info_parts info_strZ
 obtain ⟨j3, hj3, hy30, hy31, hy32⟩ := info_parts info_intZ
 have HNX := Lib.hid hnX; have HNO := Lib.hid hno
 clear hix hiz hno
 go_enter Tryz.func49, Tryz.ntmps49
 go_wp2_with (go_at_call 73; refine HI.out.mono ?_; rintro e w1 ⟨rfl, HB1⟩; have HS1 := Lib.hid (HS.out.below HB1.out); have HS2 := HS1.out; obtain ⟨vn, vb, vp, vc, h1, h2, h3, h4, h5, h6, h7, h8⟩ := HS2; rw [hnX] at h4 h5; obtain ⟨ap, cp, rfl, hcp1, hcp2, _⟩ := owns_form h4; have H1 := Lib.hid h1; have H2 := Lib.hid h2; have H3 := Lib.hid h3; have H4 := Lib.hid h4; have H5 := Lib.hid h5; have H6 := Lib.hid h6; obtain ⟨an, cn, rfl, hn1, hn2, hn3⟩ := owns_form h2; obtain ⟨ac, cc, rfl, hc1, hc2, hc3⟩ := owns_form h5; have HR := Lib.hid hn3; have HRC := Lib.hid hc3; obtain ⟨c0, c1, c2, c3, f0, f1, f2, f3⟩ := cell_in4 h1; clear h1 h2 h3 h4 h5 h6 hn3 hc3)
 go_upto_region 3 with (go_at_call 24; refine (HPL.out _ _ _ HR.out).mono ?_; rintro e w2 ⟨rfl, rfl⟩)
 clear HPL
 go_upto_region 5 with fail
 go_upto_block 0 with (go_at_call 24; refine (HPC.out _ _ _ HRC.out).mono ?_; rintro e w2 ⟨rfl, rfl⟩)
 clear HPC
 go_cut [9] from 31 to 50 (fun s9 wx => ∃ k, k ≤ nX ∧ s9 = .int .i64 (k : Int) ∧ w1 = wx ∧ Hid (∀ y ∈ (chansB r).take k, y < x.data.toList) ∧ Hid (∀ y ∈ (chansB r)[k]?, ¬ y < x.data.toList))
 case first =>
  go_wp2_with fail
  go_loopw [9] (fun i wx => ∃ k : Nat, k ≤ nX ∧ i = .int .i64 k ∧ w1 = wx ∧ Hid (∀ j, j < k → ∀ hj : j < (chansL r).length, Op.bytesLess ((chansL r)[j]).toList x.toList = true)) (fun i _ => nX - (intOf i).toNat)
  case atStart => exact ⟨0, Nat.zero_le _, rfl, rfl, fun j hj => absurd hj (by omega)⟩
  case round =>
   obtain ⟨k, hk, rfl, rfl, HL⟩ := hrel
   by_cases hlt : k < nX
   ·have hlt' : k < (chansL r).length := by rw [HNX.out]; exact hlt
    obtain ⟨g, o, rfl, d1⟩ := HRC.out.at (j := k) (v := Value.string (chansL r)[k]) (by simp [hlt'])
    have HUP : Hid (∀ hj : k < (chansL r).length, Op.bytesLess ((chansL r)[k]).toList x.toList = Op.bytesLess ((chansL r)[k]'hlt').toList x.toList) := fun _ => rfl
    cases hb : Op.bytesLess ((chansL r)[k]'hlt').toList x.toList
    ·rw [hb] at HUP
     generalize (chansL r)[k]'hlt' = ch at *
     go_wp2
     go_meet
     exact ⟨k, hk, rfl, rfl, chan_low HL.out, chan_hi HUP.out⟩
    ·rw [hb] at HUP
     generalize (chansL r)[k]'hlt' = ch at *
     go_wp2
     go_roundw
     case rel => exact ⟨k + 1, by omega, by go_num, trivial, fun j hj hj2 => by
      rcases Nat.lt_succ_iff_lt_or_eq.1 hj with h | rfl
      ·exact HL.out j h hj2
      ·exact HUP.out hj2⟩
     case measure => simp [intOf]; omega
   ·obtain rfl : k = nX := by omega
    go_wp2
    go_meet
    exact ⟨k, hk, rfl, rfl, chan_low HL.out, chan_hi fun hj => absurd hj (by rw [HNX.out]; omega)⟩
 case rest =>
  obtain ⟨k, hk, rfl, rfl, HLOW, HHI⟩ := hcut
  go_upto_region 10 with fail
  go_cut [9] from 51 to 92 (fun s9 wx => s9 = .int .i64 (k : Int) ∧ Hid (MidC base p w1 wx (.slice an r.names.length cn) vb (.slice ap nX cp) (nX + 1) ((chansL r).take k ++ ([x] ++ (chansL r).drop k))))
  case first =>
   have hown := H5.out
   rcases hown.2 with ⟨hv, h0⟩ | ⟨g, cap, cur, hv, hbg, hg, q1, q2, q3, q4⟩
   ·obtain ⟨rfl, rfl⟩ : ac = none ∧ cc = 0 := by simp at hv; exact ⟨hv.1, hv.2.2⟩
    obtain rfl : nX = 0 := h0
    obtain rfl : k = 0 := by omega
    clear hown hv
    refine wp_region_noPanic ?_
    refine wp_region_G (SC p 3 (.slice none 0 0)) (by kernel_rfl) ?_
    have HS : SC p 3 (.slice none 0 0) (Array.replicate 22 false) w1.drew := fun _ => c3
    refine G_pure (i := 0) (oi := ⟨some 51, _, _, _, _, _⟩) rfl (by kernel_rfl) (by kernel_rfl) (by kernel_rfl) (fun _ _ _ h => h) (fun _ _ => by simp [SC]) (Or.inl ⟨by rfl, fun w _ => by go_simp; try rfl⟩) HS ?_
    simp only [Act.put, List.setIfInBounds_toArray, List.set_cons_zero, List.set_cons_succ]
    replace HS := SC_set 0 (by decide) HS
    refine G_pure (i := 2) (oi := ⟨some 53, _, _, _, _, _⟩) rfl (by kernel_rfl) (by kernel_rfl) (by kernel_rfl) (fun _ _ _ h => h) (fun _ _ => by simp [SC]) (Or.inl ⟨by rfl, fun w _ => by go_simp; try rfl⟩) HS ?_
    simp only [Act.put, List.setIfInBounds_toArray, List.set_cons_zero, List.set_cons_succ]
    replace HS := SC_set 2 (by decide) HS
    refine G_pure (i := 3) (oi := ⟨some 54, _, _, _, _, _⟩) rfl (by kernel_rfl) (by kernel_rfl) (by kernel_rfl) (fun _ _ _ h => h) (fun _ _ => by simp [SC]) (Or.inl ⟨by rfl, fun w _ => by go_simp; try rfl⟩) HS ?_
    simp only [Act.put, List.setIfInBounds_toArray, List.set_cons_zero, List.set_cons_succ]
    replace HS := SC_set 3 (by decide) HS
    refine G_pure (i := 4) (oi := ⟨some 55, _, _, _, _, _⟩) rfl (by kernel_rfl) (by kernel_rfl) (by kernel_rfl) (fun _ _ _ h => h) (fun _ _ => by simp [SC]) (Or.inl ⟨by rfl, fun w _ => by go_simp; try rfl⟩) HS ?_
    simp only [Act.put, List.setIfInBounds_toArray, List.set_cons_zero, List.set_cons_succ]
    replace HS := SC_set 4 (by decide) HS
    refine G_load 21 (i := 5) (oi := ⟨some 56, _, _, _, _, _⟩) (fun w' => w'.cell? ⟨p, 3, none⟩ = some (.slice none 0 0)) rfl (by kernel_rfl) (by kernel_rfl) (by kernel_rfl) (fun _ _ _ h => h) (fun _ _ => by simp [SC]) (by kernel_rfl) (by kernel_rfl) (fun _ _ hl hs => hs hl) (Or.inl ⟨by rfl, fun w hw => by go_simp; try rfl⟩) HS ?_
    simp only [Act.put, List.setIfInBounds_toArray, List.set_cons_zero, List.set_cons_succ]
    replace HS := SC_set 5 (by decide) HS
    refine G_pure (i := 6) (oi := ⟨some 57, _, _, _, _, _⟩) rfl (by kernel_rfl) (by kernel_rfl) (by kernel_rfl) (fun _ _ _ h => h) (fun _ _ => by simp [SC]) (Or.inl ⟨by rfl, fun w _ => by go_simp; try rfl⟩) HS ?_
    simp only [Act.put, List.setIfInBounds_toArray, List.set_cons_zero, List.set_cons_succ]
    replace HS := SC_set 6 (by decide) HS
    refine G_pure (i := 7) (oi := ⟨some 58, _, _, _, _, _⟩) rfl (by kernel_rfl) (by kernel_rfl) (by kernel_rfl) (fun _ _ _ h => h) (fun _ _ => by simp [SC]) (Or.inl ⟨by rfl, fun w _ => by go_simp; try rfl⟩) HS ?_
    simp only [Act.put, List.setIfInBounds_toArray, List.set_cons_zero, List.set_cons_succ]
    replace HS := SC_set 7 (by decide) HS
    refine G_pure (i := 9) (oi := ⟨some 60, _, _, _, _, _⟩) rfl (by kernel_rfl) (by kernel_rfl) (by kernel_rfl) (fun _ _ _ h => h) (fun _ _ => by simp [SC]) (Or.inl ⟨by rfl, fun w _ => by go_simp; try rfl⟩) HS ?_
    simp only [Act.put, List.setIfInBounds_toArray, List.set_cons_zero, List.set_cons_succ]
    replace HS := SC_set 9 (by decide) HS
    refine G_pure (i := 12) (oi := ⟨some 63, _, _, _, _, _⟩) rfl (by kernel_rfl) (by kernel_rfl) (by kernel_rfl) (fun _ _ _ h => h) (fun _ _ => by simp [SC]) (Or.inl ⟨by rfl, fun w _ => by go_simp; try rfl⟩) HS ?_
    simp only [Act.put, List.setIfInBounds_toArray, List.set_cons_zero, List.set_cons_succ]
    replace HS := SC_set 12 (by decide) HS
    refine G_pure (i := 13) (oi := ⟨some 64, _, _, _, _, _⟩) rfl (by kernel_rfl) (by kernel_rfl) (by kernel_rfl) (fun _ _ _ h => h) (fun _ _ => by simp [SC]) (Or.inl ⟨by rfl, fun w _ => by go_simp; try rfl⟩) HS ?_
    simp only [Act.put, List.setIfInBounds_toArray, List.set_cons_zero, List.set_cons_succ]
    replace HS := SC_set 13 (by decide) HS
    refine G_pure (i := 14) (oi := ⟨some 65, _, _, _, _, _⟩) rfl (by kernel_rfl) (by kernel_rfl) (by kernel_rfl) (fun _ _ _ h => h) (fun _ _ => by simp [SC]) (Or.inl ⟨by rfl, fun w _ => by go_simp; try rfl⟩) HS ?_
    simp only [Act.put, List.setIfInBounds_toArray, List.set_cons_zero, List.set_cons_succ]
    replace HS := SC_set 14 (by decide) HS
    refine G_load 21 (i := 15) (oi := ⟨some 66, _, _, _, _, _⟩) (fun w' => w'.cell? ⟨p, 3, none⟩ = some (.slice none 0 0)) rfl (by kernel_rfl) (by kernel_rfl) (by kernel_rfl) (fun _ _ _ h => h) (fun _ _ => by simp [SC]) (by kernel_rfl) (by kernel_rfl) (fun _ _ hl hs => hs hl) (Or.inl ⟨by rfl, fun w hw => by go_simp; try rfl⟩) HS ?_
    simp only [Act.put, List.setIfInBounds_toArray, List.set_cons_zero, List.set_cons_succ]
    replace HS := SC_set 15 (by decide) HS
    refine G_pure (i := 16) (oi := ⟨some 67, _, _, _, _, _⟩) rfl (by kernel_rfl) (by kernel_rfl) (by kernel_rfl) (fun _ _ _ h => h) (fun _ _ => by simp [SC]) (Or.inl ⟨by rfl, fun w _ => by go_simp; try rfl⟩) HS ?_
    simp only [Act.put, List.setIfInBounds_toArray, List.set_cons_zero, List.set_cons_succ]
    replace HS := SC_set 16 (by decide) HS
    refine G_pure (i := 17) (oi := ⟨some 68, _, _, _, _, _⟩) rfl (by kernel_rfl) (by kernel_rfl) (by kernel_rfl) (fun _ _ _ h => h) (fun _ _ => by simp [SC]) (Or.inl ⟨by rfl, fun w _ => by go_simp; try rfl⟩) HS ?_
    simp only [Act.put, List.setIfInBounds_toArray, List.set_cons_zero, List.set_cons_succ]
    replace HS := SC_set 17 (by decide) HS
    have hp1 : p < w1.heap.size := lt_of_block H1.out
    refine G_ready [1, 10] (by kernel_rfl) (by simp) ?_
    refine AllG.cons (o := ⟨some 52, _, _, _, _, _⟩) rfl (fun K hK => ?_) (AllG.cons (o := ⟨some 61, _, _, _, _, _⟩) rfl (fun K hK => ?_) AllG.nil)
    ·go_simp
     have HB : Below w1.heap.size w1 (w1.alloc (.cells #[] 9)).drew := ((Below.refl _ w1).alloc (Nat.le_refl _) _).drew
     have HE : (w1.alloc (.cells #[] 9)).drew.heap[w1.heap.size]? = some (.cells #[] 9) := heap_alloc_new w1 _
     refine hK.out _ _ (fun _ => (HB.cell hp1).trans c3) ?_
     clear hK K
     try simp only [Act.put, List.setIfInBounds_toArray, List.set_cons_zero, List.set_cons_succ]
     refine G_ready [8, 10] (by kernel_rfl) (by simp) ?_
     refine AllG.cons (o := ⟨some 59, _, _, _, _, _⟩) rfl (fun K hK => ?_) (AllG.cons (o := ⟨some 61, _, _, _, _, _⟩) rfl (fun K hK => ?_) AllG.nil)
     ·refine step_append_ins _ (by rfl) _ _ _ (by rfl) w1.heap.size 9 i3 _ 16 Tryz.underlying33 hi3 hz30 hz31 hz32 rfl (.slice (some ⟨w1.heap.size, 0, none⟩) 0 0) 0 [] (by rfl) (own_empty HE (Nat.le_refl _)) (.slice none 0 0) 0 [] (by rfl) (.inr ⟨rfl, rfl, rfl⟩) (fun _ h => by cases h) (by unfold maxLen; omega) (by omega) HB.size ?_
      intro va wa HO HG
      replace HB := ins_next HB (own_empty HE (Nat.le_refl _)) HG
      refine hK.out _ _ (fun _ => (HB.cell hp1).trans c3) ?_
      clear hK K
      try simp only [Act.put, List.setIfInBounds_toArray, List.set_cons_zero, List.set_cons_succ]
      refine G_ready [10] (by kernel_rfl) (by simp) ?_
      refine AllG.cons (o := ⟨some 61, _, _, _, _, _⟩) rfl (fun K hK => ?_) AllG.nil
      go_simp
      have HN := heap_alloc_new wa (.cells #[.string x] 9)
      replace HB := HB.alloc HB.size (.cells #[.string x] 9)
      replace HO := HO.alloc (.cells #[.string x] 9)
      clear HE HG
      refine hK.out _ _ (fun _ => (HB.cell hp1).trans c3) ?_
      clear hK K
      try simp only [Act.put, List.setIfInBounds_toArray, List.set_cons_zero, List.set_cons_succ]
      refine G_ready [11] (by kernel_rfl) (by simp) ?_
      refine AllG.cons (o := ⟨some 62, _, _, _, _, _⟩) rfl (fun K hK => ?_) AllG.nil
      refine step_append_ins _ (by rfl) _ _ _ (by rfl) w1.heap.size 9 i3 _ 16 Tryz.underlying33 hi3 hz30 hz31 hz32 rfl va (0 + 0) ([] ++ []) (by rfl) HO (.slice (some ⟨_, 0, none⟩) 1 1) 1 [.string x] (by rfl) (src_new HN) (by simp [Value.oneCell']) (by unfold maxLen; omega) (by omega) HB.size ?_
      intro vb2 wb HO2 HG2
      replace HB := ins_next HB HO HG2
      refine hK.out _ _ (fun _ => (HB.cell hp1).trans c3) ?_
      clear hK K
      try simp only [Act.put, List.setIfInBounds_toArray, List.set_cons_zero, List.set_cons_succ]
      refine G_ready [18] (by kernel_rfl) (by simp) ?_
      refine AllG.cons (o := ⟨some 69, _, _, _, _, _⟩) rfl (fun K hK => ?_) AllG.nil
      refine step_append_ins _ (by rfl) _ _ _ (by rfl) w1.heap.size 9 i3 _ 16 Tryz.underlying33 hi3 hz30 hz31 hz32 rfl vb2 (0 + 0 + 1) (([] ++ []) ++ [.string x]) (by rfl) HO2 (.slice none 0 0) 0 [] (by rfl) (.inr ⟨rfl, rfl, rfl⟩) (fun _ h => by cases h) (by unfold maxLen; omega) (by omega) HB.size ?_
      intro v3 wd HO3 HG3
      replace HB := ins_next HB HO2 HG3
      refine hK.out _ _ (fun _ => (HB.cell hp1).trans c3) ?_
      clear hK K
      try simp only [Act.put, List.setIfInBounds_toArray, List.set_cons_zero, List.set_cons_succ]
      have hpd := (HB.block p hp1).trans H1.out
      have e9 : 0 + 0 + 1 + 0 = 0 + 1 := by omega
      rw [e9] at HO3
      obtain ⟨A3, C3, rfl, _, _, _⟩ := owns_form HO3
      obtain ⟨_, _, z2, z3, _, _, y2, y3⟩ := cell_in4 hpd
      have HM := Lib.hid (midC_of (base := base) (n := 0 + 1) (l := ((chansL r).take 0 ++ ([x] ++ (chansL r).drop 0))) HB H1.out HO3 rfl (by rw [List.eq_nil_of_length_eq_zero HNX.out]; rfl))
      clear HO HO2 HO3 HG2 HG3 HN hpd
      refine G_pure (i := 19) (oi := ⟨some 70, _, _, _, _, _⟩) rfl (by kernel_rfl) (by kernel_rfl) (by kernel_rfl) (fun _ _ _ h => h) (fun _ _ => by simp [SC]) (Or.inl ⟨by rfl, fun w _ => by go_simp; try rfl⟩) (fun _ => z3) ?_
      try simp only [Act.put, List.setIfInBounds_toArray, List.set_cons_zero, List.set_cons_succ]
      refine G_pure (i := 20) (oi := ⟨some 71, _, _, _, _, _⟩) rfl (by kernel_rfl) (by kernel_rfl) (by kernel_rfl) (fun _ _ _ h => h) (fun _ _ => by simp [SC]) (Or.inl ⟨by rfl, fun w _ => by go_simp; try rfl⟩) (fun _ => z3) ?_
      try simp only [Act.put, List.setIfInBounds_toArray, List.set_cons_zero, List.set_cons_succ]
      refine G_ready [21] (by kernel_rfl) (by simp) ?_
      refine AllG.cons (o := ⟨none, _, _, _, _, _⟩) rfl (fun K hK => ?_) AllG.nil
      go_simp
      refine hK.out _ _ (fun h => absurd h (by decide)) ?_
      clear hK K
      try simp only [Act.put, List.setIfInBounds_toArray, List.set_cons_zero, List.set_cons_succ]
      refine G_done (by kernel_rfl) (NoPanic.normal ?_) _
      go_wp2
      go_meet
      exact ⟨rfl, HM⟩
     ·go_simp
      replace HB : Below w1.heap.size w1 ((w1.alloc (.cells #[] 9)).alloc (.cells #[.string x] 9)).drew := (((Below.refl _ w1).alloc (Nat.le_refl _) _).alloc (by simp) _).drew
      replace HE := heap_first w1 (.cells #[] 9) (.cells #[.string x] 9)
      have HN := heap_second w1 (.cells #[] 9) (.cells #[.string x] 9)
      refine hK.out _ _ (fun _ => (HB.cell hp1).trans c3) ?_
      clear hK K
      try simp only [Act.put, List.setIfInBounds_toArray, List.set_cons_zero, List.set_cons_succ]
      refine G_ready [8] (by kernel_rfl) (by simp) ?_
      refine AllG.cons (o := ⟨some 59, _, _, _, _, _⟩) rfl (fun K hK => ?_) AllG.nil
      refine step_append_ins _ (by rfl) _ _ _ (by rfl) w1.heap.size 9 i3 _ 16 Tryz.underlying33 hi3 hz30 hz31 hz32 rfl (.slice (some ⟨w1.heap.size, 0, none⟩) 0 0) 0 [] (by rfl) (own_empty HE (Nat.le_refl _)) (.slice none 0 0) 0 [] (by rfl) (.inr ⟨rfl, rfl, rfl⟩) (fun _ h => by cases h) (by unfold maxLen; omega) (by omega) HB.size ?_
      intro va wa HO HG
      replace HB := ins_next HB (own_empty HE (Nat.le_refl _)) HG
      replace HN : wa.heap[w1.heap.size + 1]? = some (.cells #[.string x] 9) := (HG.block _ (lt_of_block HN) (by simp [Value.ownBlock])).trans HN
      clear HE HG
      refine hK.out _ _ (fun _ => (HB.cell hp1).trans c3) ?_
      clear hK K
      try simp only [Act.put, List.setIfInBounds_toArray, List.set_cons_zero, List.set_cons_succ]
      refine G_ready [11] (by kernel_rfl) (by simp) ?_
      refine AllG.cons (o := ⟨some 62, _, _, _, _, _⟩) rfl (fun K hK => ?_) AllG.nil
      refine step_append_ins _ (by rfl) _ _ _ (by rfl) w1.heap.size 9 i3 _ 16 Tryz.underlying33 hi3 hz30 hz31 hz32 rfl va (0 + 0) ([] ++ []) (by rfl) HO (.slice (some ⟨_, 0, none⟩) 1 1) 1 [.string x] (by rfl) (src_new HN) (by simp [Value.oneCell']) (by unfold maxLen; omega) (by omega) HB.size ?_
      intro vb2 wb HO2 HG2
      replace HB := ins_next HB HO HG2
      refine hK.out _ _ (fun _ => (HB.cell hp1).trans c3) ?_
      clear hK K
      try simp only [Act.put, List.setIfInBounds_toArray, List.set_cons_zero, List.set_cons_succ]
      refine G_ready [18] (by kernel_rfl) (by simp) ?_
      refine AllG.cons (o := ⟨some 69, _, _, _, _, _⟩) rfl (fun K hK => ?_) AllG.nil
      refine step_append_ins _ (by rfl) _ _ _ (by rfl) w1.heap.size 9 i3 _ 16 Tryz.underlying33 hi3 hz30 hz31 hz32 rfl vb2 (0 + 0 + 1) (([] ++ []) ++ [.string x]) (by rfl) HO2 (.slice none 0 0) 0 [] (by rfl) (.inr ⟨rfl, rfl, rfl⟩) (fun _ h => by cases h) (by unfold maxLen; omega) (by omega) HB.size ?_
      intro v3 wd HO3 HG3
      replace HB := ins_next HB HO2 HG3
      refine hK.out _ _ (fun _ => (HB.cell hp1).trans c3) ?_
      clear hK K
      try simp only [Act.put, List.setIfInBounds_toArray, List.set_cons_zero, List.set_cons_succ]
      have hpd := (HB.block p hp1).trans H1.out
      have e9 : 0 + 0 + 1 + 0 = 0 + 1 := by omega
      rw [e9] at HO3
      obtain ⟨A3, C3, rfl, _, _, _⟩ := owns_form HO3
      obtain ⟨_, _, z2, z3, _, _, y2, y3⟩ := cell_in4 hpd
      have HM := Lib.hid (midC_of (base := base) (n := 0 + 1) (l := ((chansL r).take 0 ++ ([x] ++ (chansL r).drop 0))) HB H1.out HO3 rfl (by rw [List.eq_nil_of_length_eq_zero HNX.out]; rfl))
      clear HO HO2 HO3 HG2 HG3 HN hpd
      refine G_pure (i := 19) (oi := ⟨some 70, _, _, _, _, _⟩) rfl (by kernel_rfl) (by kernel_rfl) (by kernel_rfl) (fun _ _ _ h => h) (fun _ _ => by simp [SC]) (Or.inl ⟨by rfl, fun w _ => by go_simp; try rfl⟩) (fun _ => z3) ?_
      try simp only [Act.put, List.setIfInBounds_toArray, List.set_cons_zero, List.set_cons_succ]
      refine G_pure (i := 20) (oi := ⟨some 71, _, _, _, _, _⟩) rfl (by kernel_rfl) (by kernel_rfl) (by kernel_rfl) (fun _ _ _ h => h) (fun _ _ => by simp [SC]) (Or.inl ⟨by rfl, fun w _ => by go_simp; try rfl⟩) (fun _ => z3) ?_
      try simp only [Act.put, List.setIfInBounds_toArray, List.set_cons_zero, List.set_cons_succ]
      refine G_ready [21] (by kernel_rfl) (by simp) ?_
      refine AllG.cons (o := ⟨none, _, _, _, _, _⟩) rfl (fun K hK => ?_) AllG.nil
      go_simp
      refine hK.out _ _ (fun h => absurd h (by decide)) ?_
      clear hK K
      try simp only [Act.put, List.setIfInBounds_toArray, List.set_cons_zero, List.set_cons_succ]
      refine G_done (by kernel_rfl) (NoPanic.normal ?_) _
      go_wp2
      go_meet
      exact ⟨rfl, HM⟩
    ·go_simp
     have HB : Below w1.heap.size w1 (w1.alloc (.cells #[.string x] 9)).drew := ((Below.refl _ w1).alloc (Nat.le_refl _) _).drew
     refine hK.out _ _ (fun _ => (HB.cell hp1).trans c3) ?_
     clear hK K
     try simp only [Act.put, List.setIfInBounds_toArray, List.set_cons_zero, List.set_cons_succ]
     refine G_ready [1] (by kernel_rfl) (by simp) ?_
     refine AllG.cons (o := ⟨some 52, _, _, _, _, _⟩) rfl (fun K hK => ?_) AllG.nil
     go_simp
     replace HB : Below w1.heap.size w1 ((w1.alloc (.cells #[.string x] 9)).alloc (.cells #[] 9)).drew := (((Below.refl _ w1).alloc (Nat.le_refl _) _).alloc (by simp) _).drew
     have HN := heap_first w1 (.cells #[.string x] 9) (.cells #[] 9)
     have HE := heap_second w1 (.cells #[.string x] 9) (.cells #[] 9)
     refine hK.out _ _ (fun _ => (HB.cell hp1).trans c3) ?_
     clear hK K
     try simp only [Act.put, List.setIfInBounds_toArray, List.set_cons_zero, List.set_cons_succ]
     refine G_ready [8] (by kernel_rfl) (by simp) ?_
     refine AllG.cons (o := ⟨some 59, _, _, _, _, _⟩) rfl (fun K hK => ?_) AllG.nil
     refine step_append_ins _ (by rfl) _ _ _ (by rfl) w1.heap.size 9 i3 _ 16 Tryz.underlying33 hi3 hz30 hz31 hz32 rfl (.slice (some ⟨w1.heap.size + 1, 0, none⟩) 0 0) 0 [] (by rfl) (own_empty HE (by omega)) (.slice none 0 0) 0 [] (by rfl) (.inr ⟨rfl, rfl, rfl⟩) (fun _ h => by cases h) (by unfold maxLen; omega) (by omega) HB.size ?_
     intro va wa HO HG
     replace HB := ins_next HB (own_empty HE (by omega)) HG
     replace HN : wa.heap[w1.heap.size]? = some (.cells #[.string x] 9) := (HG.block _ (lt_of_block HN) (by simp [Value.ownBlock])).trans HN
     clear HE HG
     refine hK.out _ _ (fun _ => (HB.cell hp1).trans c3) ?_
     clear hK K
     try simp only [Act.put, List.setIfInBounds_toArray, List.set_cons_zero, List.set_cons_succ]
     refine G_ready [11] (by kernel_rfl) (by simp) ?_
     refine AllG.cons (o := ⟨some 62, _, _, _, _, _⟩) rfl (fun K hK => ?_) AllG.nil
     refine step_append_ins _ (by rfl) _ _ _ (by rfl) w1.heap.size 9 i3 _ 16 Tryz.underlying33 hi3 hz30 hz31 hz32 rfl va (0 + 0) ([] ++ []) (by rfl) HO (.slice (some ⟨_, 0, none⟩) 1 1) 1 [.string x] (by rfl) (src_new HN) (by simp [Value.oneCell']) (by unfold maxLen; omega) (by omega) HB.size ?_
     intro vb2 wb HO2 HG2
     replace HB := ins_next HB HO HG2
     refine hK.out _ _ (fun _ => (HB.cell hp1).trans c3) ?_
     clear hK K
     try simp only [Act.put, List.setIfInBounds_toArray, List.set_cons_zero, List.set_cons_succ]
     refine G_ready [18] (by kernel_rfl) (by simp) ?_
     refine AllG.cons (o := ⟨some 69, _, _, _, _, _⟩) rfl (fun K hK => ?_) AllG.nil
     refine step_append_ins _ (by rfl) _ _ _ (by rfl) w1.heap.size 9 i3 _ 16 Tryz.underlying33 hi3 hz30 hz31 hz32 rfl vb2 (0 + 0 + 1) (([] ++ []) ++ [.string x]) (by rfl) HO2 (.slice none 0 0) 0 [] (by rfl) (.inr ⟨rfl, rfl, rfl⟩) (fun _ h => by cases h) (by unfold maxLen; omega) (by omega) HB.size ?_
     intro v3 wd HO3 HG3
     replace HB := ins_next HB HO2 HG3
     refine hK.out _ _ (fun _ => (HB.cell hp1).trans c3) ?_
     clear hK K
     try simp only [Act.put, List.setIfInBounds_toArray, List.set_cons_zero, List.set_cons_succ]
     have hpd := (HB.block p hp1).trans H1.out
     have e9 : 0 + 0 + 1 + 0 = 0 + 1 := by omega
     rw [e9] at HO3
     obtain ⟨A3, C3, rfl, _, _, _⟩ := owns_form HO3
     obtain ⟨_, _, z2, z3, _, _, y2, y3⟩ := cell_in4 hpd
     have HM := Lib.hid (midC_of (base := base) (n := 0 + 1) (l := ((chansL r).take 0 ++ ([x] ++ (chansL r).drop 0))) HB H1.out HO3 rfl (by rw [List.eq_nil_of_length_eq_zero HNX.out]; rfl))
     clear HO HO2 HO3 HG2 HG3 HN hpd
     refine G_pure (i := 19) (oi := ⟨some 70, _, _, _, _, _⟩) rfl (by kernel_rfl) (by kernel_rfl) (by kernel_rfl) (fun _ _ _ h => h) (fun _ _ => by simp [SC]) (Or.inl ⟨by rfl, fun w _ => by go_simp; try rfl⟩) (fun _ => z3) ?_
     try simp only [Act.put, List.setIfInBounds_toArray, List.set_cons_zero, List.set_cons_succ]
     refine G_pure (i := 20) (oi := ⟨some 71, _, _, _, _, _⟩) rfl (by kernel_rfl) (by kernel_rfl) (by kernel_rfl) (fun _ _ _ h => h) (fun _ _ => by simp [SC]) (Or.inl ⟨by rfl, fun w _ => by go_simp; try rfl⟩) (fun _ => z3) ?_
     try simp only [Act.put, List.setIfInBounds_toArray, List.set_cons_zero, List.set_cons_succ]
     refine G_ready [21] (by kernel_rfl) (by simp) ?_
     refine AllG.cons (o := ⟨none, _, _, _, _, _⟩) rfl (fun K hK => ?_) AllG.nil
     go_simp
     refine hK.out _ _ (fun h => absurd h (by decide)) ?_
     clear hK K
     try simp only [Act.put, List.setIfInBounds_toArray, List.set_cons_zero, List.set_cons_succ]
     refine G_done (by kernel_rfl) (NoPanic.normal ?_) _
     go_wp2
     go_meet
     exact ⟨rfl, HM⟩
   ·obtain ⟨rfl, rfl⟩ : ac = some ⟨g, 0, none⟩ ∧ cc = cap := by simpa using hv
    clear hv q4
    refine wp_region_noPanic ?_
    refine wp_region_G (SC p 3 (.slice (some ⟨g, 0, none⟩) nX cc)) (by kernel_rfl) ?_
    have HS : SC p 3 (.slice (some ⟨g, 0, none⟩) nX cc) (Array.replicate 22 false) w1.drew := fun _ => c3
    have hk2 : k ≤ cc := by omega
    refine G_pure (i := 0) (oi := ⟨some 51, _, _, _, _, _⟩) rfl (by kernel_rfl) (by kernel_rfl) (by kernel_rfl) (fun _ _ _ h => h) (fun _ _ => by simp [SC]) (Or.inl ⟨by rfl, fun w _ => by go_simp; try rfl⟩) HS ?_
    simp only [Act.put, List.setIfInBounds_toArray, List.set_cons_zero, List.set_cons_succ]
    replace HS := SC_set 0 (by decide) HS
    refine G_pure (i := 2) (oi := ⟨some 53, _, _, _, _, _⟩) rfl (by kernel_rfl) (by kernel_rfl) (by kernel_rfl) (fun _ _ _ h => h) (fun _ _ => by simp [SC]) (Or.inl ⟨by rfl, fun w _ => by go_simp; try rfl⟩) HS ?_
    simp only [Act.put, List.setIfInBounds_toArray, List.set_cons_zero, List.set_cons_succ]
    replace HS := SC_set 2 (by decide) HS
    refine G_pure (i := 3) (oi := ⟨some 54, _, _, _, _, _⟩) rfl (by kernel_rfl) (by kernel_rfl) (by kernel_rfl) (fun _ _ _ h => h) (fun _ _ => by simp [SC]) (Or.inl ⟨by rfl, fun w _ => by go_simp; try rfl⟩) HS ?_
    simp only [Act.put, List.setIfInBounds_toArray, List.set_cons_zero, List.set_cons_succ]
    replace HS := SC_set 3 (by decide) HS
    refine G_pure (i := 4) (oi := ⟨some 55, _, _, _, _, _⟩) rfl (by kernel_rfl) (by kernel_rfl) (by kernel_rfl) (fun _ _ _ h => h) (fun _ _ => by simp [SC]) (Or.inl ⟨by rfl, fun w _ => by go_simp; try rfl⟩) HS ?_
    simp only [Act.put, List.setIfInBounds_toArray, List.set_cons_zero, List.set_cons_succ]
    replace HS := SC_set 4 (by decide) HS
    refine G_load 21 (i := 5) (oi := ⟨some 56, _, _, _, _, _⟩) (fun w' => w'.cell? ⟨p, 3, none⟩ = some (.slice (some ⟨g, 0, none⟩) nX cc)) rfl (by kernel_rfl) (by kernel_rfl) (by kernel_rfl) (fun _ _ _ h => h) (fun _ _ => by simp [SC]) (by kernel_rfl) (by kernel_rfl) (fun _ _ hl hs => hs hl) (Or.inl ⟨by rfl, fun w hw => by go_simp; try rfl⟩) HS ?_
    simp only [Act.put, List.setIfInBounds_toArray, List.set_cons_zero, List.set_cons_succ]
    replace HS := SC_set 5 (by decide) HS
    refine G_pure (i := 6) (oi := ⟨some 57, _, _, _, _, _⟩) rfl (by kernel_rfl) (by kernel_rfl) (by kernel_rfl) (fun _ _ _ h => h) (fun _ _ => by simp [SC]) (Or.inl ⟨by rfl, fun w _ => by go_simp; try rfl⟩) HS ?_
    simp only [Act.put, List.setIfInBounds_toArray, List.set_cons_zero, List.set_cons_succ]
    replace HS := SC_set 6 (by decide) HS
    refine G_pure (i := 7) (oi := ⟨some 58, _, _, _, _, _⟩) rfl (by kernel_rfl) (by kernel_rfl) (by kernel_rfl) (fun _ _ _ h => h) (fun _ _ => by simp [SC]) (Or.inl ⟨by rfl, fun w _ => by go_simp; try rfl⟩) HS ?_
    simp only [Act.put, List.setIfInBounds_toArray, List.set_cons_zero, List.set_cons_succ]
    replace HS := SC_set 7 (by decide) HS
    refine G_pure (i := 9) (oi := ⟨some 60, _, _, _, _, _⟩) rfl (by kernel_rfl) (by kernel_rfl) (by kernel_rfl) (fun _ _ _ h => h) (fun _ _ => by simp [SC]) (Or.inl ⟨by rfl, fun w _ => by go_simp; try rfl⟩) HS ?_
    simp only [Act.put, List.setIfInBounds_toArray, List.set_cons_zero, List.set_cons_succ]
    replace HS := SC_set 9 (by decide) HS
    refine G_pure (i := 12) (oi := ⟨some 63, _, _, _, _, _⟩) rfl (by kernel_rfl) (by kernel_rfl) (by kernel_rfl) (fun _ _ _ h => h) (fun _ _ => by simp [SC]) (Or.inl ⟨by rfl, fun w _ => by go_simp; try rfl⟩) HS ?_
    simp only [Act.put, List.setIfInBounds_toArray, List.set_cons_zero, List.set_cons_succ]
    replace HS := SC_set 12 (by decide) HS
    refine G_pure (i := 13) (oi := ⟨some 64, _, _, _, _, _⟩) rfl (by kernel_rfl) (by kernel_rfl) (by kernel_rfl) (fun _ _ _ h => h) (fun _ _ => by simp [SC]) (Or.inl ⟨by rfl, fun w _ => by go_simp; try rfl⟩) HS ?_
    simp only [Act.put, List.setIfInBounds_toArray, List.set_cons_zero, List.set_cons_succ]
    replace HS := SC_set 13 (by decide) HS
    refine G_pure (i := 14) (oi := ⟨some 65, _, _, _, _, _⟩) rfl (by kernel_rfl) (by kernel_rfl) (by kernel_rfl) (fun _ _ _ h => h) (fun _ _ => by simp [SC]) (Or.inl ⟨by rfl, fun w _ => by go_simp; try rfl⟩) HS ?_
    simp only [Act.put, List.setIfInBounds_toArray, List.set_cons_zero, List.set_cons_succ]
    replace HS := SC_set 14 (by decide) HS
    refine G_load 21 (i := 15) (oi := ⟨some 66, _, _, _, _, _⟩) (fun w' => w'.cell? ⟨p, 3, none⟩ = some (.slice (some ⟨g, 0, none⟩) nX cc)) rfl (by kernel_rfl) (by kernel_rfl) (by kernel_rfl) (fun _ _ _ h => h) (fun _ _ => by simp [SC]) (by kernel_rfl) (by kernel_rfl) (fun _ _ hl hs => hs hl) (Or.inl ⟨by rfl, fun w hw => by go_simp; try rfl⟩) HS ?_
    simp only [Act.put, List.setIfInBounds_toArray, List.set_cons_zero, List.set_cons_succ]
    replace HS := SC_set 15 (by decide) HS
    refine G_pure (i := 16) (oi := ⟨some 67, _, _, _, _, _⟩) rfl (by kernel_rfl) (by kernel_rfl) (by kernel_rfl) (fun _ _ _ h => h) (fun _ _ => by simp [SC]) (Or.inl ⟨by rfl, fun w _ => by go_simp; try rfl⟩) HS ?_
    simp only [Act.put, List.setIfInBounds_toArray, List.set_cons_zero, List.set_cons_succ]
    replace HS := SC_set 16 (by decide) HS
    refine G_pure (i := 17) (oi := ⟨some 68, _, _, _, _, _⟩) rfl (by kernel_rfl) (by kernel_rfl) (by kernel_rfl) (fun _ _ _ h => h) (fun _ _ => by simp [SC]) (Or.inl ⟨by rfl, fun w _ => by go_simp; try rfl⟩) HS ?_
    simp only [Act.put, List.setIfInBounds_toArray, List.set_cons_zero, List.set_cons_succ]
    replace HS := SC_set 17 (by decide) HS
    generalize hA : (if cc = k then some (⟨g, 0, none⟩ : Addr) else some ⟨g, k, none⟩) = A68
    have hgl : g < w1.heap.size := lt_of_block hg
    have hp1 : p < w1.heap.size := lt_of_block H1.out
    refine G_ready [1, 10] (by kernel_rfl) (by simp) ?_
    refine AllG.cons (o := ⟨some 52, _, _, _, _, _⟩) rfl (fun K hK => ?_) (AllG.cons (o := ⟨some 61, _, _, _, _, _⟩) rfl (fun K hK => ?_) AllG.nil)
    ·go_simp
     have HB : Below w1.heap.size w1 (w1.alloc (.cells #[] 9)).drew := ((Below.refl _ w1).alloc (Nat.le_refl _) _).drew
     have HE : (w1.alloc (.cells #[] 9)).drew.heap[w1.heap.size]? = some (.cells #[] 9) := heap_alloc_new w1 _
     refine hK.out _ _ (fun _ => (HB.cell hp1).trans c3) ?_
     clear hK K
     try simp only [Act.put, List.setIfInBounds_toArray, List.set_cons_zero, List.set_cons_succ]
     refine G_ready [8, 10] (by kernel_rfl) (by simp) ?_
     refine AllG.cons (o := ⟨some 59, _, _, _, _, _⟩) rfl (fun K hK => ?_) (AllG.cons (o := ⟨some 61, _, _, _, _, _⟩) rfl (fun K hK => ?_) AllG.nil)
     ·refine step_append_ins _ (by rfl) _ _ _ (by rfl) w1.heap.size 9 i3 _ 16 Tryz.underlying33 hi3 hz30 hz31 hz32 rfl (.slice (some ⟨w1.heap.size, 0, none⟩) 0 0) 0 [] (by rfl) (own_empty HE (Nat.le_refl _)) (.slice (some ⟨g, 0, none⟩) k cc) k (((chansL r).map Value.string).take k) (by rfl) (src_take hown (HB.block g hgl) hk) (one_take (one_str _) k) (by unfold maxLen; omega) (by omega) HB.size ?_
      intro va wa HO HG
      replace HB := ins_next HB (own_empty HE (Nat.le_refl _)) HG
      refine hK.out _ _ (fun _ => (HB.cell hp1).trans c3) ?_
      clear hK K
      try simp only [Act.put, List.setIfInBounds_toArray, List.set_cons_zero, List.set_cons_succ]
      refine G_ready [10] (by kernel_rfl) (by simp) ?_
      refine AllG.cons (o := ⟨some 61, _, _, _, _, _⟩) rfl (fun K hK => ?_) AllG.nil
      go_simp
      have HN := heap_alloc_new wa (.cells #[.string x] 9)
      replace HB := HB.alloc HB.size (.cells #[.string x] 9)
      replace HO := HO.alloc (.cells #[.string x] 9)
      clear HE HG
      refine hK.out _ _ (fun _ => (HB.cell hp1).trans c3) ?_
      clear hK K
      try simp only [Act.put, List.setIfInBounds_toArray, List.set_cons_zero, List.set_cons_succ]
      refine G_ready [11] (by kernel_rfl) (by simp) ?_
      refine AllG.cons (o := ⟨some 62, _, _, _, _, _⟩) rfl (fun K hK => ?_) AllG.nil
      refine step_append_ins _ (by rfl) _ _ _ (by rfl) w1.heap.size 9 i3 _ 16 Tryz.underlying33 hi3 hz30 hz31 hz32 rfl va (0 + k) ([] ++ ((chansL r).map Value.string).take k) (by rfl) HO (.slice (some ⟨_, 0, none⟩) 1 1) 1 [.string x] (by rfl) (src_new HN) (by simp [Value.oneCell']) (by unfold maxLen; omega) (by omega) HB.size ?_
      intro vb2 wb HO2 HG2
      replace HB := ins_next HB HO HG2
      refine hK.out _ _ (fun _ => (HB.cell hp1).trans c3) ?_
      clear hK K
      try simp only [Act.put, List.setIfInBounds_toArray, List.set_cons_zero, List.set_cons_succ]
      refine G_ready [18] (by kernel_rfl) (by simp) ?_
      refine AllG.cons (o := ⟨some 69, _, _, _, _, _⟩) rfl (fun K hK => ?_) AllG.nil
      refine step_append_ins _ (by rfl) _ _ _ (by rfl) w1.heap.size 9 i3 _ 16 Tryz.underlying33 hi3 hz30 hz31 hz32 rfl vb2 (0 + k + 1) (([] ++ ((chansL r).map Value.string).take k) ++ [.string x]) (by rfl) HO2 (.slice A68 (nX - k) (cc - k)) (nX - k) (((chansL r).map Value.string).drop k) (by rfl) (src_drop hown (HB.block g hgl) hk hc1 hA _) (one_drop (one_str _) k) (by unfold maxLen; omega) (by omega) HB.size ?_
      intro v3 wd HO3 HG3
      replace HB := ins_next HB HO2 HG3
      refine hK.out _ _ (fun _ => (HB.cell hp1).trans c3) ?_
      clear hK K
      try simp only [Act.put, List.setIfInBounds_toArray, List.set_cons_zero, List.set_cons_succ]
      have hpd := (HB.block p hp1).trans H1.out
      have e9 : 0 + k + 1 + (nX - k) = nX + 1 := by omega
      rw [e9] at HO3
      obtain ⟨A3, C3, rfl, _, _, _⟩ := owns_form HO3
      obtain ⟨_, _, z2, z3, _, _, y2, y3⟩ := cell_in4 hpd
      have HM := Lib.hid (midC_of (base := base) (n := nX + 1) (l := ((chansL r).take k ++ ([x] ++ (chansL r).drop k))) HB H1.out HO3 rfl (by simp))
      clear HO HO2 HO3 HG2 HG3 HN hpd
      refine G_pure (i := 19) (oi := ⟨some 70, _, _, _, _, _⟩) rfl (by kernel_rfl) (by kernel_rfl) (by kernel_rfl) (fun _ _ _ h => h) (fun _ _ => by simp [SC]) (Or.inl ⟨by rfl, fun w _ => by go_simp; try rfl⟩) (fun _ => z3) ?_
      try simp only [Act.put, List.setIfInBounds_toArray, List.set_cons_zero, List.set_cons_succ]
      refine G_pure (i := 20) (oi := ⟨some 71, _, _, _, _, _⟩) rfl (by kernel_rfl) (by kernel_rfl) (by kernel_rfl) (fun _ _ _ h => h) (fun _ _ => by simp [SC]) (Or.inl ⟨by rfl, fun w _ => by go_simp; try rfl⟩) (fun _ => z3) ?_
      try simp only [Act.put, List.setIfInBounds_toArray, List.set_cons_zero, List.set_cons_succ]
      refine G_ready [21] (by kernel_rfl) (by simp) ?_
      refine AllG.cons (o := ⟨none, _, _, _, _, _⟩) rfl (fun K hK => ?_) AllG.nil
      go_simp
      refine hK.out _ _ (fun h => absurd h (by decide)) ?_
      clear hK K
      try simp only [Act.put, List.setIfInBounds_toArray, List.set_cons_zero, List.set_cons_succ]
      refine G_done (by kernel_rfl) (NoPanic.normal ?_) _
      go_wp2
      go_meet
      exact ⟨rfl, HM⟩
     ·go_simp
      replace HB : Below w1.heap.size w1 ((w1.alloc (.cells #[] 9)).alloc (.cells #[.string x] 9)).drew := (((Below.refl _ w1).alloc (Nat.le_refl _) _).alloc (by simp) _).drew
      replace HE := heap_first w1 (.cells #[] 9) (.cells #[.string x] 9)
      have HN := heap_second w1 (.cells #[] 9) (.cells #[.string x] 9)
      refine hK.out _ _ (fun _ => (HB.cell hp1).trans c3) ?_
      clear hK K
      try simp only [Act.put, List.setIfInBounds_toArray, List.set_cons_zero, List.set_cons_succ]
      refine G_ready [8] (by kernel_rfl) (by simp) ?_
      refine AllG.cons (o := ⟨some 59, _, _, _, _, _⟩) rfl (fun K hK => ?_) AllG.nil
      refine step_append_ins _ (by rfl) _ _ _ (by rfl) w1.heap.size 9 i3 _ 16 Tryz.underlying33 hi3 hz30 hz31 hz32 rfl (.slice (some ⟨w1.heap.size, 0, none⟩) 0 0) 0 [] (by rfl) (own_empty HE (Nat.le_refl _)) (.slice (some ⟨g, 0, none⟩) k cc) k (((chansL r).map Value.string).take k) (by rfl) (src_take hown (HB.block g hgl) hk) (one_take (one_str _) k) (by unfold maxLen; omega) (by omega) HB.size ?_
      intro va wa HO HG
      replace HB := ins_next HB (own_empty HE (Nat.le_refl _)) HG
      replace HN : wa.heap[w1.heap.size + 1]? = some (.cells #[.string x] 9) := (HG.block _ (lt_of_block HN) (by simp [Value.ownBlock])).trans HN
      clear HE HG
      refine hK.out _ _ (fun _ => (HB.cell hp1).trans c3) ?_
      clear hK K
      try simp only [Act.put, List.setIfInBounds_toArray, List.set_cons_zero, List.set_cons_succ]
      refine G_ready [11] (by kernel_rfl) (by simp) ?_
      refine AllG.cons (o := ⟨some 62, _, _, _, _, _⟩) rfl (fun K hK => ?_) AllG.nil
      refine step_append_ins _ (by rfl) _ _ _ (by rfl) w1.heap.size 9 i3 _ 16 Tryz.underlying33 hi3 hz30 hz31 hz32 rfl va (0 + k) ([] ++ ((chansL r).map Value.string).take k) (by rfl) HO (.slice (some ⟨_, 0, none⟩) 1 1) 1 [.string x] (by rfl) (src_new HN) (by simp [Value.oneCell']) (by unfold maxLen; omega) (by omega) HB.size ?_
      intro vb2 wb HO2 HG2
      replace HB := ins_next HB HO HG2
      refine hK.out _ _ (fun _ => (HB.cell hp1).trans c3) ?_
      clear hK K
      try simp only [Act.put, List.setIfInBounds_toArray, List.set_cons_zero, List.set_cons_succ]
      refine G_ready [18] (by kernel_rfl) (by simp) ?_
      refine AllG.cons (o := ⟨some 69, _, _, _, _, _⟩) rfl (fun K hK => ?_) AllG.nil
      refine step_append_ins _ (by rfl) _ _ _ (by rfl) w1.heap.size 9 i3 _ 16 Tryz.underlying33 hi3 hz30 hz31 hz32 rfl vb2 (0 + k + 1) (([] ++ ((chansL r).map Value.string).take k) ++ [.string x]) (by rfl) HO2 (.slice A68 (nX - k) (cc - k)) (nX - k) (((chansL r).map Value.string).drop k) (by rfl) (src_drop hown (HB.block g hgl) hk hc1 hA _) (one_drop (one_str _) k) (by unfold maxLen; omega) (by omega) HB.size ?_
      intro v3 wd HO3 HG3
      replace HB := ins_next HB HO2 HG3
      refine hK.out _ _ (fun _ => (HB.cell hp1).trans c3) ?_
      clear hK K
      try simp only [Act.put, List.setIfInBounds_toArray, List.set_cons_zero, List.set_cons_succ]
      have hpd := (HB.block p hp1).trans H1.out
      have e9 : 0 + k + 1 + (nX - k) = nX + 1 := by omega
      rw [e9] at HO3
      obtain ⟨A3, C3, rfl, _, _, _⟩ := owns_form HO3
      obtain ⟨_, _, z2, z3, _, _, y2, y3⟩ := cell_in4 hpd
      have HM := Lib.hid (midC_of (base := base) (n := nX + 1) (l := ((chansL r).take k ++ ([x] ++ (chansL r).drop k))) HB H1.out HO3 rfl (by simp))
      clear HO HO2 HO3 HG2 HG3 HN hpd
      refine G_pure (i := 19) (oi := ⟨some 70, _, _, _, _, _⟩) rfl (by kernel_rfl) (by kernel_rfl) (by kernel_rfl) (fun _ _ _ h => h) (fun _ _ => by simp [SC]) (Or.inl ⟨by rfl, fun w _ => by go_simp; try rfl⟩) (fun _ => z3) ?_
      try simp only [Act.put, List.setIfInBounds_toArray, List.set_cons_zero, List.set_cons_succ]
      refine G_pure (i := 20) (oi := ⟨some 71, _, _, _, _, _⟩) rfl (by kernel_rfl) (by kernel_rfl) (by kernel_rfl) (fun _ _ _ h => h) (fun _ _ => by simp [SC]) (Or.inl ⟨by rfl, fun w _ => by go_simp; try rfl⟩) (fun _ => z3) ?_
      try simp only [Act.put, List.setIfInBounds_toArray, List.set_cons_zero, List.set_cons_succ]
      refine G_ready [21] (by kernel_rfl) (by simp) ?_
      refine AllG.cons (o := ⟨none, _, _, _, _, _⟩) rfl (fun K hK => ?_) AllG.nil
      go_simp
      refine hK.out _ _ (fun h => absurd h (by decide)) ?_
      clear hK K
      try simp only [Act.put, List.setIfInBounds_toArray, List.set_cons_zero, List.set_cons_succ]
      refine G_done (by kernel_rfl) (NoPanic.normal ?_) _
      go_wp2
      go_meet
      exact ⟨rfl, HM⟩
    ·go_simp
     have HB : Below w1.heap.size w1 (w1.alloc (.cells #[.string x] 9)).drew := ((Below.refl _ w1).alloc (Nat.le_refl _) _).drew
     refine hK.out _ _ (fun _ => (HB.cell hp1).trans c3) ?_
     clear hK K
     try simp only [Act.put, List.setIfInBounds_toArray, List.set_cons_zero, List.set_cons_succ]
     refine G_ready [1] (by kernel_rfl) (by simp) ?_
     refine AllG.cons (o := ⟨some 52, _, _, _, _, _⟩) rfl (fun K hK => ?_) AllG.nil
     go_simp
     replace HB : Below w1.heap.size w1 ((w1.alloc (.cells #[.string x] 9)).alloc (.cells #[] 9)).drew := (((Below.refl _ w1).alloc (Nat.le_refl _) _).alloc (by simp) _).drew
     have HN := heap_first w1 (.cells #[.string x] 9) (.cells #[] 9)
     have HE := heap_second w1 (.cells #[.string x] 9) (.cells #[] 9)
     refine hK.out _ _ (fun _ => (HB.cell hp1).trans c3) ?_
     clear hK K
     try simp only [Act.put, List.setIfInBounds_toArray, List.set_cons_zero, List.set_cons_succ]
     refine G_ready [8] (by kernel_rfl) (by simp) ?_
     refine AllG.cons (o := ⟨some 59, _, _, _, _, _⟩) rfl (fun K hK => ?_) AllG.nil
     refine step_append_ins _ (by rfl) _ _ _ (by rfl) w1.heap.size 9 i3 _ 16 Tryz.underlying33 hi3 hz30 hz31 hz32 rfl (.slice (some ⟨w1.heap.size + 1, 0, none⟩) 0 0) 0 [] (by rfl) (own_empty HE (by omega)) (.slice (some ⟨g, 0, none⟩) k cc) k (((chansL r).map Value.string).take k) (by rfl) (src_take hown (HB.block g hgl) hk) (one_take (one_str _) k) (by unfold maxLen; omega) (by omega) HB.size ?_
     intro va wa HO HG
     replace HB := ins_next HB (own_empty HE (by omega)) HG
     replace HN : wa.heap[w1.heap.size]? = some (.cells #[.string x] 9) := (HG.block _ (lt_of_block HN) (by simp [Value.ownBlock])).trans HN
     clear HE HG
     refine hK.out _ _ (fun _ => (HB.cell hp1).trans c3) ?_
     clear hK K
     try simp only [Act.put, List.setIfInBounds_toArray, List.set_cons_zero, List.set_cons_succ]
     refine G_ready [11] (by kernel_rfl) (by simp) ?_
     refine AllG.cons (o := ⟨some 62, _, _, _, _, _⟩) rfl (fun K hK => ?_) AllG.nil
     refine step_append_ins _ (by rfl) _ _ _ (by rfl) w1.heap.size 9 i3 _ 16 Tryz.underlying33 hi3 hz30 hz31 hz32 rfl va (0 + k) ([] ++ ((chansL r).map Value.string).take k) (by rfl) HO (.slice (some ⟨_, 0, none⟩) 1 1) 1 [.string x] (by rfl) (src_new HN) (by simp [Value.oneCell']) (by unfold maxLen; omega) (by omega) HB.size ?_
     intro vb2 wb HO2 HG2
     replace HB := ins_next HB HO HG2
     refine hK.out _ _ (fun _ => (HB.cell hp1).trans c3) ?_
     clear hK K
     try simp only [Act.put, List.setIfInBounds_toArray, List.set_cons_zero, List.set_cons_succ]
     refine G_ready [18] (by kernel_rfl) (by simp) ?_
     refine AllG.cons (o := ⟨some 69, _, _, _, _, _⟩) rfl (fun K hK => ?_) AllG.nil
     refine step_append_ins _ (by rfl) _ _ _ (by rfl) w1.heap.size 9 i3 _ 16 Tryz.underlying33 hi3 hz30 hz31 hz32 rfl vb2 (0 + k + 1) (([] ++ ((chansL r).map Value.string).take k) ++ [.string x]) (by rfl) HO2 (.slice A68 (nX - k) (cc - k)) (nX - k) (((chansL r).map Value.string).drop k) (by rfl) (src_drop hown (HB.block g hgl) hk hc1 hA _) (one_drop (one_str _) k) (by unfold maxLen; omega) (by omega) HB.size ?_
     intro v3 wd HO3 HG3
     replace HB := ins_next HB HO2 HG3
     refine hK.out _ _ (fun _ => (HB.cell hp1).trans c3) ?_
     clear hK K
     try simp only [Act.put, List.setIfInBounds_toArray, List.set_cons_zero, List.set_cons_succ]
     have hpd := (HB.block p hp1).trans H1.out
     have e9 : 0 + k + 1 + (nX - k) = nX + 1 := by omega
     rw [e9] at HO3
     obtain ⟨A3, C3, rfl, _, _, _⟩ := owns_form HO3
     obtain ⟨_, _, z2, z3, _, _, y2, y3⟩ := cell_in4 hpd
     have HM := Lib.hid (midC_of (base := base) (n := nX + 1) (l := ((chansL r).take k ++ ([x] ++ (chansL r).drop k))) HB H1.out HO3 rfl (by simp))
     clear HO HO2 HO3 HG2 HG3 HN hpd
     refine G_pure (i := 19) (oi := ⟨some 70, _, _, _, _, _⟩) rfl (by kernel_rfl) (by kernel_rfl) (by kernel_rfl) (fun _ _ _ h => h) (fun _ _ => by simp [SC]) (Or.inl ⟨by rfl, fun w _ => by go_simp; try rfl⟩) (fun _ => z3) ?_
     try simp only [Act.put, List.setIfInBounds_toArray, List.set_cons_zero, List.set_cons_succ]
     refine G_pure (i := 20) (oi := ⟨some 71, _, _, _, _, _⟩) rfl (by kernel_rfl) (by kernel_rfl) (by kernel_rfl) (fun _ _ _ h => h) (fun _ _ => by simp [SC]) (Or.inl ⟨by rfl, fun w _ => by go_simp; try rfl⟩) (fun _ => z3) ?_
     try simp only [Act.put, List.setIfInBounds_toArray, List.set_cons_zero, List.set_cons_succ]
     refine G_ready [21] (by kernel_rfl) (by simp) ?_
     refine AllG.cons (o := ⟨none, _, _, _, _, _⟩) rfl (fun K hK => ?_) AllG.nil
     go_simp
     refine hK.out _ _ (fun h => absurd h (by decide)) ?_
     clear hK K
     try simp only [Act.put, List.setIfInBounds_toArray, List.set_cons_zero, List.set_cons_succ]
     refine G_done (by kernel_rfl) (NoPanic.normal ?_) _
     go_wp2
     go_meet
     exact ⟨rfl, HM⟩
  case rest =>
   obtain ⟨rfl, hmid⟩ := hcut
   obtain ⟨v3, m1, m2, m3⟩ := hmid.out
   have X1 := Lib.hid m1; have M2 := Lib.hid m2; have M3 := Lib.hid m3
   have hown := owns_turn H4.out m3 h7
   clear c0 c1 c2 c3 f0 f1 f2 f3 hmid
   obtain ⟨_, _, d2, _, _, _, e2, _⟩ := cell_in4 m1
   clear m1 m2 m3
   go_upto_region 11 with fail
   rcases hown.2 with ⟨hv, h0⟩ | ⟨g, cap, cur, hv, hbg, hg, q1, q2, q3, q4⟩
   ·obtain ⟨rfl, rfl⟩ : ap = none ∧ cp = 0 := by simp at hv; exact ⟨hv.1, hv.2.2⟩
    obtain rfl : nX = 0 := h0
    obtain rfl : k = 0 := by omega
    clear hown hv
    refine wp_region_noPanic ?_
    refine wp_region_G (SC p 2 (.slice none 0 0)) (by kernel_rfl) ?_
    have HS : SC p 2 (.slice none 0 0) (Array.replicate 22 false) wc.drew := fun _ => d2
    refine G_pure (i := 0) (oi := ⟨some 72, _, _, _, _, _⟩) rfl (by kernel_rfl) (by kernel_rfl) (by kernel_rfl) (fun _ _ _ h => h) (fun _ _ => by simp [SC]) (Or.inl ⟨by rfl, fun w _ => by go_simp; try rfl⟩) HS ?_
    simp only [Act.put, List.setIfInBounds_toArray, List.set_cons_zero, List.set_cons_succ]
    replace HS := SC_set 0 (by decide) HS
    refine G_pure (i := 2) (oi := ⟨some 74, _, _, _, _, _⟩) rfl (by kernel_rfl) (by kernel_rfl) (by kernel_rfl) (fun _ _ _ h => h) (fun _ _ => by simp [SC]) (Or.inl ⟨by rfl, fun w _ => by go_simp; try rfl⟩) HS ?_
    simp only [Act.put, List.setIfInBounds_toArray, List.set_cons_zero, List.set_cons_succ]
    replace HS := SC_set 2 (by decide) HS
    refine G_pure (i := 3) (oi := ⟨some 75, _, _, _, _, _⟩) rfl (by kernel_rfl) (by kernel_rfl) (by kernel_rfl) (fun _ _ _ h => h) (fun _ _ => by simp [SC]) (Or.inl ⟨by rfl, fun w _ => by go_simp; try rfl⟩) HS ?_
    simp only [Act.put, List.setIfInBounds_toArray, List.set_cons_zero, List.set_cons_succ]
    replace HS := SC_set 3 (by decide) HS
    refine G_pure (i := 4) (oi := ⟨some 76, _, _, _, _, _⟩) rfl (by kernel_rfl) (by kernel_rfl) (by kernel_rfl) (fun _ _ _ h => h) (fun _ _ => by simp [SC]) (Or.inl ⟨by rfl, fun w _ => by go_simp; try rfl⟩) HS ?_
    simp only [Act.put, List.setIfInBounds_toArray, List.set_cons_zero, List.set_cons_succ]
    replace HS := SC_set 4 (by decide) HS
    refine G_load 21 (i := 5) (oi := ⟨some 77, _, _, _, _, _⟩) (fun w' => w'.cell? ⟨p, 2, none⟩ = some (.slice none 0 0)) rfl (by kernel_rfl) (by kernel_rfl) (by kernel_rfl) (fun _ _ _ h => h) (fun _ _ => by simp [SC]) (by kernel_rfl) (by kernel_rfl) (fun _ _ hl hs => hs hl) (Or.inl ⟨by rfl, fun w hw => by go_simp; try rfl⟩) HS ?_
    simp only [Act.put, List.setIfInBounds_toArray, List.set_cons_zero, List.set_cons_succ]
    replace HS := SC_set 5 (by decide) HS
    refine G_pure (i := 6) (oi := ⟨some 78, _, _, _, _, _⟩) rfl (by kernel_rfl) (by kernel_rfl) (by kernel_rfl) (fun _ _ _ h => h) (fun _ _ => by simp [SC]) (Or.inl ⟨by rfl, fun w _ => by go_simp; try rfl⟩) HS ?_
    simp only [Act.put, List.setIfInBounds_toArray, List.set_cons_zero, List.set_cons_succ]
    replace HS := SC_set 6 (by decide) HS
    refine G_pure (i := 7) (oi := ⟨some 79, _, _, _, _, _⟩) rfl (by kernel_rfl) (by kernel_rfl) (by kernel_rfl) (fun _ _ _ h => h) (fun _ _ => by simp [SC]) (Or.inl ⟨by rfl, fun w _ => by go_simp; try rfl⟩) HS ?_
    simp only [Act.put, List.setIfInBounds_toArray, List.set_cons_zero, List.set_cons_succ]
    replace HS := SC_set 7 (by decide) HS
    refine G_pure (i := 9) (oi := ⟨some 81, _, _, _, _, _⟩) rfl (by kernel_rfl) (by kernel_rfl) (by kernel_rfl) (fun _ _ _ h => h) (fun _ _ => by simp [SC]) (Or.inl ⟨by rfl, fun w _ => by go_simp; try rfl⟩) HS ?_
    simp only [Act.put, List.setIfInBounds_toArray, List.set_cons_zero, List.set_cons_succ]
    replace HS := SC_set 9 (by decide) HS
    refine G_pure (i := 12) (oi := ⟨some 84, _, _, _, _, _⟩) rfl (by kernel_rfl) (by kernel_rfl) (by kernel_rfl) (fun _ _ _ h => h) (fun _ _ => by simp [SC]) (Or.inl ⟨by rfl, fun w _ => by go_simp; try rfl⟩) HS ?_
    simp only [Act.put, List.setIfInBounds_toArray, List.set_cons_zero, List.set_cons_succ]
    replace HS := SC_set 12 (by decide) HS
    refine G_pure (i := 13) (oi := ⟨some 85, _, _, _, _, _⟩) rfl (by kernel_rfl) (by kernel_rfl) (by kernel_rfl) (fun _ _ _ h => h) (fun _ _ => by simp [SC]) (Or.inl ⟨by rfl, fun w _ => by go_simp; try rfl⟩) HS ?_
    simp only [Act.put, List.setIfInBounds_toArray, List.set_cons_zero, List.set_cons_succ]
    replace HS := SC_set 13 (by decide) HS
    refine G_pure (i := 14) (oi := ⟨some 86, _, _, _, _, _⟩) rfl (by kernel_rfl) (by kernel_rfl) (by kernel_rfl) (fun _ _ _ h => h) (fun _ _ => by simp [SC]) (Or.inl ⟨by rfl, fun w _ => by go_simp; try rfl⟩) HS ?_
    simp only [Act.put, List.setIfInBounds_toArray, List.set_cons_zero, List.set_cons_succ]
    replace HS := SC_set 14 (by decide) HS
    refine G_load 21 (i := 15) (oi := ⟨some 87, _, _, _, _, _⟩) (fun w' => w'.cell? ⟨p, 2, none⟩ = some (.slice none 0 0)) rfl (by kernel_rfl) (by kernel_rfl) (by kernel_rfl) (fun _ _ _ h => h) (fun _ _ => by simp [SC]) (by kernel_rfl) (by kernel_rfl) (fun _ _ hl hs => hs hl) (Or.inl ⟨by rfl, fun w hw => by go_simp; try rfl⟩) HS ?_
    simp only [Act.put, List.setIfInBounds_toArray, List.set_cons_zero, List.set_cons_succ]
    replace HS := SC_set 15 (by decide) HS
    refine G_pure (i := 16) (oi := ⟨some 88, _, _, _, _, _⟩) rfl (by kernel_rfl) (by kernel_rfl) (by kernel_rfl) (fun _ _ _ h => h) (fun _ _ => by simp [SC]) (Or.inl ⟨by rfl, fun w _ => by go_simp; try rfl⟩) HS ?_
    simp only [Act.put, List.setIfInBounds_toArray, List.set_cons_zero, List.set_cons_succ]
    replace HS := SC_set 16 (by decide) HS
    refine G_pure (i := 17) (oi := ⟨some 89, _, _, _, _, _⟩) rfl (by kernel_rfl) (by kernel_rfl) (by kernel_rfl) (fun _ _ _ h => h) (fun _ _ => by simp [SC]) (Or.inl ⟨by rfl, fun w _ => by go_simp; try rfl⟩) HS ?_
    simp only [Act.put, List.setIfInBounds_toArray, List.set_cons_zero, List.set_cons_succ]
    replace HS := SC_set 17 (by decide) HS
    have hp1 : p < wc.heap.size := lt_of_block X1.out
    refine G_ready [1, 10] (by kernel_rfl) (by simp) ?_
    refine AllG.cons (o := ⟨some 73, _, _, _, _, _⟩) rfl (fun K hK => ?_) (AllG.cons (o := ⟨some 82, _, _, _, _, _⟩) rfl (fun K hK => ?_) AllG.nil)
    ·go_simp
     have HB : Below wc.heap.size wc (wc.alloc (.cells #[] 3)).drew := ((Below.refl _ wc).alloc (Nat.le_refl _) _).drew
     have HE : (wc.alloc (.cells #[] 3)).drew.heap[wc.heap.size]? = some (.cells #[] 3) := heap_alloc_new wc _
     refine hK.out _ _ (fun _ => (HB.cell hp1).trans d2) ?_
     clear hK K
     try simp only [Act.put, List.setIfInBounds_toArray, List.set_cons_zero, List.set_cons_succ]
     refine G_ready [8, 10] (by kernel_rfl) (by simp) ?_
     refine AllG.cons (o := ⟨some 80, _, _, _, _, _⟩) rfl (fun K hK => ?_) (AllG.cons (o := ⟨some 82, _, _, _, _, _⟩) rfl (fun K hK => ?_) AllG.nil)
     ·refine step_append_ins _ (by rfl) _ _ _ (by rfl) wc.heap.size 3 j3 _ 8 Tryz.underlying36 hj3 hy30 hy31 hy32 rfl (.slice (some ⟨wc.heap.size, 0, none⟩) 0 0) 0 [] (by rfl) (own_empty HE (Nat.le_refl _)) (.slice none 0 0) 0 [] (by rfl) (.inr ⟨rfl, rfl, rfl⟩) (fun _ h => by cases h) (by unfold maxLen; omega) (by omega) HB.size ?_
      intro va wa HO HG
      replace HB := ins_next HB (own_empty HE (Nat.le_refl _)) HG
      refine hK.out _ _ (fun _ => (HB.cell hp1).trans d2) ?_
      clear hK K
      try simp only [Act.put, List.setIfInBounds_toArray, List.set_cons_zero, List.set_cons_succ]
      refine G_ready [10] (by kernel_rfl) (by simp) ?_
      refine AllG.cons (o := ⟨some 82, _, _, _, _, _⟩) rfl (fun K hK => ?_) AllG.nil
      go_simp
      have HN := heap_alloc_new wa (.cells #[.int .i64 (ix : Int)] 3)
      replace HB := HB.alloc HB.size (.cells #[.int .i64 (ix : Int)] 3)
      replace HO := HO.alloc (.cells #[.int .i64 (ix : Int)] 3)
      clear HE HG
      refine hK.out _ _ (fun _ => (HB.cell hp1).trans d2) ?_
      clear hK K
      try simp only [Act.put, List.setIfInBounds_toArray, List.set_cons_zero, List.set_cons_succ]
      refine G_ready [11] (by kernel_rfl) (by simp) ?_
      refine AllG.cons (o := ⟨some 83, _, _, _, _, _⟩) rfl (fun K hK => ?_) AllG.nil
      refine step_append_ins _ (by rfl) _ _ _ (by rfl) wc.heap.size 3 j3 _ 8 Tryz.underlying36 hj3 hy30 hy31 hy32 rfl va (0 + 0) ([] ++ []) (by rfl) HO (.slice (some ⟨_, 0, none⟩) 1 1) 1 [.int .i64 (ix : Int)] (by rfl) (src_new HN) (by simp [Value.oneCell']) (by unfold maxLen; omega) (by omega) HB.size ?_
      intro vb2 wb HO2 HG2
      replace HB := ins_next HB HO HG2
      refine hK.out _ _ (fun _ => (HB.cell hp1).trans d2) ?_
      clear hK K
      try simp only [Act.put, List.setIfInBounds_toArray, List.set_cons_zero, List.set_cons_succ]
      refine G_ready [18] (by kernel_rfl) (by simp) ?_
      refine AllG.cons (o := ⟨some 90, _, _, _, _, _⟩) rfl (fun K hK => ?_) AllG.nil
      refine step_append_ins _ (by rfl) _ _ _ (by rfl) wc.heap.size 3 j3 _ 8 Tryz.underlying36 hj3 hy30 hy31 hy32 rfl vb2 (0 + 0 + 1) (([] ++ []) ++ [.int .i64 (ix : Int)]) (by rfl) HO2 (.slice none 0 0) 0 [] (by rfl) (.inr ⟨rfl, rfl, rfl⟩) (fun _ h => by cases h) (by unfold maxLen; omega) (by omega) HB.size ?_
      intro v3 wd HO3 HG3
      replace HB := ins_next HB HO2 HG3
      refine hK.out _ _ (fun _ => (HB.cell hp1).trans d2) ?_
      clear hK K
      try simp only [Act.put, List.setIfInBounds_toArray, List.set_cons_zero, List.set_cons_succ]
      have hpd := (HB.block p hp1).trans X1.out
      have e9 : 0 + 0 + 1 + 0 = 0 + 1 := by omega
      rw [e9] at HO3
      obtain ⟨A3, C3, rfl, _, _, _⟩ := owns_form HO3
      obtain ⟨_, _, z2, z3, _, _, y2, y3⟩ := cell_in4 hpd
      have HM := Lib.hid (midP_of (base := base) (n := 0 + 1) (l := ((levsL r).take 0 ++ ([.int .i64 (ix : Int)] ++ (levsL r).drop 0))) HB X1.out HO3 rfl (by unfold levsL; rw [List.eq_nil_of_length_eq_zero HNX.out]; rfl))
      clear HO HO2 HO3 HG2 HG3 HN hpd
      refine G_pure (i := 19) (oi := ⟨some 91, _, _, _, _, _⟩) rfl (by kernel_rfl) (by kernel_rfl) (by kernel_rfl) (fun _ _ _ h => h) (fun _ _ => by simp [SC]) (Or.inl ⟨by rfl, fun w _ => by go_simp; try rfl⟩) (fun _ => z2) ?_
      try simp only [Act.put, List.setIfInBounds_toArray, List.set_cons_zero, List.set_cons_succ]
      refine G_pure (i := 20) (oi := ⟨some 92, _, _, _, _, _⟩) rfl (by kernel_rfl) (by kernel_rfl) (by kernel_rfl) (fun _ _ _ h => h) (fun _ _ => by simp [SC]) (Or.inl ⟨by rfl, fun w _ => by go_simp; try rfl⟩) (fun _ => z2) ?_
      try simp only [Act.put, List.setIfInBounds_toArray, List.set_cons_zero, List.set_cons_succ]
      refine G_ready [21] (by kernel_rfl) (by simp) ?_
      refine AllG.cons (o := ⟨none, _, _, _, _, _⟩) rfl (fun K hK => ?_) AllG.nil
      go_simp
      refine hK.out _ _ (fun h => absurd h (by decide)) ?_
      clear hK K
      try simp only [Act.put, List.setIfInBounds_toArray, List.set_cons_zero, List.set_cons_succ]
      refine G_done (by kernel_rfl) (NoPanic.normal ?_) _
      have FIN := Lib.hid (chan_end (x := x) (ix := ix) HB1.out HBL.out H2.out H3.out h7 h8 HNX.out HLOW.out HHI.out HNO.out M2.out M3.out HM.out)
      go_wp2
      go_ret
      exact ⟨rfl, FIN.out⟩
     ·go_simp
      replace HB : Below wc.heap.size wc ((wc.alloc (.cells #[] 3)).alloc (.cells #[.int .i64 (ix : Int)] 3)).drew := (((Below.refl _ wc).alloc (Nat.le_refl _) _).alloc (by simp) _).drew
      replace HE := heap_first wc (.cells #[] 3) (.cells #[.int .i64 (ix : Int)] 3)
      have HN := heap_second wc (.cells #[] 3) (.cells #[.int .i64 (ix : Int)] 3)
      refine hK.out _ _ (fun _ => (HB.cell hp1).trans d2) ?_
      clear hK K
      try simp only [Act.put, List.setIfInBounds_toArray, List.set_cons_zero, List.set_cons_succ]
      refine G_ready [8] (by kernel_rfl) (by simp) ?_
      refine AllG.cons (o := ⟨some 80, _, _, _, _, _⟩) rfl (fun K hK => ?_) AllG.nil
      refine step_append_ins _ (by rfl) _ _ _ (by rfl) wc.heap.size 3 j3 _ 8 Tryz.underlying36 hj3 hy30 hy31 hy32 rfl (.slice (some ⟨wc.heap.size, 0, none⟩) 0 0) 0 [] (by rfl) (own_empty HE (Nat.le_refl _)) (.slice none 0 0) 0 [] (by rfl) (.inr ⟨rfl, rfl, rfl⟩) (fun _ h => by cases h) (by unfold maxLen; omega) (by omega) HB.size ?_
      intro va wa HO HG
      replace HB := ins_next HB (own_empty HE (Nat.le_refl _)) HG
      replace HN : wa.heap[wc.heap.size + 1]? = some (.cells #[.int .i64 (ix : Int)] 3) := (HG.block _ (lt_of_block HN) (by simp [Value.ownBlock])).trans HN
      clear HE HG
      refine hK.out _ _ (fun _ => (HB.cell hp1).trans d2) ?_
      clear hK K
      try simp only [Act.put, List.setIfInBounds_toArray, List.set_cons_zero, List.set_cons_succ]
      refine G_ready [11] (by kernel_rfl) (by simp) ?_
      refine AllG.cons (o := ⟨some 83, _, _, _, _, _⟩) rfl (fun K hK => ?_) AllG.nil
      refine step_append_ins _ (by rfl) _ _ _ (by rfl) wc.heap.size 3 j3 _ 8 Tryz.underlying36 hj3 hy30 hy31 hy32 rfl va (0 + 0) ([] ++ []) (by rfl) HO (.slice (some ⟨_, 0, none⟩) 1 1) 1 [.int .i64 (ix : Int)] (by rfl) (src_new HN) (by simp [Value.oneCell']) (by unfold maxLen; omega) (by omega) HB.size ?_
      intro vb2 wb HO2 HG2
      replace HB := ins_next HB HO HG2
      refine hK.out _ _ (fun _ => (HB.cell hp1).trans d2) ?_
      clear hK K
      try simp only [Act.put, List.setIfInBounds_toArray, List.set_cons_zero, List.set_cons_succ]
      refine G_ready [18] (by kernel_rfl) (by simp) ?_
      refine AllG.cons (o := ⟨some 90, _, _, _, _, _⟩) rfl (fun K hK => ?_) AllG.nil
      refine step_append_ins _ (by rfl) _ _ _ (by rfl) wc.heap.size 3 j3 _ 8 Tryz.underlying36 hj3 hy30 hy31 hy32 rfl vb2 (0 + 0 + 1) (([] ++ []) ++ [.int .i64 (ix : Int)]) (by rfl) HO2 (.slice none 0 0) 0 [] (by rfl) (.inr ⟨rfl, rfl, rfl⟩) (fun _ h => by cases h) (by unfold maxLen; omega) (by omega) HB.size ?_
      intro v3 wd HO3 HG3
      replace HB := ins_next HB HO2 HG3
      refine hK.out _ _ (fun _ => (HB.cell hp1).trans d2) ?_
      clear hK K
      try simp only [Act.put, List.setIfInBounds_toArray, List.set_cons_zero, List.set_cons_succ]
      have hpd := (HB.block p hp1).trans X1.out
      have e9 : 0 + 0 + 1 + 0 = 0 + 1 := by omega
      rw [e9] at HO3
      obtain ⟨A3, C3, rfl, _, _, _⟩ := owns_form HO3
      obtain ⟨_, _, z2, z3, _, _, y2, y3⟩ := cell_in4 hpd
      have HM := Lib.hid (midP_of (base := base) (n := 0 + 1) (l := ((levsL r).take 0 ++ ([.int .i64 (ix : Int)] ++ (levsL r).drop 0))) HB X1.out HO3 rfl (by unfold levsL; rw [List.eq_nil_of_length_eq_zero HNX.out]; rfl))
      clear HO HO2 HO3 HG2 HG3 HN hpd
      refine G_pure (i := 19) (oi := ⟨some 91, _, _, _, _, _⟩) rfl (by kernel_rfl) (by kernel_rfl) (by kernel_rfl) (fun _ _ _ h => h) (fun _ _ => by simp [SC]) (Or.inl ⟨by rfl, fun w _ => by go_simp; try rfl⟩) (fun _ => z2) ?_
      try simp only [Act.put, List.setIfInBounds_toArray, List.set_cons_zero, List.set_cons_succ]
      refine G_pure (i := 20) (oi := ⟨some 92, _, _, _, _, _⟩) rfl (by kernel_rfl) (by kernel_rfl) (by kernel_rfl) (fun _ _ _ h => h) (fun _ _ => by simp [SC]) (Or.inl ⟨by rfl, fun w _ => by go_simp; try rfl⟩) (fun _ => z2) ?_
      try simp only [Act.put, List.setIfInBounds_toArray, List.set_cons_zero, List.set_cons_succ]
      refine G_ready [21] (by kernel_rfl) (by simp) ?_
      refine AllG.cons (o := ⟨none, _, _, _, _, _⟩) rfl (fun K hK => ?_) AllG.nil
      go_simp
      refine hK.out _ _ (fun h => absurd h (by decide)) ?_
      clear hK K
      try simp only [Act.put, List.setIfInBounds_toArray, List.set_cons_zero, List.set_cons_succ]
      refine G_done (by kernel_rfl) (NoPanic.normal ?_) _
      have FIN := Lib.hid (chan_end (x := x) (ix := ix) HB1.out HBL.out H2.out H3.out h7 h8 HNX.out HLOW.out HHI.out HNO.out M2.out M3.out HM.out)
      go_wp2
      go_ret
      exact ⟨rfl, FIN.out⟩
    ·go_simp
     have HB : Below wc.heap.size wc (wc.alloc (.cells #[.int .i64 (ix : Int)] 3)).drew := ((Below.refl _ wc).alloc (Nat.le_refl _) _).drew
     refine hK.out _ _ (fun _ => (HB.cell hp1).trans d2) ?_
     clear hK K
     try simp only [Act.put, List.setIfInBounds_toArray, List.set_cons_zero, List.set_cons_succ]
     refine G_ready [1] (by kernel_rfl) (by simp) ?_
     refine AllG.cons (o := ⟨some 73, _, _, _, _, _⟩) rfl (fun K hK => ?_) AllG.nil
     go_simp
     replace HB : Below wc.heap.size wc ((wc.alloc (.cells #[.int .i64 (ix : Int)] 3)).alloc (.cells #[] 3)).drew := (((Below.refl _ wc).alloc (Nat.le_refl _) _).alloc (by simp) _).drew
     have HN := heap_first wc (.cells #[.int .i64 (ix : Int)] 3) (.cells #[] 3)
     have HE := heap_second wc (.cells #[.int .i64 (ix : Int)] 3) (.cells #[] 3)
     refine hK.out _ _ (fun _ => (HB.cell hp1).trans d2) ?_
     clear hK K
     try simp only [Act.put, List.setIfInBounds_toArray, List.set_cons_zero, List.set_cons_succ]
     refine G_ready [8] (by kernel_rfl) (by simp) ?_
     refine AllG.cons (o := ⟨some 80, _, _, _, _, _⟩) rfl (fun K hK => ?_) AllG.nil
     refine step_append_ins _ (by rfl) _ _ _ (by rfl) wc.heap.size 3 j3 _ 8 Tryz.underlying36 hj3 hy30 hy31 hy32 rfl (.slice (some ⟨wc.heap.size + 1, 0, none⟩) 0 0) 0 [] (by rfl) (own_empty HE (by omega)) (.slice none 0 0) 0 [] (by rfl) (.inr ⟨rfl, rfl, rfl⟩) (fun _ h => by cases h) (by unfold maxLen; omega) (by omega) HB.size ?_
     intro va wa HO HG
     replace HB := ins_next HB (own_empty HE (by omega)) HG
     replace HN : wa.heap[wc.heap.size]? = some (.cells #[.int .i64 (ix : Int)] 3) := (HG.block _ (lt_of_block HN) (by simp [Value.ownBlock])).trans HN
     clear HE HG
     refine hK.out _ _ (fun _ => (HB.cell hp1).trans d2) ?_
     clear hK K
     try simp only [Act.put, List.setIfInBounds_toArray, List.set_cons_zero, List.set_cons_succ]
     refine G_ready [11] (by kernel_rfl) (by simp) ?_
     refine AllG.cons (o := ⟨some 83, _, _, _, _, _⟩) rfl (fun K hK => ?_) AllG.nil
     refine step_append_ins _ (by rfl) _ _ _ (by rfl) wc.heap.size 3 j3 _ 8 Tryz.underlying36 hj3 hy30 hy31 hy32 rfl va (0 + 0) ([] ++ []) (by rfl) HO (.slice (some ⟨_, 0, none⟩) 1 1) 1 [.int .i64 (ix : Int)] (by rfl) (src_new HN) (by simp [Value.oneCell']) (by unfold maxLen; omega) (by omega) HB.size ?_
     intro vb2 wb HO2 HG2
     replace HB := ins_next HB HO HG2
     refine hK.out _ _ (fun _ => (HB.cell hp1).trans d2) ?_
     clear hK K
     try simp only [Act.put, List.setIfInBounds_toArray, List.set_cons_zero, List.set_cons_succ]
     refine G_ready [18] (by kernel_rfl) (by simp) ?_
     refine AllG.cons (o := ⟨some 90, _, _, _, _, _⟩) rfl (fun K hK => ?_) AllG.nil
     refine step_append_ins _ (by rfl) _ _ _ (by rfl) wc.heap.size 3 j3 _ 8 Tryz.underlying36 hj3 hy30 hy31 hy32 rfl vb2 (0 + 0 + 1) (([] ++ []) ++ [.int .i64 (ix : Int)]) (by rfl) HO2 (.slice none 0 0) 0 [] (by rfl) (.inr ⟨rfl, rfl, rfl⟩) (fun _ h => by cases h) (by unfold maxLen; omega) (by omega) HB.size ?_
     intro v3 wd HO3 HG3
     replace HB := ins_next HB HO2 HG3
     refine hK.out _ _ (fun _ => (HB.cell hp1).trans d2) ?_
     clear hK K
     try simp only [Act.put, List.setIfInBounds_toArray, List.set_cons_zero, List.set_cons_succ]
     have hpd := (HB.block p hp1).trans X1.out
     have e9 : 0 + 0 + 1 + 0 = 0 + 1 := by omega
     rw [e9] at HO3
     obtain ⟨A3, C3, rfl, _, _, _⟩ := owns_form HO3
     obtain ⟨_, _, z2, z3, _, _, y2, y3⟩ := cell_in4 hpd
     have HM := Lib.hid (midP_of (base := base) (n := 0 + 1) (l := ((levsL r).take 0 ++ ([.int .i64 (ix : Int)] ++ (levsL r).drop 0))) HB X1.out HO3 rfl (by unfold levsL; rw [List.eq_nil_of_length_eq_zero HNX.out]; rfl))
     clear HO HO2 HO3 HG2 HG3 HN hpd
     refine G_pure (i := 19) (oi := ⟨some 91, _, _, _, _, _⟩) rfl (by kernel_rfl) (by kernel_rfl) (by kernel_rfl) (fun _ _ _ h => h) (fun _ _ => by simp [SC]) (Or.inl ⟨by rfl, fun w _ => by go_simp; try rfl⟩) (fun _ => z2) ?_
     try simp only [Act.put, List.setIfInBounds_toArray, List.set_cons_zero, List.set_cons_succ]
     refine G_pure (i := 20) (oi := ⟨some 92, _, _, _, _, _⟩) rfl (by kernel_rfl) (by kernel_rfl) (by kernel_rfl) (fun _ _ _ h => h) (fun _ _ => by simp [SC]) (Or.inl ⟨by rfl, fun w _ => by go_simp; try rfl⟩) (fun _ => z2) ?_
     try simp only [Act.put, List.setIfInBounds_toArray, List.set_cons_zero, List.set_cons_succ]
     refine G_ready [21] (by kernel_rfl) (by simp) ?_
     refine AllG.cons (o := ⟨none, _, _, _, _, _⟩) rfl (fun K hK => ?_) AllG.nil
     go_simp
     refine hK.out _ _ (fun h => absurd h (by decide)) ?_
     clear hK K
     try simp only [Act.put, List.setIfInBounds_toArray, List.set_cons_zero, List.set_cons_succ]
     refine G_done (by kernel_rfl) (NoPanic.normal ?_) _
     have FIN := Lib.hid (chan_end (x := x) (ix := ix) HB1.out HBL.out H2.out H3.out h7 h8 HNX.out HLOW.out HHI.out HNO.out M2.out M3.out HM.out)
     go_wp2
     go_ret
     exact ⟨rfl, FIN.out⟩
   ·obtain ⟨rfl, rfl⟩ : ap = some ⟨g, 0, none⟩ ∧ cp = cap := by simpa using hv
    clear hv q4
    refine wp_region_noPanic ?_
    refine wp_region_G (SC p 2 (.slice (some ⟨g, 0, none⟩) nX cp)) (by kernel_rfl) ?_
    have HS : SC p 2 (.slice (some ⟨g, 0, none⟩) nX cp) (Array.replicate 22 false) wc.drew := fun _ => d2
    have hk2 : k ≤ cp := by omega
    refine G_pure (i := 0) (oi := ⟨some 72, _, _, _, _, _⟩) rfl (by kernel_rfl) (by kernel_rfl) (by kernel_rfl) (fun _ _ _ h => h) (fun _ _ => by simp [SC]) (Or.inl ⟨by rfl, fun w _ => by go_simp; try rfl⟩) HS ?_
    simp only [Act.put, List.setIfInBounds_toArray, List.set_cons_zero, List.set_cons_succ]
    replace HS := SC_set 0 (by decide) HS
    refine G_pure (i := 2) (oi := ⟨some 74, _, _, _, _, _⟩) rfl (by kernel_rfl) (by kernel_rfl) (by kernel_rfl) (fun _ _ _ h => h) (fun _ _ => by simp [SC]) (Or.inl ⟨by rfl, fun w _ => by go_simp; try rfl⟩) HS ?_
    simp only [Act.put, List.setIfInBounds_toArray, List.set_cons_zero, List.set_cons_succ]
    replace HS := SC_set 2 (by decide) HS
    refine G_pure (i := 3) (oi := ⟨some 75, _, _, _, _, _⟩) rfl (by kernel_rfl) (by kernel_rfl) (by kernel_rfl) (fun _ _ _ h => h) (fun _ _ => by simp [SC]) (Or.inl ⟨by rfl, fun w _ => by go_simp; try rfl⟩) HS ?_
    simp only [Act.put, List.setIfInBounds_toArray, List.set_cons_zero, List.set_cons_succ]
    replace HS := SC_set 3 (by decide) HS
    refine G_pure (i := 4) (oi := ⟨some 76, _, _, _, _, _⟩) rfl (by kernel_rfl) (by kernel_rfl) (by kernel_rfl) (fun _ _ _ h => h) (fun _ _ => by simp [SC]) (Or.inl ⟨by rfl, fun w _ => by go_simp; try rfl⟩) HS ?_
    simp only [Act.put, List.setIfInBounds_toArray, List.set_cons_zero, List.set_cons_succ]
    replace HS := SC_set 4 (by decide) HS
    refine G_load 21 (i := 5) (oi := ⟨some 77, _, _, _, _, _⟩) (fun w' => w'.cell? ⟨p, 2, none⟩ = some (.slice (some ⟨g, 0, none⟩) nX cp)) rfl (by kernel_rfl) (by kernel_rfl) (by kernel_rfl) (fun _ _ _ h => h) (fun _ _ => by simp [SC]) (by kernel_rfl) (by kernel_rfl) (fun _ _ hl hs => hs hl) (Or.inl ⟨by rfl, fun w hw => by go_simp; try rfl⟩) HS ?_
    simp only [Act.put, List.setIfInBounds_toArray, List.set_cons_zero, List.set_cons_succ]
    replace HS := SC_set 5 (by decide) HS
    refine G_pure (i := 6) (oi := ⟨some 78, _, _, _, _, _⟩) rfl (by kernel_rfl) (by kernel_rfl) (by kernel_rfl) (fun _ _ _ h => h) (fun _ _ => by simp [SC]) (Or.inl ⟨by rfl, fun w _ => by go_simp; try rfl⟩) HS ?_
    simp only [Act.put, List.setIfInBounds_toArray, List.set_cons_zero, List.set_cons_succ]
    replace HS := SC_set 6 (by decide) HS
    refine G_pure (i := 7) (oi := ⟨some 79, _, _, _, _, _⟩) rfl (by kernel_rfl) (by kernel_rfl) (by kernel_rfl) (fun _ _ _ h => h) (fun _ _ => by simp [SC]) (Or.inl ⟨by rfl, fun w _ => by go_simp; try rfl⟩) HS ?_
    simp only [Act.put, List.setIfInBounds_toArray, List.set_cons_zero, List.set_cons_succ]
    replace HS := SC_set 7 (by decide) HS
    refine G_pure (i := 9) (oi := ⟨some 81, _, _, _, _, _⟩) rfl (by kernel_rfl) (by kernel_rfl) (by kernel_rfl) (fun _ _ _ h => h) (fun _ _ => by simp [SC]) (Or.inl ⟨by rfl, fun w _ => by go_simp; try rfl⟩) HS ?_
    simp only [Act.put, List.setIfInBounds_toArray, List.set_cons_zero, List.set_cons_succ]
    replace HS := SC_set 9 (by decide) HS
    refine G_pure (i := 12) (oi := ⟨some 84, _, _, _, _, _⟩) rfl (by kernel_rfl) (by kernel_rfl) (by kernel_rfl) (fun _ _ _ h => h) (fun _ _ => by simp [SC]) (Or.inl ⟨by rfl, fun w _ => by go_simp; try rfl⟩) HS ?_
    simp only [Act.put, List.setIfInBounds_toArray, List.set_cons_zero, List.set_cons_succ]
    replace HS := SC_set 12 (by decide) HS
    refine G_pure (i := 13) (oi := ⟨some 85, _, _, _, _, _⟩) rfl (by kernel_rfl) (by kernel_rfl) (by kernel_rfl) (fun _ _ _ h => h) (fun _ _ => by simp [SC]) (Or.inl ⟨by rfl, fun w _ => by go_simp; try rfl⟩) HS ?_
    simp only [Act.put, List.setIfInBounds_toArray, List.set_cons_zero, List.set_cons_succ]
    replace HS := SC_set 13 (by decide) HS
    refine G_pure (i := 14) (oi := ⟨some 86, _, _, _, _, _⟩) rfl (by kernel_rfl) (by kernel_rfl) (by kernel_rfl) (fun _ _ _ h => h) (fun _ _ => by simp [SC]) (Or.inl ⟨by rfl, fun w _ => by go_simp; try rfl⟩) HS ?_
    simp only [Act.put, List.setIfInBounds_toArray, List.set_cons_zero, List.set_cons_succ]
    replace HS := SC_set 14 (by decide) HS
    refine G_load 21 (i := 15) (oi := ⟨some 87, _, _, _, _, _⟩) (fun w' => w'.cell? ⟨p, 2, none⟩ = some (.slice (some ⟨g, 0, none⟩) nX cp)) rfl (by kernel_rfl) (by kernel_rfl) (by kernel_rfl) (fun _ _ _ h => h) (fun _ _ => by simp [SC]) (by kernel_rfl) (by kernel_rfl) (fun _ _ hl hs => hs hl) (Or.inl ⟨by rfl, fun w hw => by go_simp; try rfl⟩) HS ?_
    simp only [Act.put, List.setIfInBounds_toArray, List.set_cons_zero, List.set_cons_succ]
    replace HS := SC_set 15 (by decide) HS
    refine G_pure (i := 16) (oi := ⟨some 88, _, _, _, _, _⟩) rfl (by kernel_rfl) (by kernel_rfl) (by kernel_rfl) (fun _ _ _ h => h) (fun _ _ => by simp [SC]) (Or.inl ⟨by rfl, fun w _ => by go_simp; try rfl⟩) HS ?_
    simp only [Act.put, List.setIfInBounds_toArray, List.set_cons_zero, List.set_cons_succ]
    replace HS := SC_set 16 (by decide) HS
    refine G_pure (i := 17) (oi := ⟨some 89, _, _, _, _, _⟩) rfl (by kernel_rfl) (by kernel_rfl) (by kernel_rfl) (fun _ _ _ h => h) (fun _ _ => by simp [SC]) (Or.inl ⟨by rfl, fun w _ => by go_simp; try rfl⟩) HS ?_
    simp only [Act.put, List.setIfInBounds_toArray, List.set_cons_zero, List.set_cons_succ]
    replace HS := SC_set 17 (by decide) HS
    generalize hA : (if cp = k then some (⟨g, 0, none⟩ : Addr) else some ⟨g, k, none⟩) = A68
    have hgl : g < wc.heap.size := lt_of_block hg
    have hp1 : p < wc.heap.size := lt_of_block X1.out
    refine G_ready [1, 10] (by kernel_rfl) (by simp) ?_
    refine AllG.cons (o := ⟨some 73, _, _, _, _, _⟩) rfl (fun K hK => ?_) (AllG.cons (o := ⟨some 82, _, _, _, _, _⟩) rfl (fun K hK => ?_) AllG.nil)
    ·go_simp
     have HB : Below wc.heap.size wc (wc.alloc (.cells #[] 3)).drew := ((Below.refl _ wc).alloc (Nat.le_refl _) _).drew
     have HE : (wc.alloc (.cells #[] 3)).drew.heap[wc.heap.size]? = some (.cells #[] 3) := heap_alloc_new wc _
     refine hK.out _ _ (fun _ => (HB.cell hp1).trans d2) ?_
     clear hK K
     try simp only [Act.put, List.setIfInBounds_toArray, List.set_cons_zero, List.set_cons_succ]
     refine G_ready [8, 10] (by kernel_rfl) (by simp) ?_
     refine AllG.cons (o := ⟨some 80, _, _, _, _, _⟩) rfl (fun K hK => ?_) (AllG.cons (o := ⟨some 82, _, _, _, _, _⟩) rfl (fun K hK => ?_) AllG.nil)
     ·refine step_append_ins _ (by rfl) _ _ _ (by rfl) wc.heap.size 3 j3 _ 8 Tryz.underlying36 hj3 hy30 hy31 hy32 rfl (.slice (some ⟨wc.heap.size, 0, none⟩) 0 0) 0 [] (by rfl) (own_empty HE (Nat.le_refl _)) (.slice (some ⟨g, 0, none⟩) k cp) k ((levsL r).take k) (by rfl) (src_take hown (HB.block g hgl) hk) (one_take (one_lev r) k) (by unfold maxLen; omega) (by omega) HB.size ?_
      intro va wa HO HG
      replace HB := ins_next HB (own_empty HE (Nat.le_refl _)) HG
      refine hK.out _ _ (fun _ => (HB.cell hp1).trans d2) ?_
      clear hK K
      try simp only [Act.put, List.setIfInBounds_toArray, List.set_cons_zero, List.set_cons_succ]
      refine G_ready [10] (by kernel_rfl) (by simp) ?_
      refine AllG.cons (o := ⟨some 82, _, _, _, _, _⟩) rfl (fun K hK => ?_) AllG.nil
      go_simp
      have HN := heap_alloc_new wa (.cells #[.int .i64 (ix : Int)] 3)
      replace HB := HB.alloc HB.size (.cells #[.int .i64 (ix : Int)] 3)
      replace HO := HO.alloc (.cells #[.int .i64 (ix : Int)] 3)
      clear HE HG
      refine hK.out _ _ (fun _ => (HB.cell hp1).trans d2) ?_
      clear hK K
      try simp only [Act.put, List.setIfInBounds_toArray, List.set_cons_zero, List.set_cons_succ]
      refine G_ready [11] (by kernel_rfl) (by simp) ?_
      refine AllG.cons (o := ⟨some 83, _, _, _, _, _⟩) rfl (fun K hK => ?_) AllG.nil
      refine step_append_ins _ (by rfl) _ _ _ (by rfl) wc.heap.size 3 j3 _ 8 Tryz.underlying36 hj3 hy30 hy31 hy32 rfl va (0 + k) ([] ++ (levsL r).take k) (by rfl) HO (.slice (some ⟨_, 0, none⟩) 1 1) 1 [.int .i64 (ix : Int)] (by rfl) (src_new HN) (by simp [Value.oneCell']) (by unfold maxLen; omega) (by omega) HB.size ?_
      intro vb2 wb HO2 HG2
      replace HB := ins_next HB HO HG2
      refine hK.out _ _ (fun _ => (HB.cell hp1).trans d2) ?_
      clear hK K
      try simp only [Act.put, List.setIfInBounds_toArray, List.set_cons_zero, List.set_cons_succ]
      refine G_ready [18] (by kernel_rfl) (by simp) ?_
      refine AllG.cons (o := ⟨some 90, _, _, _, _, _⟩) rfl (fun K hK => ?_) AllG.nil
      refine step_append_ins _ (by rfl) _ _ _ (by rfl) wc.heap.size 3 j3 _ 8 Tryz.underlying36 hj3 hy30 hy31 hy32 rfl vb2 (0 + k + 1) (([] ++ (levsL r).take k) ++ [.int .i64 (ix : Int)]) (by rfl) HO2 (.slice A68 (nX - k) (cp - k)) (nX - k) ((levsL r).drop k) (by rfl) (src_drop hown (HB.block g hgl) hk hcp1 hA _) (one_drop (one_lev r) k) (by unfold maxLen; omega) (by omega) HB.size ?_
      intro v3 wd HO3 HG3
      replace HB := ins_next HB HO2 HG3
      refine hK.out _ _ (fun _ => (HB.cell hp1).trans d2) ?_
      clear hK K
      try simp only [Act.put, List.setIfInBounds_toArray, List.set_cons_zero, List.set_cons_succ]
      have hpd := (HB.block p hp1).trans X1.out
      have e9 : 0 + k + 1 + (nX - k) = nX + 1 := by omega
      rw [e9] at HO3
      obtain ⟨A3, C3, rfl, _, _, _⟩ := owns_form HO3
      obtain ⟨_, _, z2, z3, _, _, y2, y3⟩ := cell_in4 hpd
      have HM := Lib.hid (midP_of (base := base) (n := nX + 1) (l := ((levsL r).take k ++ ([.int .i64 (ix : Int)] ++ (levsL r).drop k))) HB X1.out HO3 rfl (by simp))
      clear HO HO2 HO3 HG2 HG3 HN hpd
      refine G_pure (i := 19) (oi := ⟨some 91, _, _, _, _, _⟩) rfl (by kernel_rfl) (by kernel_rfl) (by kernel_rfl) (fun _ _ _ h => h) (fun _ _ => by simp [SC]) (Or.inl ⟨by rfl, fun w _ => by go_simp; try rfl⟩) (fun _ => z2) ?_
      try simp only [Act.put, List.setIfInBounds_toArray, List.set_cons_zero, List.set_cons_succ]
      refine G_pure (i := 20) (oi := ⟨some 92, _, _, _, _, _⟩) rfl (by kernel_rfl) (by kernel_rfl) (by kernel_rfl) (fun _ _ _ h => h) (fun _ _ => by simp [SC]) (Or.inl ⟨by rfl, fun w _ => by go_simp; try rfl⟩) (fun _ => z2) ?_
      try simp only [Act.put, List.setIfInBounds_toArray, List.set_cons_zero, List.set_cons_succ]
      refine G_ready [21] (by kernel_rfl) (by simp) ?_
      refine AllG.cons (o := ⟨none, _, _, _, _, _⟩) rfl (fun K hK => ?_) AllG.nil
      go_simp
      refine hK.out _ _ (fun h => absurd h (by decide)) ?_
      clear hK K
      try simp only [Act.put, List.setIfInBounds_toArray, List.set_cons_zero, List.set_cons_succ]
      refine G_done (by kernel_rfl) (NoPanic.normal ?_) _
      have FIN := Lib.hid (chan_end (x := x) (ix := ix) HB1.out HBL.out H2.out H3.out h7 h8 HNX.out HLOW.out HHI.out HNO.out M2.out M3.out HM.out)
      go_wp2
      go_ret
      exact ⟨rfl, FIN.out⟩
     ·go_simp
      replace HB : Below wc.heap.size wc ((wc.alloc (.cells #[] 3)).alloc (.cells #[.int .i64 (ix : Int)] 3)).drew := (((Below.refl _ wc).alloc (Nat.le_refl _) _).alloc (by simp) _).drew
      replace HE := heap_first wc (.cells #[] 3) (.cells #[.int .i64 (ix : Int)] 3)
      have HN := heap_second wc (.cells #[] 3) (.cells #[.int .i64 (ix : Int)] 3)
      refine hK.out _ _ (fun _ => (HB.cell hp1).trans d2) ?_
      clear hK K
      try simp only [Act.put, List.setIfInBounds_toArray, List.set_cons_zero, List.set_cons_succ]
      refine G_ready [8] (by kernel_rfl) (by simp) ?_
      refine AllG.cons (o := ⟨some 80, _, _, _, _, _⟩) rfl (fun K hK => ?_) AllG.nil
      refine step_append_ins _ (by rfl) _ _ _ (by rfl) wc.heap.size 3 j3 _ 8 Tryz.underlying36 hj3 hy30 hy31 hy32 rfl (.slice (some ⟨wc.heap.size, 0, none⟩) 0 0) 0 [] (by rfl) (own_empty HE (Nat.le_refl _)) (.slice (some ⟨g, 0, none⟩) k cp) k ((levsL r).take k) (by rfl) (src_take hown (HB.block g hgl) hk) (one_take (one_lev r) k) (by unfold maxLen; omega) (by omega) HB.size ?_
      intro va wa HO HG
      replace HB := ins_next HB (own_empty HE (Nat.le_refl _)) HG
      replace HN : wa.heap[wc.heap.size + 1]? = some (.cells #[.int .i64 (ix : Int)] 3) := (HG.block _ (lt_of_block HN) (by simp [Value.ownBlock])).trans HN
      clear HE HG
      refine hK.out _ _ (fun _ => (HB.cell hp1).trans d2) ?_
      clear hK K
      try simp only [Act.put, List.setIfInBounds_toArray, List.set_cons_zero, List.set_cons_succ]
      refine G_ready [11] (by kernel_rfl) (by simp) ?_
      refine AllG.cons (o := ⟨some 83, _, _, _, _, _⟩) rfl (fun K hK => ?_) AllG.nil
      refine step_append_ins _ (by rfl) _ _ _ (by rfl) wc.heap.size 3 j3 _ 8 Tryz.underlying36 hj3 hy30 hy31 hy32 rfl va (0 + k) ([] ++ (levsL r).take k) (by rfl) HO (.slice (some ⟨_, 0, none⟩) 1 1) 1 [.int .i64 (ix : Int)] (by rfl) (src_new HN) (by simp [Value.oneCell']) (by unfold maxLen; omega) (by omega) HB.size ?_
      intro vb2 wb HO2 HG2
      replace HB := ins_next HB HO HG2
      refine hK.out _ _ (fun _ => (HB.cell hp1).trans d2) ?_
      clear hK K
      try simp only [Act.put, List.setIfInBounds_toArray, List.set_cons_zero, List.set_cons_succ]
      refine G_ready [18] (by kernel_rfl) (by simp) ?_
      refine AllG.cons (o := ⟨some 90, _, _, _, _, _⟩) rfl (fun K hK => ?_) AllG.nil
      refine step_append_ins _ (by rfl) _ _ _ (by rfl) wc.heap.size 3 j3 _ 8 Tryz.underlying36 hj3 hy30 hy31 hy32 rfl vb2 (0 + k + 1) (([] ++ (levsL r).take k) ++ [.int .i64 (ix : Int)]) (by rfl) HO2 (.slice A68 (nX - k) (cp - k)) (nX - k) ((levsL r).drop k) (by rfl) (src_drop hown (HB.block g hgl) hk hcp1 hA _) (one_drop (one_lev r) k) (by unfold maxLen; omega) (by omega) HB.size ?_
      intro v3 wd HO3 HG3
      replace HB := ins_next HB HO2 HG3
      refine hK.out _ _ (fun _ => (HB.cell hp1).trans d2) ?_
      clear hK K
      try simp only [Act.put, List.setIfInBounds_toArray, List.set_cons_zero, List.set_cons_succ]
      have hpd := (HB.block p hp1).trans X1.out
      have e9 : 0 + k + 1 + (nX - k) = nX + 1 := by omega
      rw [e9] at HO3
      obtain ⟨A3, C3, rfl, _, _, _⟩ := owns_form HO3
      obtain ⟨_, _, z2, z3, _, _, y2, y3⟩ := cell_in4 hpd
      have HM := Lib.hid (midP_of (base := base) (n := nX + 1) (l := ((levsL r).take k ++ ([.int .i64 (ix : Int)] ++ (levsL r).drop k))) HB X1.out HO3 rfl (by simp))
      clear HO HO2 HO3 HG2 HG3 HN hpd
      refine G_pure (i := 19) (oi := ⟨some 91, _, _, _, _, _⟩) rfl (by kernel_rfl) (by kernel_rfl) (by kernel_rfl) (fun _ _ _ h => h) (fun _ _ => by simp [SC]) (Or.inl ⟨by rfl, fun w _ => by go_simp; try rfl⟩) (fun _ => z2) ?_
      try simp only [Act.put, List.setIfInBounds_toArray, List.set_cons_zero, List.set_cons_succ]
      refine G_pure (i := 20) (oi := ⟨some 92, _, _, _, _, _⟩) rfl (by kernel_rfl) (by kernel_rfl) (by kernel_rfl) (fun _ _ _ h => h) (fun _ _ => by simp [SC]) (Or.inl ⟨by rfl, fun w _ => by go_simp; try rfl⟩) (fun _ => z2) ?_
      try simp only [Act.put, List.setIfInBounds_toArray, List.set_cons_zero, List.set_cons_succ]
      refine G_ready [21] (by kernel_rfl) (by simp) ?_
      refine AllG.cons (o := ⟨none, _, _, _, _, _⟩) rfl (fun K hK => ?_) AllG.nil
      go_simp
      refine hK.out _ _ (fun h => absurd h (by decide)) ?_
      clear hK K
      try simp only [Act.put, List.setIfInBounds_toArray, List.set_cons_zero, List.set_cons_succ]
      refine G_done (by kernel_rfl) (NoPanic.normal ?_) _
      have FIN := Lib.hid (chan_end (x := x) (ix := ix) HB1.out HBL.out H2.out H3.out h7 h8 HNX.out HLOW.out HHI.out HNO.out M2.out M3.out HM.out)
      go_wp2
      go_ret
      exact ⟨rfl, FIN.out⟩
    ·go_simp
     have HB : Below wc.heap.size wc (wc.alloc (.cells #[.int .i64 (ix : Int)] 3)).drew := ((Below.refl _ wc).alloc (Nat.le_refl _) _).drew
     refine hK.out _ _ (fun _ => (HB.cell hp1).trans d2) ?_
     clear hK K
     try simp only [Act.put, List.setIfInBounds_toArray, List.set_cons_zero, List.set_cons_succ]
     refine G_ready [1] (by kernel_rfl) (by simp) ?_
     refine AllG.cons (o := ⟨some 73, _, _, _, _, _⟩) rfl (fun K hK => ?_) AllG.nil
     go_simp
     replace HB : Below wc.heap.size wc ((wc.alloc (.cells #[.int .i64 (ix : Int)] 3)).alloc (.cells #[] 3)).drew := (((Below.refl _ wc).alloc (Nat.le_refl _) _).alloc (by simp) _).drew
     have HN := heap_first wc (.cells #[.int .i64 (ix : Int)] 3) (.cells #[] 3)
     have HE := heap_second wc (.cells #[.int .i64 (ix : Int)] 3) (.cells #[] 3)
     refine hK.out _ _ (fun _ => (HB.cell hp1).trans d2) ?_
     clear hK K
     try simp only [Act.put, List.setIfInBounds_toArray, List.set_cons_zero, List.set_cons_succ]
     refine G_ready [8] (by kernel_rfl) (by simp) ?_
     refine AllG.cons (o := ⟨some 80, _, _, _, _, _⟩) rfl (fun K hK => ?_) AllG.nil
     refine step_append_ins _ (by rfl) _ _ _ (by rfl) wc.heap.size 3 j3 _ 8 Tryz.underlying36 hj3 hy30 hy31 hy32 rfl (.slice (some ⟨wc.heap.size + 1, 0, none⟩) 0 0) 0 [] (by rfl) (own_empty HE (by omega)) (.slice (some ⟨g, 0, none⟩) k cp) k ((levsL r).take k) (by rfl) (src_take hown (HB.block g hgl) hk) (one_take (one_lev r) k) (by unfold maxLen; omega) (by omega) HB.size ?_
     intro va wa HO HG
     replace HB := ins_next HB (own_empty HE (by omega)) HG
     replace HN : wa.heap[wc.heap.size]? = some (.cells #[.int .i64 (ix : Int)] 3) := (HG.block _ (lt_of_block HN) (by simp [Value.ownBlock])).trans HN
     clear HE HG
     refine hK.out _ _ (fun _ => (HB.cell hp1).trans d2) ?_
     clear hK K
     try simp only [Act.put, List.setIfInBounds_toArray, List.set_cons_zero, List.set_cons_succ]
     refine G_ready [11] (by kernel_rfl) (by simp) ?_
     refine AllG.cons (o := ⟨some 83, _, _, _, _, _⟩) rfl (fun K hK => ?_) AllG.nil
     refine step_append_ins _ (by rfl) _ _ _ (by rfl) wc.heap.size 3 j3 _ 8 Tryz.underlying36 hj3 hy30 hy31 hy32 rfl va (0 + k) ([] ++ (levsL r).take k) (by rfl) HO (.slice (some ⟨_, 0, none⟩) 1 1) 1 [.int .i64 (ix : Int)] (by rfl) (src_new HN) (by simp [Value.oneCell']) (by unfold maxLen; omega) (by omega) HB.size ?_
     intro vb2 wb HO2 HG2
     replace HB := ins_next HB HO HG2
     refine hK.out _ _ (fun _ => (HB.cell hp1).trans d2) ?_
     clear hK K
     try simp only [Act.put, List.setIfInBounds_toArray, List.set_cons_zero, List.set_cons_succ]
     refine G_ready [18] (by kernel_rfl) (by simp) ?_
     refine AllG.cons (o := ⟨some 90, _, _, _, _, _⟩) rfl (fun K hK => ?_) AllG.nil
     refine step_append_ins _ (by rfl) _ _ _ (by rfl) wc.heap.size 3 j3 _ 8 Tryz.underlying36 hj3 hy30 hy31 hy32 rfl vb2 (0 + k + 1) (([] ++ (levsL r).take k) ++ [.int .i64 (ix : Int)]) (by rfl) HO2 (.slice A68 (nX - k) (cp - k)) (nX - k) ((levsL r).drop k) (by rfl) (src_drop hown (HB.block g hgl) hk hcp1 hA _) (one_drop (one_lev r) k) (by unfold maxLen; omega) (by omega) HB.size ?_
     intro v3 wd HO3 HG3
     replace HB := ins_next HB HO2 HG3
     refine hK.out _ _ (fun _ => (HB.cell hp1).trans d2) ?_
     clear hK K
     try simp only [Act.put, List.setIfInBounds_toArray, List.set_cons_zero, List.set_cons_succ]
     have hpd := (HB.block p hp1).trans X1.out
     have e9 : 0 + k + 1 + (nX - k) = nX + 1 := by omega
     rw [e9] at HO3
     obtain ⟨A3, C3, rfl, _, _, _⟩ := owns_form HO3
     obtain ⟨_, _, z2, z3, _, _, y2, y3⟩ := cell_in4 hpd
     have HM := Lib.hid (midP_of (base := base) (n := nX + 1) (l := ((levsL r).take k ++ ([.int .i64 (ix : Int)] ++ (levsL r).drop k))) HB X1.out HO3 rfl (by simp))
     clear HO HO2 HO3 HG2 HG3 HN hpd
     refine G_pure (i := 19) (oi := ⟨some 91, _, _, _, _, _⟩) rfl (by kernel_rfl) (by kernel_rfl) (by kernel_rfl) (fun _ _ _ h => h) (fun _ _ => by simp [SC]) (Or.inl ⟨by rfl, fun w _ => by go_simp; try rfl⟩) (fun _ => z2) ?_
     try simp only [Act.put, List.setIfInBounds_toArray, List.set_cons_zero, List.set_cons_succ]
     refine G_pure (i := 20) (oi := ⟨some 92, _, _, _, _, _⟩) rfl (by kernel_rfl) (by kernel_rfl) (by kernel_rfl) (fun _ _ _ h => h) (fun _ _ => by simp [SC]) (Or.inl ⟨by rfl, fun w _ => by go_simp; try rfl⟩) (fun _ => z2) ?_
     try simp only [Act.put, List.setIfInBounds_toArray, List.set_cons_zero, List.set_cons_succ]
     refine G_ready [21] (by kernel_rfl) (by simp) ?_
     refine AllG.cons (o := ⟨none, _, _, _, _, _⟩) rfl (fun K hK => ?_) AllG.nil
     go_simp
     refine hK.out _ _ (fun h => absurd h (by decide)) ?_
     clear hK K
     try simp only [Act.put, List.setIfInBounds_toArray, List.set_cons_zero, List.set_cons_succ]
     refine G_done (by kernel_rfl) (NoPanic.normal ?_) _
     have FIN := Lib.hid (chan_end (x := x) (ix := ix) HB1.out HBL.out H2.out H3.out h7 h8 HNX.out HLOW.out HHI.out HNO.out M2.out M3.out HM.out)
     go_wp2
     go_ret
     exact ⟨rfl, FIN.out⟩


set_option maxRecDepth 100000 in
set_option maxHeartbeats 1000000 in
theorem rchan_any (base p : Nat) (r : RS) (x y : ByteArray) (w : World) (hS : DSt base p r w) (hx : x.size ≤ 140737488351232) (hr : r.names.length ≤ 100000) (hc : (chansL r).length ≤ 100000) :
  Calls Tryz.prog 49 #[.pointer (some ⟨p, 0, none⟩), .string x, .string y] w fun e w' => DPost base p w (chanF r [bChannel, x, y]) e w' := by
 have hq : chanF r [bChannel, x, y] = if identOk x.data.toList = false then (3, r) else if Lib.idxOfS r.names y < 0 then (3, r) else
  if (ofAt r.of x).isSome = true then (4, r) else (0, { r with of := (x, (Lib.idxOfS r.names y).toNat) :: r.of }) := rfl
 have HI : Hid (Calls Tryz.prog 73 #[.string x] w fun e w' => e = .returned (.bool (identOk x.data.toList)) ∧ Hid (Below w.heap.size w w')) := rident_any x w hx
 by_cases hgood : identOk x.data.toList = true ∧ ¬ Lib.idxOfS r.names y < 0 ∧ (ofAt r.of x).isSome = false
 ·obtain ⟨g1, g2, g3⟩ := hgood
  rw [hq, if_neg (by rw [g1]; simp), if_neg g2, if_neg (by rw [g3]; simp)]
  rw [g1] at HI
  exact rchan_main base p _ r x y w hS hr hc HI.out (by omega) g3
 have HS := Lib.hid hS; clear hS
 obtain ⟨iy, hiy⟩ : ∃ iy, Lib.idxOfS r.names y = iy := ⟨_, rfl⟩
 have HPL : Hid (∀ (A : Option Addr) (c : Nat) (wx : World), Rd wx A (r.names.map Value.string) → Calls Tryz.prog 24 #[.slice A r.names.length c, .string y] wx fun e w' => e = .returned (.int .i64 iy) ∧ wx = w') := fun A c wx h => by
  rw [← hiy]; exact (rplace22_any A _ c r.names y _ rfl h (by omega)).mono fun _ _ h => ⟨h.1, h.2.symm⟩
 have hio : (ofAt r.of x).isSome = decide (0 ≤ Lib.idxOfS (chansL r) x) := by
  rw [Bool.eq_iff_iff, decide_eq_true_eq, ofAt_isSome, Lib.idxOfS_nonneg_iff, mem_chansL]
 obtain ⟨nX, hnX⟩ : ∃ n, (chansL r).length = n := ⟨_, rfl⟩
 obtain ⟨iz, hiz⟩ : ∃ iz, Lib.idxOfS (chansL r) x = iz := ⟨_, rfl⟩
 have HPC : Hid (∀ (A : Option Addr) (c : Nat) (wx : World), Rd wx A ((chansL r).map Value.string) → Calls Tryz.prog 24 #[.slice A nX c, .string x] wx fun e w' => e = .returned (.int .i64 iz) ∧ wx = w') := fun A c wx h => by
  rw [← hiz]; exact (rplace22_any A _ c (chansL r) x _ hnX h (by omega)).mono fun _ _ h => ⟨h.1, h.2.symm⟩
 rw [hio, hiz, hiy] at hgood
 rw [hq, hio, hiz, hiy]
 have HNX := Lib.hid hnX
 clear hq hio hiz hiy
 by_cases hid : identOk x.data.toList = true
 ·rw [hid] at HI
  rw [if_neg (by rw [hid]; simp)]
  by_cases hneg : iy < 0
  ·rw [if_pos hneg]
   clear hgood hid HPC
   go_enter Tryz.func49, Tryz.ntmps49
   go_wp2_with (go_at_call 73; refine HI.out.mono ?_; rintro e w1 ⟨rfl, HB1⟩; have HS1 := Lib.hid (HS.out.below HB1.out); have HS2 := HS1.out; obtain ⟨vn, vb, vp, vc, h1, h2, h3, h4, h5, h6, h7, h8⟩ := HS2; obtain ⟨an, cn, rfl, hn1, hn2, hn3⟩ := owns_form h2; have HR := Lib.hid hn3; obtain ⟨c0, c1, c2, c3, f0, f1, f2, f3⟩ := cell_in4 h1; clear h1 h2 h3 h4 h5 h6 hn3)
   go_upto_region 3 with (go_at_call 24; refine (HPL.out _ _ _ HR.out).mono ?_; rintro e w2 ⟨rfl, rfl⟩)
   go_wp2
   go_ret
   exact DPost.same HS.out HB1.out 3 rfl
  ·rw [if_neg hneg]
   have hzz : 0 ≤ iz := by
    by_cases h : 0 ≤ iz
    ·exact h
    ·exact absurd ⟨hid, hneg, by simpa using h⟩ hgood
   rw [if_pos (by simpa using hzz)]
   clear hgood hid
   go_enter Tryz.func49, Tryz.ntmps49
   go_wp2_with (go_at_call 73; refine HI.out.mono ?_; rintro e w1 ⟨rfl, HB1⟩; have HS1 := Lib.hid (HS.out.below HB1.out); have HS2 := HS1.out; obtain ⟨vn, vb, vp, vc, h1, h2, h3, h4, h5, h6, h7, h8⟩ := HS2; rw [HNX.out] at h4 h5; obtain ⟨an, cn, rfl, hn1, hn2, hn3⟩ := owns_form h2; obtain ⟨ac, cc, rfl, hc1, hc2, hc3⟩ := owns_form h5; have HR := Lib.hid hn3; have HRC := Lib.hid hc3; obtain ⟨c0, c1, c2, c3, f0, f1, f2, f3⟩ := cell_in4 h1; clear h1 h2 h3 h4 h5 h6 hn3 hc3)
   go_upto_region 3 with (go_at_call 24; refine (HPL.out _ _ _ HR.out).mono ?_; rintro e w2 ⟨rfl, rfl⟩)
   clear HPL
   go_upto_region 5 with fail
   go_wp2_with (go_at_call 24; refine (HPC.out _ _ _ HRC.out).mono ?_; rintro e w2 ⟨rfl, rfl⟩)
   go_ret
   exact DPost.same HS.out HB1.out 4 rfl
 ·have hf : identOk x.data.toList = false := by simpa using hid
  rw [hf] at HI
  rw [if_pos hf]
  clear hgood hid hf HPC
  go_enter Tryz.func49, Tryz.ntmps49
  go_wp2_with (go_at_call 73; refine HI.out.mono ?_; rintro e w1 ⟨rfl, HB1⟩; have HS1 := Lib.hid (HS.out.below HB1.out); have HS2 := HS1.out; obtain ⟨vn, vb, vp, vc, h1, h2, h3, h4, h5, h6, h7, h8⟩ := HS2; obtain ⟨an, cn, rfl, hn1, hn2, hn3⟩ := owns_form h2; have HR := Lib.hid hn3; obtain ⟨c0, c1, c2, c3, f0, f1, f2, f3⟩ := cell_in4 h1; clear h1 h2 h3 h4 h5 h6 hn3)
  go_wp2_with (go_at_call 24; refine (HPL.out _ _ _ HR.out).mono ?_; rintro e w2 ⟨rfl, rfl⟩)
  go_ret
  exact DPost.same HS.out HB1.out 3 rfl
end Go.Proofs.YtckpffkofeoinaaGreatDoor
