/- The document's New. -/
import Derived.Test.YtckpffkofeoinaaGreatDoorRefClose
import Derived.Test.YtckpffkofeoinaaGreatDoorRefRead
import Derived.Test.YtckpffkofeoinaaGreatDoorMid
import Derived.Test.YtckpffkofeoinaaGreatDoorPols
namespace Go.Proofs.YtckpffkofeoinaaGreatDoor
open Go.RowKit Go.Proofs.YtckpffkofeoinaaGreatDoor.Lr

def idRow (n i : Nat) : List Bool := (List.replicate n false).set i true

/-- The lattice while its rows are made: k of them, in the blocks rs. -/
structure HalfR (q base n : Nat) (vn : Value) (w0 w : World) (k : Nat) (vu : Value) (rs : List Nat) : Prop where
  len : rs.length = k
  nd : rs.Nodup
  ge : ∀ b ∈ rs, base ≤ b
  st : w.heap[q]? = some (.cells #[vn, vu] 44 (0, 0))
  own : w.ownsRow base 112 1 vu k (rs.map fun b => Value.slice (some ⟨b, 0, none⟩) n n)
  row : ∀ (i b : Nat), rs[i]? = some b → w.heap[b]? = some (.cells ((idRow n i).map Value.bool).toArray 4 (0, 0))
  below : Below base w0 w

def falsesC (n : Nat) : Array Value := madeCells #[.bool false] n
theorem falsesC_eq (n : Nat) : falsesC n = ((List.replicate n false).map Value.bool).toArray := by
  apply Array.toList_inj.1
  rw [falsesC, toList_madeCells_one]
  simp
theorem info_boolE : (Tryz.prog.info? 4).map (fun i => (i.zero, i.size, i.bytes)) = some (some (.bool false), 1, 1) := by kernel_rfl
theorem info_boolsE : (Tryz.prog.info? 112).map (fun i => (i.zero, i.size, i.bytes)) = some (some (.slice none 0 0), 1, 24) := by kernel_rfl
theorem make_bools {n : Nat} (hn : n ≤ 16) (w : World) : (Instr.makeSlice 112 (.int .i64 n) (.int .i64 n)).run Tryz.prog w = .ok (.slice (some ⟨w.heap.size, 0, none⟩) n n) (w.alloc (.cells (falsesC n) 4)) := by
  obtain ⟨i3, hi3, hz30, hz31, hz32⟩ := info_parts info_boolE
  have h := run_make (P := Tryz.prog) w 112 4 i3 _ Tryz.underlying112 hi3 hz30 .i64 .i64 n n (by omega) (by omega) (by rw [hz32]; omega) (by omega)
  rw [hz31] at h
  simpa [falsesC, Value.cells] using h

section
variable {q base n k : Nat} {vn vu : Value} {w0 w : World} {rs : List Nat}

theorem new_bit {w : World} {n k : Nat} (h : k < n) : (w.alloc (Obj.cells (falsesC n) 4)).cell? ⟨w.heap.size, k, none⟩ = some (.bool false) ∧ (w.alloc (Obj.cells (falsesC n) 4)).frozen? ⟨w.heap.size, k, none⟩ = false := by
  have hnew := heap_alloc_new w (Obj.cells (falsesC n) 4)
  exact ⟨(YtckpffkofeoinaaGreatDoorW.PrintWords.blk_cell hnew k).trans (by rw [falsesC_eq]; simp [h]), YtckpffkofeoinaaGreatDoorW.PrintWords.blk_frozen hnew k⟩

theorem HalfR.lt (h : HalfR q base n vn w0 w k vu rs) {b : Nat} (hb : b ∈ rs) : b < w.heap.size := by
  obtain ⟨i, hi, rfl⟩ := List.mem_iff_getElem.1 hb
  exact lt_of_block (h.row i _ (List.getElem?_eq_getElem hi))

/-- A new row, and its own mark. -/
theorem HalfR.made (h : HalfR q base n vn w0 w k vu rs) (hbase : base ≤ w.heap.size) :
    HalfR q base n vn w0 (w.alloc (.cells ((falsesC n).setIfInBounds k (.bool true)) 4)) k vu rs ∧
    (w.alloc (.cells ((falsesC n).setIfInBounds k (.bool true)) 4)).heap[w.heap.size]? = some (.cells ((idRow n k).map Value.bool).toArray 4 (0, 0)) := by
  have e : (falsesC n).setIfInBounds k (.bool true) = ((idRow n k).map Value.bool).toArray := by
    rw [falsesC_eq]
    apply Array.toList_inj.1
    simp [idRow, List.map_set]
  rw [e]
  exact ⟨⟨h.len, h.nd, h.ge, at_alloc h.st, h.own.alloc _, fun i b hb => at_alloc (h.row i b hb), h.below.alloc hbase _⟩, heap_alloc_new w _⟩

theorem HalfR.keepq {w3 : World} {o : Obj} (h : HalfR q base n vn w0 w k vu rs) (hg : (w.alloc o).grownBy w3 vu.ownBlock) : w3.heap[q]? = some (.cells #[vn, vu] 44 (0, 0)) := by
  have h1 : (w.alloc o).heap[q]? = some (.cells #[vn, vu] 44 (0, 0)) := at_alloc h.st
  rw [hg.block q (lt_of_block h1) (fun e => owns_ne h.own h.st (by decide) e.symm)]
  exact h1

/-- The row is put behind the others. -/
theorem HalfR.step {w3 : World} {v1 : Value} {b : Nat} (h : HalfR q base n vn w0 w k vu rs) (hb : w.heap[b]? = some (.cells ((idRow n k).map Value.bool).toArray 4 (0, 0))) (hnb : b ∉ rs) (hge : base ≤ b) (hq : base ≤ q)
    (hown : w3.ownsRow base 112 1 v1 (k + 1) ((rs.map fun b => Value.slice (some ⟨b, 0, none⟩) n n) ++ [.slice (some ⟨b, 0, none⟩) n n])) (hg : (w.alloc (.cells #[.slice (some ⟨b, 0, none⟩) n n] 112)).grownBy w3 vu.ownBlock)
    (hB : Below base w0 w3) : HalfR q base n vn w0 (w3.setCell ⟨q, 1, none⟩ v1) (k + 1) v1 (rs ++ [b]) := by
  have keep : ∀ (p : Nat) (c : Array Value) (T : Nat), w.heap[p]? = some (.cells c T (0, 0)) → T ≠ 112 → w3.heap[p]? = some (.cells c T (0, 0)) := fun p c T hp hT => by
    have h1 : (w.alloc (.cells #[.slice (some ⟨b, 0, none⟩) n n] 112)).heap[p]? = some (.cells c T (0, 0)) := at_alloc hp
    rw [hg.block p (lt_of_block h1) (fun e => owns_ne h.own hp hT e.symm)]
    exact h1
  have hst := keep _ _ _ h.st (by decide)
  have ne : ∀ b', w.heap[b']? = some (.cells ((idRow n k).map Value.bool).toArray 4 (0, 0)) → b' ≠ q := fun b' hb' e => by
    subst e; rw [h.st] at hb'; injection hb' with hb'; injection hb' with _ e _; exact absurd e (by decide)
  refine ⟨by simp [h.len], ?_, fun x hx => ?_, ?_, ?_, fun i x hx => ?_, hB.setCell hq _⟩
  · rw [List.nodup_append]
    refine ⟨h.nd, by simp, fun x hx y hy => ?_⟩
    rw [List.mem_singleton] at hy
    subst hy
    exact fun e => hnb (by rw [← e]; exact hx)
  · rcases List.mem_append.1 hx with hx | hx
    · exact h.ge x hx
    · rw [List.mem_singleton.1 hx]; exact hge
  · rw [World.setCell, Array.getElem?_modify, if_pos rfl, hst]
    simp
  · rw [List.map_append]
    exact ownsRow_setCell_type hown hst (by decide) _ _
  · by_cases hi : i < rs.length
    · rw [List.getElem?_append_left hi] at hx
      have hr := h.row i x hx
      refine at_setCell (keep _ _ _ hr (by decide)) ?_
      intro e
      have e' : x = q := e
      subst e'
      rw [h.st] at hr; injection hr with hr; injection hr with _ e _; exact absurd e (by decide)
    · rw [List.getElem?_append_right (by omega)] at hx
      have hi2 : i - rs.length = 0 := by
        rcases Nat.eq_zero_or_pos (i - rs.length) with e | e
        · exact e
        · rw [List.getElem?_eq_none (by simp; omega)] at hx; cases hx
      rw [hi2] at hx
      have e : b = x := by simpa using hx
      subst e
      have hik : i = k := by have := h.len; omega
      subst hik
      exact at_setCell (keep _ _ _ hb (by decide)) (ne b hb)
end

def idRows (n : Nat) : List (List Bool) := (List.range n).map (idRow n)
theorem idRows_at {n i : Nat} (h : i < n) : (idRows n).getD i [] = idRow n i := by
  simp [idRows, List.getD_eq_getElem?_getD, h]
theorem bit_id {n a b : Nat} (ha : a < n) (hb : b < n) : bit (idRows n) a b = true ↔ a = b := by
  unfold bit
  rw [idRows_at ha]
  unfold idRow
  simp only [List.getD_eq_getElem?_getD, List.getElem?_set, List.length_replicate, List.getElem?_replicate]
  by_cases e : a = b
  · subst e; simp [hb]
  · rw [if_neg e, if_pos hb]; simp [e]

theorem HalfR.grid {q base n : Nat} {vn vu : Value} {w0 w : World} {rs : List Nat} (h : HalfR q base n vn w0 w n vu rs) (hpos : 0 < n) :
    ∃ g cap, ∃ r : Nat → Nat, vu = .slice (some ⟨g, 0, none⟩) n cap ∧ Grid q g r n vn cap w (idRows n) ∧ ∀ i, i < n → base ≤ r i := by
  have hl := h.len
  have hat : ∀ i (hi : i < n), rs[i]? = some (rs.getD i 0) := fun i hi => by rw [List.getD_eq_getElem?_getD, List.getElem?_eq_getElem (by omega)]; rfl
  obtain ⟨hx, ⟨_, h0⟩ | ⟨g, cap, cur, rfl, hg, hh, h1, h2, h3, h4⟩⟩ := h.own
  · omega
  · refine ⟨g, cap, fun i => rs.getD i 0, rfl, ⟨by simp [idRows], fun i hi => by rw [idRows_at hi]; simp [idRow], h.st, ⟨cur, hh, fun i hi => ?_⟩, fun i hi => by rw [idRows_at hi]; exact h.row i _ (hat i hi), fun i j hi hj e => ?_⟩, fun i hi => h.ge _ (List.mem_of_getElem? (hat i hi))⟩
    · have e : (rs.map fun b => Value.slice (some ⟨b, 0, none⟩) n n)[i]? = some (.slice (some ⟨rs.getD i 0, 0, none⟩) n n) := by rw [List.getElem?_map, hat i hi]; rfl
      rw [← h4, List.getElem?_take, if_pos (by omega)] at e
      simpa using e
    · have e1 := hat i hi
      have e2 := hat j hj
      rw [← e] at e2
      exact (List.getElem?_inj (by omega) h.nd).1 (e1.trans e2.symm)

def markP (names : List ByteArray) (U : List (List Bool)) (p : ByteArray × ByteArray) : List (List Bool) := mark U (placeI names p.1).toNat (placeI names p.2).toNat
def markTo (names : List ByteArray) (pairs : List (ByteArray × ByteArray)) (k : Nat) : List (List Bool) := (pairs.take k).foldl (markP names) (idRows names.length)

/-- The marks are the comparisons of the lattice that is made of the same names and pairs. -/
def Shows (names : List ByteArray) (pairs : List (ByteArray × ByteArray)) (U : List (List Bool)) : Prop :=
  (U.length = names.length ∧ ∀ i, i < names.length → (U.getD i []).length = names.length) ∧ ∀ a b, a < names.length → b < names.length → (bit U a b = true ↔ leB (newL names pairs).up a b = true)

theorem mark_wide {n : Nat} {U : List (List Bool)} {a b : Nat} (h : U.length = n ∧ ∀ i, i < n → (U.getD i []).length = n) (ha : a < n) : (mark U a b).length = n ∧ ∀ i, i < n → ((mark U a b).getD i []).length = n := by
  refine ⟨by simp [mark, h.1], fun i hi => ?_⟩
  rw [mark_row U a b i (by omega)]
  split
  · rw [List.length_set]; exact h.2 a ha
  · exact h.2 i hi

theorem markTo_bit (names : List ByteArray) (pairs : List (ByteArray × ByteArray)) (hpos : 0 < names.length) : ∀ (l : List (ByteArray × ByteArray)) (U : List (List Bool)), (U.length = names.length ∧ ∀ i, i < names.length → (U.getD i []).length = names.length) →
    ((l.foldl (markP names) U).length = names.length ∧ ∀ i, i < names.length → ((l.foldl (markP names) U).getD i []).length = names.length) ∧
    ∀ a b, bit (l.foldl (markP names) U) a b = true ↔ bit U a b = true ∨ ∃ q ∈ l, (placeI names q.1).toNat = a ∧ (placeI names q.2).toNat = b
  | [], U, h => ⟨h, fun a b => by simp⟩
  | x :: l, U, h => by
    have l1 := placeI_lt names x.1 hpos
    have l2 := placeI_lt names x.2 hpos
    have hm := mark_wide (b := (placeI names x.2).toNat) h (show (placeI names x.1).toNat < names.length by omega)
    obtain ⟨h1, h2⟩ := markTo_bit names pairs hpos l (markP names U x) hm
    refine ⟨h1, fun a b => ?_⟩
    rw [List.foldl_cons, h2, markP, bit_mark (by rw [h.1]; omega) (by rw [h.2 _ (by omega)]; omega)]
    constructor
    · rintro (h3 | ⟨q, hq, h4⟩)
      · split at h3
        · rename_i e; exact .inr ⟨x, by simp, e.1.symm, e.2.symm⟩
        · exact .inl h3
      · exact .inr ⟨q, by simp [hq], h4⟩
    · rintro (h3 | ⟨q, hq, h4, h5⟩)
      · left; split
        · rfl
        · exact h3
      · rcases List.mem_cons.1 hq with rfl | hq
        · left; rw [if_pos ⟨h4.symm, h5.symm⟩]
        · exact .inr ⟨q, hq, h4, h5⟩

theorem shows_of {names : List ByteArray} {pairs : List (ByteArray × ByteArray)} {U : List (List Bool)} (hpos : 0 < names.length) (hw : U.length = names.length ∧ ∀ i, i < names.length → (U.getD i []).length = names.length)
    (hF : Follows names.length (markTo names pairs pairs.length) U) (hT : ∀ i j k, i < names.length → j < names.length → k < names.length → bit U i j = true → bit U j k = true → bit U i k = true) : Shows names pairs U := by
  have hu := upP_len names pairs
  have h0 : ∀ a b, a < names.length → b < names.length → (bit (markTo names pairs pairs.length) a b = true ↔ leB (upP names pairs) a b = true) := fun a b ha hb => by
    rw [upP_le names pairs hpos a b ha, markTo, List.take_length, (markTo_bit names pairs hpos pairs (idRows names.length) ⟨by simp [idRows], fun i hi => by rw [idRows_at hi]; simp [idRow]⟩).2, bit_id ha hb]
  refine ⟨hw, fun a b ha hb => ⟨fun h => ?_, fun h => ?_⟩⟩
  · exact hF.least (fun a b => leB (newL names pairs).up a b = true) (fun a b ha hb h => warshK_more _ _ hu _ a b ha ((h0 a b ha hb).1 h)) (fun a b c ha hb hc h1 h2 => warshK_through names.length _ hu names.length (Nat.le_refl _) b hb a c ha h1 h2) a b ha hb h
  · exact warshK_least names.length _ hu (fun a b => b < names.length → a < names.length → bit U a b = true) (fun a b ha h hb _ => hF.more a b ha hb ((h0 a b ha hb).2 h)) (fun a b c ha hb h1 h2 hc _ => hT a b c ha hb hc (h1 hb ha) (h2 hc hb)) names.length (Nat.le_refl _) a b ha h hb ha

/-- What the document's New hands back. -/
def RNewPost (w w' : World) (A : Option Addr) (c : Nat) (names : List ByteArray) (pairs : List (ByteArray × ByteArray)) (e : Ending) : Prop :=
  Below w.heap.size w w' ∧ ((newE names pairs = 0 ∧ ∃ q g r cap U, e = pairV 0 (.pointer (some ⟨q, 0, none⟩)) ∧ w.heap.size ≤ q ∧ RLat q g r A c cap names U w' ∧ Shows names pairs U) ∨ (newE names pairs ≠ 0 ∧ e = pairV (newE names pairs) (.pointer none)))

theorem RNewPost.err {w w' : World} {A : Option Addr} {cn : Nat} {names : List ByteArray} {pairs : List (ByteArray × ByteArray)} {c : Int} (h : newE names pairs = c) (hc : c ≠ 0) (hB : Below w.heap.size w w') : RNewPost w w' A cn names pairs (.returned (.tuple #[.pointer none, .int .i64 c])) :=
  ⟨hB, .inr ⟨by rw [h]; exact hc, by rw [h]; rfl⟩⟩

set_option maxRecDepth 100000 in
set_option maxHeartbeats 8000000 in
theorem rnew_ok (A B : Option Addr) (c c2 n m : Nat) (names : List ByteArray) (pairs : List (ByteArray × ByteArray)) (w : World)
    (hn : names.length = n) (hc : n ≤ c) (_hcl : c ≤ 9223372036854775807) (hr : Rd w A (names.map Value.string)) (hl : names.length ≤ 140737488355328)
    (hm : pairs.length = m) (hrp : Rd w B (strs2 pairs)) (hml : m ≤ 140737488355328) (hE : checkE names = 0) (hpos : 0 < n) (hle : n ≤ 16)
    (hnamed : ∃ k, runnelref2_named.f k names = some (checkE names)) (hplace : ∀ (U : List (List Bool)) (s : ByteArray), ∃ k, runnelref2_Lattice_Place.f k names U s = some (placeI names s))
    (hlat : pairs.all (pairOk names) = true → ∀ U, Shows names pairs U → ∃ k, runnelref2_Lattice_lattice.f k names U = some (rightB (newL names pairs))) :
    Calls Tryz.prog 23 #[.slice A n c, .slice B m c2] w fun e w' => RNewPost w w' A c names pairs e := by
  subst hn
  subst hm
  obtain ⟨kn, hnamed⟩ := hnamed
  have HPL := Lib.hid hplace; have HLT := Lib.hid hlat; clear hplace hlat
  have HR := Lib.hid hr; have HE := Lib.hid hE; have HE2 := Lib.hid hE; have HRP := Lib.hid hrp; have HNM := Lib.hid hnamed; clear hr hE hrp hnamed
  go_enter Tryz.func23, Tryz.ntmps23
  go_wp2_with (go_at_call 50; refine (runnelref2_named.calls kn A c names _ w (strC HR.out (by omega)) hc HNM.out).mono ?_; rintro e w1 ⟨rfl, hB⟩; rw [HE.out]; have HB := Lib.hid hB; clear hB)
  have HB0 : Hid (Below w.heap.size w w1) := HB.out.below
  have hq0 : w.heap.size ≤ w1.heap.size := HB0.out.size
  have HH0 : Hid (HalfR w1.heap.size w.heap.size names.length (.slice A names.length c) w (w1.alloc (Obj.cells #[Value.slice A names.length c, Value.slice none 0 0] 44)) 0 (.slice none 0 0) []) :=
    ⟨rfl, .nil, by simp, heap_alloc_new w1 _, World.ownsRow_nil _ _ _ _, fun i b h => by simp at h, HB0.out.alloc hq0 _⟩
  obtain ⟨q, hq⟩ : ∃ q, q = w1.heap.size := ⟨_, rfl⟩
  rw [← hq] at HH0 hq0 ⊢
  clear HB HNM HE hq HB0
  obtain ⟨i3, hi3, hz30, hz31, hz32⟩ := info_parts info_boolsE
  have hmk := make_bools hle
  go_loopw [8] (fun i wr => ∃ (k : Nat) (vu : Value) (rs : List Nat), k ≤ names.length ∧ i = .int .i64 k ∧ Hid (HalfR q w.heap.size names.length (.slice A names.length c) w wr k vu rs)) (fun i _ => names.length - (intOf i).toNat)
  case atStart => exact ⟨0, _, _, Nat.zero_le _, rfl, HH0⟩
  case round =>
    clear HH0
    obtain ⟨k, vu, rs, hk, rfl, HH⟩ := hrel
    by_cases hlt : k < names.length
    · have i0 : (0 : Int) ≤ (k : Int) := Int.natCast_nonneg _
      have i1 : (k : Int) < (names.length : Int) := by omega
      obtain ⟨e1, ef⟩ := new_bit (w := wr) hlt
      have hbs := HH.out.below.size
      obtain ⟨hm1, hm2⟩ := HH.out.made hbs
      have hnb : wr.heap.size ∉ rs := fun h => by have := HH.out.lt h; omega
      have HM1 := Lib.hid hm1; have HM2 := Lib.hid hm2; have HNB := Lib.hid hnb; clear hm1 hm2 hnb
      go_upto_region 10 with fail
      clear e1 ef HH
      obtain ⟨W1, hW1⟩ : ∃ W1, W1 = wr.alloc (.cells ((falsesC names.length).setIfInBounds k (.bool true)) 4) := ⟨_, rfl⟩
      rw [← hW1] at HM1 HM2 ⊢
      obtain ⟨b, hb⟩ : ∃ b, b = wr.heap.size := ⟨_, rfl⟩
      rw [← hb] at HM2 HNB hbs ⊢
      clear hW1 hb
      have cq := YtckpffkofeoinaaGreatDoorW.PrintWords.blk_cell HM1.out.st 1
      have cq1 : W1.cell? ⟨q, 1, none⟩ = some vu := cq.trans rfl
      have cf1 : W1.frozen? ⟨q, 1, none⟩ = false := YtckpffkofeoinaaGreatDoorW.PrintWords.blk_frozen HM1.out.st 1
      clear cq
      have hbs1 := HM1.out.below.size
      go_wp2_with (at_builtin; refine wpList_append_lies _ rfl _ _ _ rfl w.heap.size 112 i3 _ 1 24 Tryz.underlying42 hi3 hz30 hz31 hz32 rfl (by omega) vu k _ rfl (HM1.out.own.alloc _) ⟨W1.heap.size, 0, none⟩ 1 1 [.slice (some ⟨b, 0, none⟩) names.length names.length] rfl rfl (World.news_of_block (cs := #[.slice (some ⟨b, 0, none⟩) names.length names.length]) (t := 112) (fr := (0, 0)) (heap_alloc_new W1 _)) (by simp [Value.oneCell']) (by omega) (by unfold maxLen; omega) (by omega) (by simp; omega) (W1.heap.size + 1) (by simp) ?_; intro gg cap w3 hown1 hgrow hat hltg; have hk3 := HM1.out.keepq hgrow; have z1 : w3.cell? ⟨q, 1, none⟩ = some vu := (YtckpffkofeoinaaGreatDoorW.PrintWords.blk_cell hk3 1).trans rfl; have z2 : w3.frozen? ⟨q, 1, none⟩ = false := YtckpffkofeoinaaGreatDoorW.PrintWords.blk_frozen hk3 1; have HOW := Lib.hid hown1; have HGR := Lib.hid hgrow; clear hown1 hgrow hat hltg hk3 cq1 cf1)
      have HX := Lib.hid (HM1.out.step HM2.out HNB.out hbs hq0 HOW.out HGR.out ((HM1.out.below.alloc hbs1 _).grown HGR.out (by have := hbs1; simp; omega) (fun p hp => (HM1.out.own.lt p hp).1)))
      go_roundw
      case rel => exact ⟨k + 1, _, _, by omega, by go_num, HX⟩
      case measure => simp [intOf]; omega
    · have hhn : HalfR q w.heap.size names.length (.slice A names.length c) w wr names.length vu rs := by
        have e : k = names.length := by omega
        have := HH.out
        rwa [e] at this
      obtain ⟨g, cap, r, rfl, hG, hge⟩ := hhn.grid hpos
      clear hhn
      have c1 : decide ((k : Int) < (names.length : Int)) = false := decide_eq_false (by omega)
      have HG0 : Hid (Grid q g r names.length (.slice A names.length c) cap wr (markTo names pairs 0)) := hG
      have HGE := Lib.hid hge
      have HB1 := Lib.hid HH.out.below
      clear hG hge HH hmk hi3 hz30 hz31 hz32
      go_wp2_with fail
      clear c1
      obtain ⟨wx, rfl⟩ : ∃ wx : World, wx = wr := ⟨_, rfl⟩
      go_loopw [10] (fun i wr => ∃ (k : Nat), k ≤ pairs.length ∧ i = .int .i64 k ∧ Hid ((pairs.take k).all (pairOk names) = true) ∧ Hid (Grid q g r names.length (.slice A names.length c) cap wr (markTo names pairs k)) ∧ Hid (Below w.heap.size w wr)) (fun i _ => pairs.length - (intOf i).toNat)
      case atStart => exact ⟨0, Nat.zero_le _, rfl, rfl, HG0, HB1⟩
      case round =>
        clear HG0 HB1
        obtain ⟨k, hk, rfl, HA, HG, HB⟩ := hrel
        by_cases hlt : k < pairs.length
        · obtain ⟨a1, a2⟩ := strs2_at pairs hlt
          have hrp := HRP.out.below HB.out
          obtain ⟨b, o, rfl, cp1⟩ := hrp.at a1
          obtain ⟨b', o', e1, cp2⟩ := hrp.at a2
          obtain ⟨rfl, rfl⟩ : b' = b ∧ o' = o := by simpa using e1.symm
          rw [← Nat.add_assoc] at cp2
          clear e1 hrp a1 a2
          have hall1 : ∀ (b : Bool), pairOk names pairs[k] = b → (pairs.take (k + 1)).all (pairOk names) = b := by
            intro b hb
            rw [List.take_succ_eq_append_getElem hlt, List.all_append, HA.out, List.all_cons, List.all_nil, hb]; simp
          have hup1 : markTo names pairs (k + 1) = markP names (markTo names pairs k) pairs[k] := by
            rw [markTo, List.take_succ_eq_append_getElem hlt, List.foldl_append]; rfl
          have hno : pairOk names pairs[k] = false → newE names pairs = 3 := by
            intro hb
            rw [newE, if_neg (by rw [HE2.out]; simp), if_pos]
            rw [List.all_eq_false]; exact ⟨_, List.getElem_mem hlt, by rw [hb]; simp⟩
          have HALL := Lib.hid hall1; have HUP := Lib.hid hup1; have HNO := Lib.hid hno; clear hall1 hup1 hno
          have hq2 : pairs[k] = (pairs[k].1, pairs[k].2) := rfl
          generalize pairs[k].1 = s1 at *
          generalize pairs[k].2 = s2 at *
          rw [hq2] at HALL HUP HNO
          clear hq2
          have l1 := placeI_lt names s1 hpos; have l2 := placeI_lt names s2 hpos
          have hRL : Hid (RLat q g r A c cap names (markTo names pairs k) wr) := ⟨HG.out, HR.out.below HB.out, hle⟩
          obtain ⟨k1, hf1⟩ := HPL.out (markTo names pairs k) s1
          obtain ⟨k2, hf2⟩ := HPL.out (markTo names pairs k) s2
          have HF1 := Lib.hid hf1; have HF2 := Lib.hid hf2; clear hf1 hf2
          have i0 : (0 : Int) ≤ (k : Int) := Int.natCast_nonneg _
          have i1 : (k : Int) < (pairs.length : Int) := by omega
          go_upto_region 15 with (go_at_call 51; refine (rplace_any hRL.out s1 HF1.out).mono ?_; rintro e wA ⟨rfl, hbA⟩; replace cp2 := (hbA.cell (World.block_lt_of_cell? _ _ cp2)).trans cp2; have HBA := Lib.hid hbA; clear hbA cp1)
          have hRL2 : Hid (RLat q g r A c cap names (markTo names pairs k) wA) := hRL.out.below HBA.out
          have HBW := Lib.hid (HB.out.trans (HBA.out.mono HB.out.size))
          clear hRL HF1 HB HG
          go_upto_region 16 with (go_at_call 51; refine (rplace_any hRL2.out s2 HF2.out).mono ?_; rintro e wB ⟨rfl, hbB⟩; have HBB := Lib.hid hbB; clear hbB cp2)
          have hRL3 : Hid (RLat q g r A c cap names (markTo names pairs k) wB) := hRL2.out.below HBB.out
          have HBW2 := Lib.hid (HBW.out.trans (HBB.out.mono HBW.out.size))
          clear hRL2 HF2 HBW HBA HBB
          by_cases h1 : placeI names s1 < 0
          · have HN3 := Lib.hid (HNO.out (by rw [pairOk, decide_eq_false (p := 0 ≤ placeI names s1) (by omega)]; rfl))
            go_wp2
            go_ret2
            exact RNewPost.err HN3.out (by decide) HBW2.out
          · by_cases h2 : placeI names s2 < 0
            · have HN3 := Lib.hid (HNO.out (by rw [pairOk, decide_eq_false (p := 0 ≤ placeI names s2) (by omega)]; simp))
              go_wp2
              go_ret2
              exact RNewPost.err HN3.out (by decide) HBW2.out
            · have HOK := Lib.hid (HALL.out true (by rw [pairOk, decide_eq_true (p := 0 ≤ placeI names s1) (by omega), decide_eq_true (p := 0 ≤ placeI names s2) (by omega)]; rfl))
              obtain ⟨ia, hia⟩ : ∃ i : Nat, placeI names s1 = (i : Int) := ⟨(placeI names s1).toNat, by omega⟩
              obtain ⟨ib, hib⟩ : ∃ i : Nat, placeI names s2 = (i : Int) := ⟨(placeI names s2).toNat, by omega⟩
              have lia : ia < names.length := by omega
              have lib : ib < names.length := by omega
              have hg := hRL3.out.1
              have HN : Hid (Grid q g r names.length (.slice A names.length c) cap (wB.setCell ⟨r ia, ib, none⟩ (.bool true)) (markTo names pairs (k + 1))) := by
                have e : markTo names pairs (k + 1) = mark (markTo names pairs k) ia ib := by
                  rw [HUP.out, markP]; simp only [hia, hib, Int.toNat_natCast]
                rw [e]
                exact hg.store lia
              have HN2 : Hid (Below w.heap.size w (wB.setCell ⟨r ia, ib, none⟩ (.bool true))) := HBW2.out.setCell (HGE.out ia lia) _
              have e1 := hg.cell1
              have ea := hg.cellG lia
              have eab := hg.cellB lia lib
              have ef := hg.frozen lia ib
              have j0 : (0 : Int) ≤ (ia : Int) := Int.natCast_nonneg _
              have j1 : (ia : Int) < (names.length : Int) := by omega
              have j2 : (0 : Int) ≤ (ib : Int) := Int.natCast_nonneg _
              have j3 : (ib : Int) < (names.length : Int) := by omega
              clear hg l1 l2 h1 h2 HALL HUP HNO hRL3
              go_wp2
              go_roundw
              case rel => exact ⟨k + 1, by omega, by go_num, HOK.out, HN.out, HN2.out⟩
              case measure => simp [intOf]; omega
        · have e : k = pairs.length := by omega
          have HAP : Hid (pairs.all (pairOk names) = true) := by have := HA.out; rwa [e, List.take_length] at this
          have HGP : Hid (Grid q g r names.length (.slice A names.length c) cap wr (markTo names pairs pairs.length)) := by have := HG.out; rwa [e] at this
          have c1 : decide ((k : Int) < (pairs.length : Int)) = false := decide_eq_false (by omega)
          clear e HA HG
          have hsz := HB.out.size
          go_upto_region 20 with (go_at_call 52; refine (close_any q g r names.length A c cap w.heap.size wr _ HGP.out HGE.out hsz (by omega)).mono ?_; rintro e wC ⟨rfl, hbC, U, hU1, hU2, hU3⟩; have HBC := Lib.hid hbC; have HU := Lib.hid hU1; have HSH := Lib.hid (shows_of hpos ⟨hU1.len, hU1.wide⟩ hU2 hU3); clear hbC hU1 hU2 hU3)
          have HBD := Lib.hid (HB.out.trans HBC.out)
          have hRL : Hid (RLat q g r A c cap names U wC) := ⟨HU.out, HR.out.below HBD.out, hle⟩
          obtain ⟨k3, hf3⟩ := HLT.out HAP.out U HSH.out
          have HF3 := Lib.hid hf3
          clear hf3 HB HBC HGP HU
          go_upto_region 21 with (go_at_call 53; refine (rlattice_any hRL.out HF3.out).mono ?_; rintro e wD ⟨rfl, hbD⟩; have HBE := Lib.hid hbD; clear hbD)
          have HBW := Lib.hid (HBD.out.trans (HBE.out.mono HBD.out.size))
          have hRL2 := Lib.hid (hRL.out.below HBE.out)
          clear hRL HBD HBE HF3
          cases hrb : rightB (newL names pairs) with
          | false =>
            have HN9 : Hid (newE names pairs = 9) := by show _ = _; rw [newE, if_neg (by rw [HE2.out]; simp), if_neg (by rw [HAP.out]; simp), if_pos hrb]
            clear hrb
            go_wp2
            go_ret2
            exact RNewPost.err HN9.out (by decide) HBW.out
          | true =>
            have HN0 : Hid (newE names pairs = 0) := by show _ = _; rw [newE, if_neg (by rw [HE2.out]; simp), if_neg (by rw [HAP.out]; simp), if_neg (by rw [hrb]; simp)]
            clear hrb
            go_wp2
            go_ret2
            exact ⟨HBW.out, .inl ⟨HN0.out, q, g, r, cap, U, rfl, hq0, hRL2.out, HSH.out⟩⟩

set_option maxRecDepth 100000 in
theorem rnew_any (A B : Option Addr) (c c2 n m : Nat) (names : List ByteArray) (pairs : List (ByteArray × ByteArray)) (w : World)
    (hn : names.length = n) (hc : n ≤ c) (_hcl : c ≤ 9223372036854775807) (hr : Rd w A (names.map Value.string)) (hl : names.length ≤ 140737488355328)
    (hm : pairs.length = m) (hrp : Rd w B (strs2 pairs)) (hml : m ≤ 140737488355328)
    (hnamed : ∃ k, runnelref2_named.f k names = some (checkE names)) (hplace : names.length ≤ 16 → ∀ (U : List (List Bool)) (s : ByteArray), ∃ k, runnelref2_Lattice_Place.f k names U s = some (placeI names s))
    (hlat : 0 < names.length → names.length ≤ 16 → pairs.all (pairOk names) = true → ∀ U, Shows names pairs U → ∃ k, runnelref2_Lattice_lattice.f k names U = some (rightB (newL names pairs))) :
    Calls Tryz.prog 23 #[.slice A n c, .slice B m c2] w fun e w' => RNewPost w w' A c names pairs e := by
  by_cases hE : checkE names = 0
  · obtain ⟨h1, h2⟩ := checkE_zero hE
    exact rnew_ok A B c c2 n m names pairs w hn hc _hcl hr hl hm hrp hml hE (by omega) (by omega) hnamed (hplace h2) (hlat h1 h2)
  · subst hn
    have hfin : newE names pairs = checkE names := by rw [newE, if_pos hE]
    obtain ⟨kn, hnamed⟩ := hnamed
    have HF := Lib.hid hfin; clear hfin
    have HR := Lib.hid hr; have HNM := Lib.hid hnamed; clear hr hrp hnamed hplace hlat
    have hb : (checkE names != 0) = true := by simpa using hE
    have HE := Lib.hid hE; clear hE
    go_enter Tryz.func23, Tryz.ntmps23
    go_wp2_with (go_at_call 50; refine (runnelref2_named.calls kn A c names _ w (strC HR.out (by omega)) hc HNM.out).mono ?_; rintro e w1 ⟨rfl, hB⟩; have HB := Lib.hid hB; clear hB)
    go_ret2
    exact RNewPost.err HF.out HE.out HB.out.below
end Go.Proofs.YtckpffkofeoinaaGreatDoor
