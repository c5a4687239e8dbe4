/- Channels: the keys of the map, sorted. -/
import Derived.Test.YtckpffkofeoinaaDoorPText
import Derived.Test.YtckpffkofeoinaaDoorOf
import Derived.Test.YtckpffkofeoinaaDoorIter
namespace Go.Proofs.YtckpffkofeoinaaDoor
open Go.RowKit Go.Maps

/-- The channels, rising. -/
def chansB (r : RS) : List (List UInt8) := (r.of.map (·.1.data.toList)).mergeSort Go.leB
def chansL (r : RS) : List ByteArray := (chansB r).map mkB

theorem ofAt_isSome {l : List (ByteArray × Nat)} {c : ByteArray} : (ofAt l c).isSome = true ↔ c ∈ l.map (·.1) := by
  rcases h : ofAt l c with _ | n
  · simp only [Option.isSome_none, Bool.false_eq_true, false_iff]
    exact ofAt_none.1 h
  · simp only [Option.isSome_some, true_iff]
    exact Classical.byContradiction fun hn => by rw [ofAt_none.2 hn] at h; cases h

theorem keys_nodup {l : List (ByteArray × Nat)} (h : (l.map (·.1)).Nodup) : (l.map (·.1.data.toList)).Nodup := by
  rw [List.Nodup, List.pairwise_map] at h ⊢
  exact h.imp fun hne e => hne (data_inj e)

theorem keys_perm {w : World} {b n : Nat} {D : DataW Unit} {l : List (ByteArray × Nat)} (hown : w.ownsMap Tryd.prog 9 elemI b n D) (hD : ∀ c, has D (keyL c) = (ofAt l c).isSome) (hnd : (l.map (·.1)).Nodup) :
    (l.map (·.1.data.toList)).Perm (strKeys D) ∧ Maps.size D = l.length := by
  obtain ⟨es, rfl, hpw, _⟩ := hown.entries klaw
  obtain ⟨es', hD', hko⟩ := hown.keysOf
  obtain rfl : es = es' := by simpa using hD'
  have hp := perm_strKeys (es := es) hpw (fun p hp => by obtain ⟨v, hv⟩ := hko p hp; obtain ⟨x, _, hx, _⟩ := Maps.keyOf_str Tryd.underlying9 hv; exact ⟨x, hx⟩) (keys_nodup hnd) (fun x => by
    have h1 := hD (mkB x)
    rw [show keyL (mkB x) = .string x by unfold keyL; rw [data_mkB]] at h1
    rw [h1, ofAt_isSome, List.mem_map, List.mem_map]
    constructor
    · rintro ⟨q, hq, e⟩; exact ⟨q, hq, by rw [← e, mkB_data]⟩
    · rintro ⟨q, hq, e⟩; exact ⟨q, hq, by rw [e, data_mkB]⟩)
  refine ⟨hp, ?_⟩
  have h2 := hp.length_eq
  have h3 : (strKeys (.map es : DataW Unit)).length = es.length := by simp [strKeys]
  rw [h3, List.length_map] at h2
  exact h2.symm

theorem enc_mk (x : List UInt8) : encStr x = .string (mkB x) := rfl

set_option maxHeartbeats 1000000 in
set_option maxRecDepth 100000 in
theorem channels_any (p : Nat) (r : RS) (w : World) (h : Pol w p r) (hnd : (r.of.map (·.1)).Nodup) (hsz : r.of.length ≤ 1000000) :
    Calls Tryd.prog 9 #[.pointer (some ⟨p, 0, none⟩)] w fun e w' => ∃ v', e = .returned v' ∧ Hid (w'.ownsRow w.heap.size 9 1 v' (chansL r).length ((chansL r).map Value.string)) ∧ Below w.heap.size w w' := by
  obtain ⟨l, b, h1, _, ⟨D, h3, h4⟩, _⟩ := h
  have c1 : w.cell? ⟨p, 1, none⟩ = some (.map (some b)) := by simp [World.cell?, h1]
  obtain ⟨hp, hs⟩ := keys_perm h3 (fun c => (h4 c).1) hnd
  have hfin : ∀ ss : List (List UInt8), ss.Perm (strKeys D) → (ss.mergeSort (fun x y => decide (x ≤ y))).map encStr = (chansL r).map Value.string ∧ ss.length = (chansL r).length := fun ss hss => by
    have e1 : ss.mergeSort (fun x y => decide (x ≤ y)) = chansB r := mergeSort_of_perm (hss.trans hp.symm)
    refine ⟨?_, ?_⟩
    · rw [e1]; unfold chansL; rw [List.map_map]; rfl
    · rw [← List.length_mergeSort (le := fun x y => decide (x ≤ y)) ss, e1]; simp [chansL]
  have HF := Lib.hid hfin
  have HS : Hid (CallsIn Fence.wide 5 Tryd.prog 24 #[.func (.func 50) #[] #[.pointer (some ⟨w.heap.size, 0, none⟩)]] (w.alloc (.cells #[.map (some b)] 40)) fun e w' => ∃ (v : Value) (ss : List (List UInt8)), e = .returned v ∧ ss.Perm (strKeys D) ∧
      w'.ownsRow (w.alloc (.cells #[.map (some b)] 40)).heap.size 9 1 v ss.length ((ss.mergeSort (fun x y => decide (x ≤ y))).map encStr) ∧ (v = .slice none 0 0 ↔ ss = []) ∧ Below (w.alloc (.cells #[.map (some b)] 40)).heap.size (w.alloc (.cells #[.map (some b)] 40)) w') :=
    Tryd.slices_Sorted_keys_24_25 b _ D elemI w h3 (by rw [hs]; unfold maxLen; omega) (by rw [hs]; omega)
  clear hfin hs hp h3 h4 h1 hnd
  refine (callsIn_wide (n := 6)).1 ?_
  have hfK : Fence.wide.fn 25 := trivial
  have hfS : Fence.wide.fn 24 := trivial
  refine callsIn_of_wp Tryd.func9 rfl trivial ?_ rfl
  simp only [Tryd.ntmps9, List.size_toArray, List.length_cons, List.length_nil, Nat.reduceAdd, Nat.reduceSub, Array.replicate_succ, Array.replicate_zero, List.push_toArray, List.append_toArray, List.nil_append, List.cons_append]
  gi_wp2_with (first
    | (gi_at_call 25; refine (Tryd.maps_Keys_25 _ _).mono ?_; rintro e w' ⟨rfl, rfl⟩)
    | (gi_at_call 24; refine HS.out.mono ?_; rintro e w' ⟨v, ss, rfl, hS, hrow, hnil, hb⟩; have HSS := Lib.hid hS; have HR := Lib.hid hrow; have HB := Lib.hid hb; clear hS hrow hnil hb))
  go_ret
  obtain ⟨e1, e2⟩ := HF.out ss HSS.out
  have hrow := HR.out
  rw [e1, e2] at hrow
  exact ⟨v, rfl, owns_base hrow (by simp), ((Below.refl _ w).alloc (Nat.le_refl _) _).trans (HB.out.mono (by simp))⟩
end Go.Proofs.YtckpffkofeoinaaDoor
