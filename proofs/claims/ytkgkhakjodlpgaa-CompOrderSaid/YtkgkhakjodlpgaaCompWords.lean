/- Words for comp.Components: a row of components told by their numbers; slices.Delete of one element. -/
import Derived.Test.YtkgkhakjodlpgaaExtA
import Derived.Test.YtkgkhakjodlpgaaCa1
import Derived.Test.YtkgkhakjodlpgaaWApart
import Derived.Test.YtkgkhakjodlpgaaWKept
import Derived.Lib.Hide
namespace Go.Proofs.Ytkgkhakjodlpgaa.Ext
open Go.RowKit Go.Proofs.YtkgkhakjodlpgaaW.PrintWords Go.Proofs.Ytkgkhakjodlpgaa.Ca

/-- The value that a row holds at a place. -/
def encC (w : World) (A : Option Addr) (i : Int) : Value :=
  match A with
  | some ad => match w.cell? (ad.add i.toNat) with
    | some v => if v.oneCell' = true then v else .slice none 0 0
    | none => .slice none 0 0
  | none => .slice none 0 0
theorem encC_one (w : World) (A : Option Addr) (i : Int) : (encC w A i).oneCell' = true := by
  unfold encC
  split
  · split
    · split
      · assumption
      · rfl
    · rfl
  · rfl
theorem encC_at {w : World} {ad : Addr} {i : Int} {a : Option Addr} {n c : Nat} (h : w.cell? (ad.add i.toNat) = some (.slice a n c)) : encC w (some ad) i = .slice a n c := by
  unfold encC; simp only [h]; rfl
abbrev kO (w : World) (A : Option Addr) : Kd Int := Kd.scalar (encC w A) (encC_one w A)

theorem info_rows : (Try.prog.info? 53).map (fun i => (i.zero, i.size, i.bytes)) = some (some (.slice none 0 0), 1, 24) := by kernel_rfl

theorem delete_row {w0 W : World} {base g n c : Nat} {ok : Nat → Prop} {l : List Int} {j j2 : Int} (h : Kd.R (Kd.int .i64) 3 W base ok (.slice (some ⟨g, 0, none⟩) n c) l) (hB : Below base w0 W) (h0 : 0 ≤ j) (h1 : j < (l.length : Int)) (h2 : j2 = j + 1) :
    Calls Try.prog 74 #[.slice (some ⟨g, 0, none⟩) n c, .int .i64 j, .int .i64 j2] W fun e w1 => e = .returned (.slice (some ⟨g, 0, none⟩) (n - 1) c) ∧ Kd.R (Kd.int .i64) 3 w1 base ok (.slice (some ⟨g, 0, none⟩) (n - 1) c) (l.eraseIdx j.toNat) ∧ Below base w0 w1 ∧ W.grownBy w1 (some g) := by
  subst h2
  obtain ⟨i, rfl⟩ := Int.eq_ofNat_of_zero_le h0
  have e2 : (i : Int) + 1 = ((i + 1 : Nat) : Int) := by omega
  rw [e2]
  rcases R_form h with ⟨e, _⟩ | ⟨g', cap, cur, e, hh, h3, h4, h5, h6⟩
  · cases e
  · injection e with e1 e3 e4
    injection e1 with e1; injection e1 with e1 _ _
    subst e1; subst e3; subst e4
    have hgb : base ≤ g := Kd.R_base h g rfl
    refine (Try.slices_Delete_int g 0 c i (i + 1) l W (holds_of hh h6) h3 (by unfold maxLen at h4; omega) (by omega) (by omega)).mono ?_
    rintro e w' ⟨rfl, q, hw⟩
    have hlen : (l.take i ++ l.drop (i + 1)).length = l.length - 1 := by simp; omega
    obtain ⟨p1, p2⟩ := putCells_take (l.take i ++ l.drop (i + 1) ++ List.replicate (i + 1 - i) 0) cur (by rw [List.length_append, hlen]; simp; omega)
    have p3 := congrArg (List.take (l.take i ++ l.drop (i + 1)).length) p2
    rw [List.take_take, Nat.min_eq_left (by rw [List.length_append (bs := List.replicate _ _)]; omega), List.map_append (l₂ := List.replicate _ _), List.take_left' (by simp)] at p3
    rw [hlen] at p3
    have hT : Turned W w' g _ := turned_put (q := q) (os := #[]) (r := l.take i ++ l.drop (i + 1) ++ List.replicate (i + 1 - i) 0) hh (by rw [hw, Go.Sort.grow_empty])
    have hge : ∀ k, k < base → k ≠ g := fun k hk => by omega
    refine ⟨by rw [show l.length - (i + 1 - i) = l.length - 1 by omega], ?_, ⟨hT.os.trans hB.os, hT.tape.trans hB.tape, hT.output.trans hB.output, Nat.le_trans hB.size hT.size, fun k hk => ?_⟩, ⟨hT.os, hT.tape, hT.output, hT.size, fun k hk hne => hT.block k hk (fun e => hne (by rw [e]))⟩⟩
    · rw [List.eraseIdx_eq_take_drop_succ, Int.toNat_natCast]
      refine Kd.R_of_own (enc := Value.int .i64) ⟨by simp [encs], .inr ⟨g, c, _, by rw [hlen], hgb, hT.at_, by omega, h4, by rw [Nat.mul_one]; exact p1.trans h5, by rw [Nat.mul_one, hlen]; exact p3⟩⟩ (fun k hk => h.1 k (by simpa [Value.ownBlock] using hk))
    · by_cases hkw : k < W.heap.size
      · rw [hT.block k hkw (hge k hk)]; exact hB.block k hk
      · have : w'.heap.size = W.heap.size := by rw [hw]; simp
        rw [Array.getElem?_eq_none (by omega), ← hB.block k hk, Array.getElem?_eq_none (by omega)]

/-- The numbers told, the rows are those of the components: no two lead to one. -/
theorem out_rows {W w w' : World} {A1 : Option Addr} {c1 : Nat} {l1 : List (List Int)} {okc ok : Nat → Prop} {v : Value} {ids : List Int} (hS : Kd.S (Kd.slice 3 (Kd.int .i64)) 53 w W.heap.size okc (.slice A1 l1.length c1) l1)
    (hW : W.heap.size ≤ w.heap.size) (hb : Below w.heap.size w w') (hO : Kd.R (kO w A1) 53 w' w.heap.size ok v ids) (hn : ids.Nodup) (hi : ∀ i ∈ ids, 0 ≤ i ∧ i < (l1.length : Int)) :
    Kd.S (Kd.slice 3 (Kd.int .i64)) 53 w' W.heap.size (fun _ => True) v (ids.map (rd_L1 l1)) := by
  obtain ⟨f0, h0, inner0, ho0, hr0⟩ := hS
  have hown := Kd.own_of_R hO
  have hbase := fun k hk => Kd.R_base hO k hk
  refine ⟨fun k => ids.idxOf ((f0 k : Nat) : Int), fun _ _ => trivial, ids.map (encC w A1), ?_, by simp [Kd.tag, Kd.slice], fun j p hj => ?_⟩
  · rw [List.length_zipIdx, List.length_map]
    exact own_weaken hown hW
  · rw [List.getElem?_zipIdx, List.getElem?_map] at hj
    obtain ⟨hjl, hje⟩ : ∃ h : j < ids.length, p = (rd_L1 l1 ids[j], j) := by
      by_cases hjl : j < ids.length
      · rw [List.getElem?_eq_getElem hjl] at hj
        simp at hj
        exact ⟨hjl, hj.symm⟩
      · rw [List.getElem?_eq_none (by omega)] at hj; simp at hj
    subst hje
    obtain ⟨i0, i1⟩ := hi _ (List.getElem_mem hjl)
    obtain ⟨i, hie⟩ := Int.eq_ofNat_of_zero_le i0
    have hil : i < l1.length := by omega
    have hM := hr0.2 i (l1[i], i) (by rw [List.getElem?_zipIdx, List.getElem?_eq_getElem hil]; simp)
    have hsz : (Kd.tag f0 (Kd.slice 3 (Kd.int .i64))).sz = 1 := rfl
    rw [hsz, Nat.mul_one] at hM
    have hil2 : i < inner0.length := by have := hr0.1; rw [List.length_zipIdx, hsz] at this; omega
    rw [List.drop_eq_getElem_cons hil2] at hM
    simp only [List.take_succ_cons, List.take_zero] at hM
    have hsz2 : (Kd.tag (fun k => ids.idxOf ((f0 k : Nat) : Int)) (Kd.slice 3 (Kd.int .i64))).sz = 1 := rfl
    rw [hsz2, Nat.mul_one]
    have hdr : ((ids.map (encC w A1)).drop j).take 1 = [encC w A1 ids[j]] := by
      rw [List.drop_eq_getElem_cons (by simpa using hjl)]; simp
    rw [hdr]
    have hrd : rd_L1 l1 ids[j] = l1[i] := by
      unfold rd_L1; rw [hie, Int.toNat_natCast, List.getD_eq_getElem?_getD, List.getElem?_eq_getElem hil, Option.getD_some]
    have henc : encC w A1 ids[j] = inner0[i] := by
      obtain ⟨vv, hv, hR⟩ := hM
      injection hv with hv
      rcases ho0.2 with ⟨e, h3⟩ | ⟨g, cap, cur, e, hg, hh, h3, h4, h5, h6⟩
      · rw [List.length_zipIdx] at h3; omega
      · injection e with e1 _ _
        subst e1
        obtain ⟨A2, c2, hvs⟩ := Kd.R_slice hR
        have hcell : w.cell? (((⟨g, 0, none⟩ : Addr)).add (ids[j]).toNat) = some vv := by
          have h7 : inner0[i]? = some vv := by rw [List.getElem?_eq_getElem hil2, hv]
          rw [← h6, List.getElem?_take] at h7
          split at h7
          · rw [add_plain2, hie, Int.toNat_natCast, Nat.zero_add]
            simpa [World.cell?, hh] using h7
          · cases h7
        rw [hv]
        rw [hvs] at hcell ⊢
        exact encC_at hcell
    rw [henc, hrd]
    refine (Kd.slice 3 (Kd.int .i64)).M_mono (fun k hk => ⟨⟨trivial, ?_⟩, ?_⟩) ((Kd.slice 3 (Kd.int .i64)).M_move (w1 := w') (fun k hk => hb.block k hk.2.2.1) ((Kd.slice 3 (Kd.int .i64)).M_bound hM))
    · intro e
      have := hbase k e.symm
      have := hk.2.2.1
      omega
    · have hf : f0 k = i := hk.1.2
      show ids.idxOf ((f0 k : Nat) : Int) = j
      rw [hf, ← hie]
      exact hn.idxOf_getElem j hjl
end Go.Proofs.Ytkgkhakjodlpgaa.Ext
