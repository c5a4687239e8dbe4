/- The closure of Print: a line is written behind what the builder holds. -/
import Derived.Test.YtckpffkofeoinaaDoorBuild
import Derived.Test.YtckpffkofeoinaaDoorLat
import Derived.Lib.BufferKept
namespace Go.Proofs.YtckpffkofeoinaaDoor
open Go.RowKit

theorem ownsF_below {w w' : World} {base e size n : Nat} {v : Value} {xs : List Value} (h : w.ownsRowF base e size v n xs) (hb : Below w.heap.size w w') : w'.ownsRowF base e size v n xs := by
  obtain ⟨h0, h | ⟨g, cap, cur, fz, rfl, hg, hh, r⟩⟩ := h
  · exact ⟨h0, .inl h⟩
  · exact ⟨h0, .inr ⟨g, cap, cur, fz, rfl, hg, by rw [hb.block g (lt_of_block hh)]; exact hh, r⟩⟩

theorem BAt.below {B b : Nat} {p : Value} {bs : List Value} {w w' : World} (h : BAt B b p bs w) (hb : Below w.heap.size w w') : BAt B b p bs w' := by
  obtain ⟨hB, v, h1, h2, h3⟩ := h
  exact ⟨hB, v, by rw [hb.block b (lt_of_block h1)]; exact h1, ownsF_below h2 hb, h3⟩
theorem IsB.below {B b : Nat} {bs : List Value} {w w' : World} (h : IsB B b bs w) (hb : Below w.heap.size w w') : IsB B b bs w' :=
  h.elim (fun x => .inl (BAt.below x hb)) (fun x => .inr (BAt.below x hb))
theorem IsB.block {B b : Nat} {bs : List Value} {w : World} (h : IsB B b bs w) : ∃ cs, w.heap[b]? = some (.cells cs 76 (0, 0)) := by
  rcases h with ⟨_, v, h1, _⟩ | ⟨_, v, h1, _⟩
  · exact ⟨_, h1⟩
  · exact ⟨_, h1⟩

/-- A row that is none of bytes stands. -/
theorem owns_others {w w' : World} {b base e size n : Nat} {v : Value} {xs : List Value} (h : w.ownsRow base e size v n xs) (hk : Lib.OthersKept 5 (some b) w w') (he : e ≠ 5) (hb : v.ownBlock ≠ some b) : w'.ownsRow base e size v n xs := by
  obtain ⟨h0, h | ⟨g, cap, cur, rfl, hg, hh, r⟩⟩ := h
  · exact ⟨h0, .inl h⟩
  · exact ⟨h0, .inr ⟨g, cap, cur, rfl, hg, hk g _ hh (fun e => hb (by simpa [Value.ownBlock] using e)) (fun c fz e => by injection e with _ e2 _; exact he e2), r⟩⟩

/-- What a line puts behind. -/
def lineP (ws : List ByteArray) : List UInt8 := Lib.join (ws.map (·.data.toList)) [32] ++ [10]

set_option maxHeartbeats 1000000 in
set_option maxRecDepth 100000 in
theorem pline_any (B b A n : Nat) (ws : List ByteArray) (bs : List UInt8) (w : World) (h : IsB B b (Lib.byteCells bs) w) (hBw : B ≤ w.heap.size) (hn : ws.length = n)
    (hcells : ∀ (j : Nat) x, ws[j]? = some x → w.cell? ⟨A, 0 + j, none⟩ = some (.string x)) (hA : A < w.heap.size) (hlen : bs.length + (lineP ws).length ≤ 140737488355328) (hn2 : n ≤ 1000) :
    Calls Tryd.prog 27 #[.slice (some ⟨A, 0, none⟩) n n, .pointer (some ⟨b, 0, none⟩)] w fun e w' => e = .returned (.tuple #[]) ∧ IsB B b (Lib.byteCells (bs ++ lineP ws)) w' ∧ Below B w w' ∧ Lib.OthersKept 5 (some b) w w' := by
  subst hn
  have hj : (Lib.join (ws.map (·.data.toList)) [32]).length ≤ 140737488355328 := by unfold lineP at hlen; rw [List.length_append] at hlen; omega
  have HJ : Hid (Calls Tryd.prog 29 #[.slice (some ⟨A, 0, none⟩) ws.length ws.length, .string ⟨#[32]⟩] w fun e w' => e = .returned (.string ⟨(Lib.join (ws.map (·.data.toList)) [32]).toArray⟩) ∧ Below w.heap.size w w') :=
    Tryd.strings_Join A 0 ws.length ws ⟨#[32]⟩ w hcells hA (by omega) (Nat.le_refl _) hj
  have hl : lineP ws = Lib.join (ws.map (·.data.toList)) [32] ++ [10] := rfl
  have HB := Lib.hid h; have HLN := Lib.hid hlen
  clear hcells h hlen
  generalize Lib.join (ws.map (·.data.toList)) [32] = js at HJ hl hj
  have HL := Lib.hid hl; clear hl
  go_enter Tryd.func27, Tryd.ntmps27
  go_wp2_with (go_at_call 29; refine HJ.out.mono ?_; rintro e w1 ⟨rfl, hb1⟩; have HB1 := Lib.hid hb1; clear hb1)
  go_wp2_with (go_at_call 28; refine (writeString_any B b (Lib.byteCells bs) _ w1 (IsB.below HB.out HB1.out) ?_ (Nat.le_trans hBw HB1.out.size)).mono ?_)
  · have h1 := HLN.out
    rw [HL.out] at h1
    rw [Lib.byteCells_length]
    simp [ByteArray.size] at h1 ⊢
    omega
  rintro e w2 ⟨rfl, h2, hb2, hk2⟩
  have H2 := Lib.hid h2; have HB2 := Lib.hid hb2; have HK2 := Lib.hid hk2; clear h2 hb2 hk2
  go_wp2
  go_end0
  refine ⟨rfl, .inr ?_, (HB1.out.mono hBw).trans HB2.out, ((Lib.OthersKept.refl _ _ _).below HB1.out).trans HK2.out⟩
  have e : Lib.byteCells (bs ++ lineP ws) = Lib.byteCells bs ++ Lib.strCells (⟨js.toArray⟩ ++ ⟨#[10]⟩) := by
    rw [HL.out, Lib.byteCells_append, Lib.strCells_eq]
    simp
  rw [e]
  exact H2.out
end Go.Proofs.YtckpffkofeoinaaDoor
