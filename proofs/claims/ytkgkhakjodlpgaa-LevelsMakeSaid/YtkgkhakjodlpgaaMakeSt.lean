/- Both lattices beside one another: what each call leaves. -/
import Derived.Test.YtkgkhakjodlpgaaRefPlain4
import Derived.Test.YtkgkhakjodlpgaaSt
import Derived.Test.YtkgkhakjodlpgaaSamePairs
namespace Go.Proofs.Ytkgkhakjodlpgaa
open Go.RowKit Go.Proofs.Ytkgkhakjodlpgaa.Lr

/-- comp's lattice at p, the document's at q. -/
structure M2 (w0 : World) (p q g : Nat) (r : Nat → Nat) (A : Option Addr) (cn cap : Nat) (names : List ByteArray) (pairs : List (ByteArray × ByteArray)) (U : List (List Bool)) (w : World) : Prop where
  st : St w0 p (newL names pairs) w
  grid : Grid q g r names.length (.slice A names.length cn) cap w U
  rd : Rd w0 A (names.map Value.string)
  ok : newE names pairs = 0
  sh : Shows names pairs U

section
variable {w0 w : World} {p q g : Nat} {r : Nat → Nat} {A : Option Addr} {cn cap : Nat} {names : List ByteArray} {pairs : List (ByteArray × ByteArray)} {U : List (List Bool)}

theorem M2.le (h : M2 w0 p q g r A cn cap names pairs U w) : names.length ≤ 16 := (checkE_zero (newE_zero h.ok).1).2
theorem M2.pos (h : M2 w0 p q g r A cn cap names pairs U w) : 0 < names.length := (checkE_zero (newE_zero h.ok).1).1
theorem M2.all (h : M2 w0 p q g r A cn cap names pairs U w) : pairs.all (pairOk names) = true := (newE_zero h.ok).2.1
theorem M2.rlat (h : M2 w0 p q g r A cn cap names pairs U w) : RLat q g r A cn cap names U w := ⟨h.grid, h.rd.below h.st.below, h.le⟩
theorem M2.comp {w' : World} (h : M2 w0 p q g r A cn cap names pairs U w) (h1 : Lat w' p (newL names pairs) ∧ w.grownBy w' (some p)) : M2 w0 p q g r A cn cap names pairs U w' := by
  obtain ⟨vn, vu, vd, d, vj, vm, h0, _⟩ := h.st.1
  exact ⟨h.st.grown h1, h.grid.grown h1.2 h0 (by decide) (by decide) (by decide), h.rd, h.ok, h.sh⟩
theorem M2.later {w' : World} (h : M2 w0 p q g r A cn cap names pairs U w) (hb : Below w.heap.size w w') : M2 w0 p q g r A cn cap names pairs U w' :=
  ⟨⟨h.st.1.below hb, h.st.2.1.trans (hb.mono h.st.2.1.size), h.st.2.2⟩, h.grid.below hb, h.rd, h.ok, h.sh⟩

section
variable (h : M2 w0 p q g r A cn cap names pairs U w)
include h

theorem mc_join (a b : Int) : Calls Try.prog 17 #[.pointer (some ⟨p, 0, none⟩), .int .i64 a, .int .i64 b] w fun e w' => e = .returned (.int .i64 (joinI (newL names pairs) a b)) ∧ Hid (M2 w0 p q g r A cn cap names pairs U w') :=
  (join_any p _ a b w h.st.1).mono fun _ _ h1 => ⟨h1.1, h.comp h1.2.out⟩
theorem mc_meet (a b : Int) : Calls Try.prog 18 #[.pointer (some ⟨p, 0, none⟩), .int .i64 a, .int .i64 b] w fun e w' => e = .returned (.int .i64 (meetI (newL names pairs) a b)) ∧ Hid (M2 w0 p q g r A cn cap names pairs U w') :=
  (meet_any p _ a b w h.st.1).mono fun _ _ h1 => ⟨h1.1, h.comp h1.2.out⟩
theorem mc_below (a b : Int) : Calls Try.prog 19 #[.pointer (some ⟨p, 0, none⟩), .int .i64 a, .int .i64 b] w fun e w' => e = .returned (.bool (belowB (newL names pairs) a b)) ∧ Hid (M2 w0 p q g r A cn cap names pairs U w') :=
  (below_any p _ a b w h.st.1).mono fun _ _ h1 => ⟨h1.1, by rw [← h1.2]; exact h⟩
theorem mc_top : Calls Try.prog 20 #[.pointer (some ⟨p, 0, none⟩)] w fun e w' => e = .returned (.int .i64 (topI (newL names pairs))) ∧ Hid (M2 w0 p q g r A cn cap names pairs U w') :=
  (top_any p _ w h.st.1).mono fun _ _ h1 => ⟨h1.1, by obtain ⟨n, hn⟩ := h1.2; rw [hn]; exact h.later (below_drewN (Below.refl _ _) n)⟩
theorem mc_bottom : Calls Try.prog 21 #[.pointer (some ⟨p, 0, none⟩)] w fun e w' => e = .returned (.int .i64 (bottomI (newL names pairs))) ∧ Hid (M2 w0 p q g r A cn cap names pairs U w') :=
  (bottom_any p _ w h.st.1).mono fun _ _ h1 => ⟨h1.1, by obtain ⟨n, hn⟩ := h1.2; rw [hn]; exact h.later (below_drewN (Below.refl _ _) n)⟩
theorem mc_len : Calls Try.prog 23 #[.pointer (some ⟨p, 0, none⟩)] w fun e w' => e = .returned (.int .i64 names.length) ∧ Hid (M2 w0 p q g r A cn cap names pairs U w') :=
  (len_any p _ w h.st.1).mono fun _ _ h1 => ⟨h1.1, by rw [← h1.2]; exact h⟩
theorem mc_place (s : ByteArray) : Calls Try.prog 24 #[.pointer (some ⟨p, 0, none⟩), .string s] w fun e w' => e = .returned (.int .i64 (placeI names s)) ∧ Hid (M2 w0 p q g r A cn cap names pairs U w') :=
  (place_any p _ s w h.st.1).mono fun _ _ h1 => ⟨h1.1, by rw [h1.2]; exact h⟩
theorem mc_names : Calls Try.prog 34 #[.pointer (some ⟨p, 0, none⟩)] w fun e w' => ∃ b c, e = .returned (.slice b names.length c) ∧ Hid (M2 w0 p q g r A cn cap names pairs U w') ∧ Hid (Rd w' b (names.map Value.string)) ∧ names.length ≤ c :=
  (names_any p _ w h.st.1).mono fun _ _ ⟨v', h1, h2, h3⟩ => by
    have h2' := h2.out
    obtain ⟨b, c, rfl, h4, _⟩ := owns_form h2'
    exact ⟨b, c, h1, h.later h3, Rd.of_owns h2', h4⟩
theorem mc_covers : Calls Try.prog 25 #[.pointer (some ⟨p, 0, none⟩)] w fun e w' => ∃ b c, e = .returned (.slice b (covers (newL names pairs)).length c) ∧ Hid (M2 w0 p q g r A cn cap names pairs U w') ∧ Hid (Rd w' b (pairsV (covers (newL names pairs)))) :=
  (covers_any p _ w h.st.1).mono fun _ _ ⟨v', h1, h2, h3⟩ => by
    have h2' := h2.out
    obtain ⟨b, c, rfl, h4, _⟩ := owns_form h2'
    exact ⟨b, c, h1, h.later h3, Rd.of_owns h2'⟩

theorem mr_join (a b : Int) : Calls Try.prog 31 #[.pointer (some ⟨q, 0, none⟩), .int .i64 a, .int .i64 b] w fun e w' => e = .returned (.int .i64 (joinI (newL names pairs) a b)) ∧ Hid (M2 w0 p q g r A cn cap names pairs U w') := by
  obtain ⟨k, hk⟩ := h.sh.join_ev h.le h.pos h.all a b
  exact (rjoin_any h.rlat a b hk).mono fun _ _ h1 => ⟨h1.1, h.later h1.2⟩
theorem mr_meet (a b : Int) : Calls Try.prog 32 #[.pointer (some ⟨q, 0, none⟩), .int .i64 a, .int .i64 b] w fun e w' => e = .returned (.int .i64 (meetI (newL names pairs) a b)) ∧ Hid (M2 w0 p q g r A cn cap names pairs U w') := by
  obtain ⟨k, hk⟩ := h.sh.meet_ev h.le h.pos h.all a b
  exact (rmeet_any h.rlat a b hk).mono fun _ _ h1 => ⟨h1.1, h.later h1.2⟩
theorem mr_below (a b : Int) : Calls Try.prog 30 #[.pointer (some ⟨q, 0, none⟩), .int .i64 a, .int .i64 b] w fun e w' => e = .returned (.bool (belowB (newL names pairs) a b)) ∧ Hid (M2 w0 p q g r A cn cap names pairs U w') :=
  (rbelow_any h.rlat a b (h.sh.below_ev a b)).mono fun _ _ h1 => ⟨h1.1, h.later h1.2⟩
theorem mr_top : Calls Try.prog 37 #[.pointer (some ⟨q, 0, none⟩)] w fun e w' => e = .returned (.int .i64 (topI (newL names pairs))) ∧ Hid (M2 w0 p q g r A cn cap names pairs U w') := by
  obtain ⟨k, hk⟩ := h.sh.top_ev h.ok
  exact (rtop_any h.rlat hk).mono fun _ _ h1 => ⟨h1.1, h.later h1.2⟩
theorem mr_bottom : Calls Try.prog 36 #[.pointer (some ⟨q, 0, none⟩)] w fun e w' => e = .returned (.int .i64 (bottomI (newL names pairs))) ∧ Hid (M2 w0 p q g r A cn cap names pairs U w') := by
  obtain ⟨k, hk⟩ := h.sh.bottom_ev h.ok
  exact (rbottom_any h.rlat hk).mono fun _ _ h1 => ⟨h1.1, h.later h1.2⟩
theorem mr_place (s : ByteArray) : Calls Try.prog 35 #[.pointer (some ⟨q, 0, none⟩), .string s] w fun e w' => e = .returned (.int .i64 (placeI names s)) ∧ Hid (M2 w0 p q g r A cn cap names pairs U w') := by
  obtain ⟨k, hk⟩ := place_ev h.le U s
  exact (rplace_any h.rlat s hk).mono fun _ _ h1 => ⟨h1.1, h.later h1.2⟩
theorem mr_covers {b : Option Addr} (hr : Rd w b (pairsV (covers (newL names pairs)))) : Calls Try.prog 38 #[.pointer (some ⟨q, 0, none⟩)] w fun e w' => ∃ b2 c, e = .returned (.slice b2 (covers (newL names pairs)).length c) ∧ Hid (M2 w0 p q g r A cn cap names pairs U w') ∧ Hid (Rd w' b (pairsV (covers (newL names pairs)))) ∧ Hid (Rd w' b2 (pairsV (covers (newL names pairs)))) :=
  (rcovers_any h.rlat).mono fun _ _ ⟨v', h1, h2, h3⟩ => by
    have h2' := h2.out
    rw [h.sh.covers h.ok] at h2'
    obtain ⟨b2, c, rfl, h4, _⟩ := owns_form h2'
    exact ⟨b2, c, h1, h.later h3, hr.below h3, Rd.of_owns h2'⟩
end

theorem rname_any (s : ByteArray) (w : World) (hs : s.size ≤ 140737488351232) : Calls Try.prog 29 #[.string s] w fun e w' => e = .returned (.bool (nameOk s.data.toList)) ∧ Below w.heap.size w w' := by
  obtain ⟨k, hk⟩ := Name_ev (s := s) (by omega)
  exact (runnelref2_Name.calls k s _ w hk).mono fun _ _ h1 => ⟨h1.1, h1.2.below⟩

theorem texts_self (l : List ByteArray) (hl : l.length ≤ 16) : ∃ k, runnellaw2_sameTexts.f k l l = some true := by
  have key : ∀ d i : Nat, i + d = l.length → runnellaw2_sameTexts.l0 (d + 1) l l (i : Int) = some true := by
    intro d
    induction d with
    | zero =>
      intro i h
      simp only [runnellaw2_sameTexts.l0]
      rw [if_neg (by omega)]
    | succ d ih =>
      intro i h
      have ih' := ih (i + 1) (by omega)
      generalize d + 1 = k at ih' ⊢
      simp only [runnellaw2_sameTexts.l0]
      rw [if_pos (by omega), if_pos (by omega), if_pos (by omega), if_pos trivial, wrap1 (by omega)]
      exact ih'
  refine ⟨l.length + 1, ?_⟩
  unfold runnellaw2_sameTexts.f
  rw [if_pos rfl]
  exact key l.length 0 (by omega)

theorem texts_any (A B : Option Addr) (c c2 : Nat) (l : List ByteArray) (w : World) (hc : l.length ≤ c) (hc2 : l.length ≤ c2) (hr : Rd w A (l.map Value.string)) (hr2 : Rd w B (l.map Value.string)) (hl : l.length ≤ 16) :
    Calls Try.prog 33 #[.slice A l.length c, .slice B l.length c2] w fun e w' => e = .returned (.bool true) ∧ Below w.heap.size w w' := by
  obtain ⟨k, hk⟩ := texts_self l hl
  exact (runnellaw2_sameTexts.calls k A c l B c2 l true w (strC hr (by omega)) hc (strC hr2 (by omega)) hc2 hk).mono fun _ _ h1 => ⟨h1.1, h1.2.below⟩
end
end Go.Proofs.Ytkgkhakjodlpgaa
