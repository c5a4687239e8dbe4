/- The map of channels as it lies; Level, May, Lattice. -/
import Derived.Test.YtckpffkofeoinaaDoorIdent2
import Derived.Test.YtckpffkofeoinaaDoorWords
import Derived.Maps.OwnSet
import Derived.Maps.OwnOps
namespace Go.Proofs.YtckpffkofeoinaaDoor
open Go.RowKit Go.Maps

theorem klaw : Keyed Tryd.prog 9 := string_keyed Tryd.underlying9
theorem zeroI (w : World) : (zeroValue 3).run Tryd.prog w = .ok (.int .i64 0) w := by kernel_rfl

noncomputable abbrev elemI : Value → Option (DataW Unit × List MemPlace) := plainElem Tryd.prog 3
def keyL (c : ByteArray) : Lit := .string c.data.toList

theorem keyL_ne {c d : ByteArray} (h : c ≠ d) : keyL c ≠ keyL d := fun e => by
  apply h
  have e2 : c.data.toList = d.data.toList := by injection e
  have e3 : c.data = d.data := Array.toList_inj.1 e2
  cases c; cases d; simp at e3; subst e3; rfl

theorem keyL_of {c : ByteArray} (h : c.size ≤ maxLen) : keyOf Tryd.prog 9 (.string c) = some (keyL c) := Go.WideMaps.keyOf_string_mk Tryd.underlying9 h
theorem keyL_isKey (c : ByteArray) : WideAt.IsKeyLit (keyL c) := by unfold keyL; first | trivial | exact True.intro | simp [WideAt.IsKeyLit]

/-- Block b is the map that tells what 'l' tells. -/
def OfIs (w : World) (b : Nat) (l : List (ByteArray × Nat)) : Prop :=
  ∃ D : DataW Unit, w.ownsMap Tryd.prog 9 elemI b l.length D ∧ ∀ c, has D (keyL c) = (ofAt l c).isSome ∧ D.atKey (keyL c) (.lit (.int .i64 0)) = .lit (.int .i64 ((ofAt l c).getD 0 : Nat))

theorem OfIs.made (w : World) : OfIs (w.alloc (.map #[] 0)) w.heap.size [] := ⟨_, World.ownsMap_made _ _ _ _, fun _ => ⟨rfl, rfl⟩⟩

theorem OfIs.put {w : World} {b : Nat} {l : List (ByteArray × Nat)} {D : DataW Unit} (h : ∀ c, has D (keyL c) = (ofAt l c).isSome ∧ D.atKey (keyL c) (.lit (.int .i64 0)) = .lit (.int .i64 ((ofAt l c).getD 0 : Nat))) (hD : IsMap D)
    {x : ByteArray} {n : Nat} (ho : w.ownsMap Tryd.prog 9 elemI b (l.length + 1) (D.put (keyL x) (.lit (.int .i64 (n : Int))))) : OfIs w b ((x, n) :: l) := by
  refine ⟨_, ho, fun c => ?_⟩
  by_cases e : x = c
  · subst e
    rw [has_put_same hD (keyL_isKey x), atKey_put_same hD (keyL_isKey x)]
    simp [ofAt]
  · have e2 : keyL c ≠ keyL x := keyL_ne (Ne.symm e)
    rw [has_put_other e2, atKey_put_other e2]
    simp only [ofAt, e, if_false]
    exact h c

theorem OfIs.kept {w w' : World} {b : Nat} {l : List (ByteArray × Nat)} {row : Option Nat} (h : OfIs w b l) (hg : w.grownBy w' row) (hne : some b ≠ row) : OfIs w' b l := by
  obtain ⟨D, h1, h2⟩ := h
  exact ⟨D, h1.kept hg hne, h2⟩
theorem OfIs.lt {w : World} {b : Nat} {l : List (ByteArray × Nat)} (h : OfIs w b l) : b < w.heap.size := by
  obtain ⟨D, h1, _⟩ := h; exact h1.lt
theorem OfIs.below {w w' : World} {b : Nat} {l : List (ByteArray × Nat)} (h : OfIs w b l) (hb : Below w.heap.size w w') : OfIs w' b l := by
  have hlt := h.lt
  obtain ⟨D, ⟨es, clock, h1, h2⟩, h3⟩ := h
  exact ⟨D, ⟨es, clock, by rw [hb.block b hlt]; exact h1, h2⟩, h3⟩

/-- The policy r lies in block p. -/
def Pol (w : World) (p : Nat) (r : RS) : Prop :=
  ∃ l b, w.heap[p]? = some (.cells #[.pointer (some ⟨l, 0, none⟩), .map (some b)] 50 (0, 0)) ∧ Lat w l (newL r.names r.below) ∧ OfIs w b r.of ∧ ∀ q ∈ r.of, q.2 < r.names.length

theorem Pol.below {w w' : World} {p : Nat} {r : RS} (h : Pol w p r) (hb : Below w.heap.size w w') : Pol w' p r := by
  obtain ⟨l, b, h1, h2, h3, h4⟩ := h
  exact ⟨l, b, by rw [hb.block p (lt_of_block h1)]; exact h1, h2.below hb, h3.below hb, h4⟩

def levelI (r : RS) (c : ByteArray) : Int := match ofAt r.of c with | some n => (n : Int) | none => -1
def mayB (r : RS) (a b : ByteArray) : Bool := belowB (newL r.names r.below) (levelI r a) (levelI r b)

set_option maxRecDepth 100000 in
theorem level_any (p : Nat) (r : RS) (c : ByteArray) (w : World) (hc : c.size ≤ maxLen) (h : Pol w p r) :
    Calls Tryd.prog 10 #[.pointer (some ⟨p, 0, none⟩), .string c] w fun e w' => e = .returned (.int .i64 (levelI r c)) ∧ w' = w := by
  obtain ⟨l, b, h1, _, ⟨D, h3, h4⟩, _⟩ := h
  have c1 : w.cell? ⟨p, 1, none⟩ = some (.map (some b)) := by simp [World.cell?, h1]
  have hk := keyL_of hc
  obtain ⟨h5, h6⟩ := h4 c
  have HO := Lib.hid h3; have HK := Lib.hid hk; have H6 := Lib.hid h6; clear h3 h4 hk h6 h1
  cases ho : ofAt r.of c with
  | none =>
    rw [ho] at h5
    have hfin : levelI r c = -1 := by unfold levelI; rw [ho]
    rw [hfin]
    simp at h5
    have H5 := Lib.hid h5; clear h5 ho hfin
    go_enter Tryd.func10, Tryd.ntmps10
    go_wp2_with (at_lookup; refine wpList_lookup_own_ok_int _ rfl _ _ 40 rfl 9 3 .i64 klaw Tryd.underlying40 Tryd.underlying3 (zeroI _) b _ D rfl HO.out _ _ rfl HK.out ?_; intro cc hat hwc; rw [H5.out]; clear hat hwc)
    go_ret
    exact ⟨rfl, rfl⟩
  | some n =>
    rw [ho] at h5
    have hfin : levelI r c = (n : Int) := by unfold levelI; rw [ho]
    have H7 : Hid (∀ cc : Int, D.atKey (keyL c) (.lit (.int .i64 0)) = .lit (.int .i64 cc) → cc = (n : Int)) := by
      intro cc hcc
      have e := H6.out
      rw [ho] at e
      rw [e] at hcc
      injection hcc with hcc
      injection hcc with _ hcc
      exact hcc.symm
    rw [hfin]
    simp at h5
    have H5 := Lib.hid h5; clear h5 ho hfin
    go_enter Tryd.func10, Tryd.ntmps10
    go_wp2_with (at_lookup; refine wpList_lookup_own_ok_int _ rfl _ _ 40 rfl 9 3 .i64 klaw Tryd.underlying40 Tryd.underlying3 (zeroI _) b _ D rfl HO.out _ _ rfl HK.out ?_; intro cc hat hwc; rw [H5.out]; have hcc := Lib.hid (H7.out cc hat); clear hat hwc)
    go_ret
    exact ⟨ret_int hcc.out, rfl⟩

set_option maxRecDepth 100000 in
theorem lattice_any (p l : Nat) (w : World) (b : Nat) (h1 : w.heap[p]? = some (.cells #[.pointer (some ⟨l, 0, none⟩), .map (some b)] 50 (0, 0))) :
    Calls Tryd.prog 11 #[.pointer (some ⟨p, 0, none⟩)] w fun e w' => e = .returned (.pointer (some ⟨l, 0, none⟩)) ∧ w' = w := by
  have c1 : w.cell? ⟨p, 0, none⟩ = some (.pointer (some ⟨l, 0, none⟩)) := by simp [World.cell?, h1]
  clear h1
  go_enter Tryd.func11, Tryd.ntmps11
  go_wp2
  go_ret
  exact ⟨rfl, rfl⟩

set_option maxRecDepth 100000 in
theorem may_any (p : Nat) (r : RS) (x y : ByteArray) (w : World) (hx : x.size ≤ maxLen) (hy : y.size ≤ maxLen) (h : Pol w p r) :
    Calls Tryd.prog 16 #[.pointer (some ⟨p, 0, none⟩), .string x, .string y] w fun e w' => e = .returned (.bool (mayB r x y)) ∧ ∃ n, w' = w.drewN n := by
  have HP := Lib.hid h
  obtain ⟨l, b, h1, h2, h3, h4⟩ := h
  have c1 : w.cell? ⟨p, 0, none⟩ = some (.pointer (some ⟨l, 0, none⟩)) := by simp [World.cell?, h1]
  have HL : Hid (∀ (n : Nat) (i j : Int), Calls Tryd.prog 32 #[.pointer (some ⟨l, 0, none⟩), .int .i64 i, .int .i64 j] (w.drewN n) fun e w' => e = .returned (.bool (belowB (newL r.names r.below) i j)) ∧ w' = w.drewN n) := fun n i j =>
    (below_any l _ i j (w.drewN n) (h2.below (below_drewN (Below.refl _ w) n))).mono fun e w' h => ⟨h.1, h.2.symm⟩
  have HV : Hid (∀ (n : Nat) (c : ByteArray), c.size ≤ maxLen → Calls Tryd.prog 10 #[.pointer (some ⟨p, 0, none⟩), .string c] (w.drewN n) fun e w' => e = .returned (.int .i64 (levelI r c)) ∧ w' = w.drewN n) := fun n c hc =>
    level_any p r c (w.drewN n) hc (HP.out.below (below_drewN (Below.refl _ w) n))
  clear h1 h2 h3 h4
  go_enter Tryd.func16, Tryd.ntmps16
  go_wp2
  go_quiet ((first | (go_at_call 32; exact Calls.quiet_of_same (HL.out _ _ _)) | (go_at_call 10; exact Calls.quiet_of_same (HV.out _ _ (by assumption)))))
  go_wp2
  go_ret
  exact ⟨ret_bool rfl, _, rfl⟩
end Go.Proofs.YtckpffkofeoinaaDoor
