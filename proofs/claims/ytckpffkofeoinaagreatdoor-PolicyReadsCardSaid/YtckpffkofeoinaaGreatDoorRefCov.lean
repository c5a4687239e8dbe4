/- The document's Covers. -/
import Derived.Test.YtckpffkofeoinaaGreatDoorRefRead
import Derived.Test.YtckpffkofeoinaaGreatDoorMid
namespace Go.Proofs.YtckpffkofeoinaaGreatDoor
open Go.RowKit Go.Proofs.YtckpffkofeoinaaGreatDoor.Lr

def rcovPre (U : List (List Bool)) (a b : Nat) : Bool := (a != b) && bit U a b
def rcovOk (U : List (List Bool)) (a b c : Nat) : Bool := (c == a) || ((c == b) || (!bit U a c || !bit U c b))
def rcovTo (U : List (List Bool)) (a b c : Nat) : Bool := rcovPre U a b && (List.range c).all (rcovOk U a b)
def rcovB (U : List (List Bool)) (n a b : Nat) : Bool := rcovTo U a b n
def rcoverRow (U : List (List Bool)) (n a k : Nat) : List (Nat × Nat) := ((List.range k).filter fun b => rcovB U n a b).map fun b => (a, b)
def rcoverTo (U : List (List Bool)) (n k : Nat) : List (Nat × Nat) := (List.range k).flatMap fun a => rcoverRow U n a n
def rcovers (U : List (List Bool)) (n : Nat) : List (Nat × Nat) := rcoverTo U n n

theorem rcovTo_succ (U : List (List Bool)) (a b c : Nat) : rcovTo U a b (c + 1) = (rcovTo U a b c && rcovOk U a b c) := by
  unfold rcovTo
  rw [List.range_succ, List.all_append, Bool.and_assoc]
  simp
theorem rcovTo_false {U : List (List Bool)} {a b c n : Nat} (h : c ≤ n) (h0 : rcovTo U a b c = false) : rcovTo U a b n = false := by
  induction n with
  | zero => obtain rfl : c = 0 := by omega
            exact h0
  | succ n ih =>
    by_cases e : c = n + 1
    · subst e; exact h0
    · rw [rcovTo_succ, ih (by omega)]; rfl

theorem rcoverRow_len (U : List (List Bool)) (n a k : Nat) : (rcoverRow U n a k).length ≤ k := by
  simp only [rcoverRow, List.length_map]
  have := List.length_filter_le (fun b => rcovB U n a b) (List.range k)
  simpa using this
theorem rcoverTo_len (U : List (List Bool)) (n : Nat) : ∀ k, (rcoverTo U n k).length ≤ k * n
  | 0 => by simp [rcoverTo]
  | k + 1 => by
    have h1 := rcoverTo_len U n k
    have h2 := rcoverRow_len U n k n
    unfold rcoverTo at h1 ⊢
    rw [List.range_succ, List.flatMap_append, List.length_append, Nat.add_mul, Nat.one_mul]
    simp only [List.flatMap_cons, List.flatMap_nil, List.append_nil]
    omega

theorem below_bit {names : List ByteArray} {U : List (List Bool)} (hl : U.length = names.length) (hw : ∀ i, i < names.length → (U.getD i []).length = names.length) {a b : Nat} (ha : a < names.length) (hb : b < names.length) : runnelref2_Lattice_Below.f names U (a : Int) (b : Int) = some (bit U a b) := by
  have h1 := hw a ha
  have e : rd_L1 U (a : Int) = U.getD a [] := by simp [rd_L1]
  unfold runnelref2_Lattice_Below.f
  rw [e, if_pos (by omega), if_pos (by omega), if_pos (by omega), if_pos (by omega), if_pos (by omega), if_pos (by omega), if_pos (by omega), if_pos (by omega)]
  simp [bit, YtckpffkofeoinaaGreatDoorW.PrintWords.rdOf]

/-- How Covers stands. -/
structure CovSt (q g : Nat) (r : Nat → Nat) (A : Option Addr) (cn cap : Nat) (names : List ByteArray) (U : List (List Bool)) (w0 w : World) (v : Value) (l : List (Nat × Nat)) : Prop where
  lat : RLat q g r A cn cap names U w
  own : w.ownsRow w0.heap.size 82 2 v l.length (pairsV l)
  below : Below w0.heap.size w0 w

theorem CovSt.step {q g : Nat} {r : Nat → Nat} {A : Option Addr} {cn cap : Nat} {names : List ByteArray} {U : List (List Bool)} {w0 w w' : World} {v : Value} {l : List (Nat × Nat)} (h : CovSt q g r A cn cap names U w0 w v l) (hb : Below w.heap.size w w') : CovSt q g r A cn cap names U w0 w' v l :=
  ⟨h.lat.below hb, owns_below h.own hb, h.below.trans (hb.mono h.below.size)⟩

set_option maxRecDepth 100000 in
set_option maxHeartbeats 4000000 in
theorem rcovers_any {q g : Nat} {r : Nat → Nat} {A : Option Addr} {cn cap : Nat} {names : List ByteArray} {U : List (List Bool)} {w : World} (h : RLat q g r A cn cap names U w) :
    Calls Tryz.prog 34 #[.pointer (some ⟨q, 0, none⟩)] w fun e w' => ∃ v', e = .returned v' ∧ Hid (w'.ownsRow w.heap.size 82 2 v' (rcovers U names.length).length (pairsV (rcovers U names.length))) ∧ Below w.heap.size w w' := by
  have hle := h.2.2
  have hBL : Hid (∀ a b : Nat, a < names.length → b < names.length → runnelref2_Lattice_Below.f names U (a : Int) (b : Int) = some (bit U a b)) := fun a b ha hb => below_bit h.1.len h.1.wide ha hb
  have HS0 : Hid (CovSt q g r A cn cap names U w w (.slice none 0 0) (rcoverTo U names.length 0)) := ⟨h, World.ownsRow_nil _ _ _ _, Below.refl _ _⟩
  have HL0 := Lib.hid h
  clear h
  obtain ⟨i3, hi3, hz30, hz31, hz32⟩ := info_parts info_pair
  go_enter Tryz.func34, Tryz.ntmps34
  go_wp2_with fail
  go_loopw [3, 4] (fun v i wr => ∃ (a : Nat), a ≤ names.length ∧ i = .int .i64 a ∧ Hid (CovSt q g r A cn cap names U w wr v (rcoverTo U names.length a))) (fun _ i _ => names.length - (intOf i).toNat)
  case atStart => exact ⟨0, Nat.zero_le _, rfl, HS0⟩
  case round =>
    clear HS0
    obtain ⟨a, hka, rfl, HS⟩ := hrel
    have c0 := HS.out.lat.1.cell0
    by_cases hla : a < names.length
    · have a1 : (a : Int) < (names.length : Int) := by omega
      go_wp2_with fail
      clear c0 a1
      obtain ⟨wo, rfl⟩ : ∃ wo : World, wo = wr := ⟨_, rfl⟩
      obtain ⟨vo, rfl⟩ : ∃ vo : Value, vo = u3 := ⟨_, rfl⟩
      go_loopw [3, 5] (fun v i wr => ∃ (b : Nat), b ≤ names.length ∧ i = .int .i64 b ∧ Hid (CovSt q g r A cn cap names U w wr v (rcoverTo U names.length a ++ rcoverRow U names.length a b))) (fun _ i _ => names.length - (intOf i).toNat)
      case atStart => exact ⟨0, Nat.zero_le _, rfl, by simpa [rcoverRow] using HS⟩
      case round =>
        clear HS
        obtain ⟨b, hkb, rfl, HS⟩ := hrel
        have c0 := HS.out.lat.1.cell0
        by_cases hlb : b < names.length
        · have b1 : (b : Int) < (names.length : Int) := by omega
          have i0 : (0 : Int) ≤ (a : Int) := Int.natCast_nonneg _
          have i1 : (0 : Int) ≤ (b : Int) := Int.natCast_nonneg _
          have HAB := Lib.hid (hBL.out a b hla hlb)
          go_upto_region 8 with fail
          clear c0 b1
          go_cut [6] (fun v6 wx => v6 = .bool (rcovTo U a b 0) ∧ Hid (CovSt q g r A cn cap names U w wx u3 (rcoverTo U names.length a ++ rcoverRow U names.length a b)))
          case first =>
            by_cases hab : a = b
            · have hb0 : ((a : Int) != (b : Int)) = false := by simp [hab]
              have hr : rcovTo U a b 0 = false := by simp [rcovTo, rcovPre, hab]
              clear hab HAB
              go_wp2
              go_meet
              case rel => exact ⟨by rw [hr], HS⟩
            · have hb0 : ((a : Int) != (b : Int)) = true := by simp; omega
              have hr : rcovTo U a b 0 = bit U a b := by simp [rcovTo, rcovPre, hab]
              clear hab
              go_wp2_with (go_at_call 26; refine (rbelow_any HS.out.lat (a : Int) (b : Int) HAB.out).mono ?_; rintro e wA ⟨rfl, hbA⟩; have HS2 := Lib.hid (HS.out.step hbA); clear hbA)
              go_meet
              case rel => exact ⟨by rw [hr], HS2⟩
          case rest =>
            clear HS HAB
            obtain ⟨rfl, HS⟩ := hcut
            go_wp2_with fail
            go_loopw [6, 7] (fun v6 v7 wr => ∃ (c : Nat), c ≤ names.length ∧ v7 = .int .i64 c ∧ v6 = .bool (rcovTo U a b c) ∧ Hid (CovSt q g r A cn cap names U w wr u3 (rcoverTo U names.length a ++ rcoverRow U names.length a b))) (fun _ i _ => names.length - (intOf i).toNat)
            case atStart => exact ⟨0, Nat.zero_le _, rfl, rfl, HS⟩
            case round =>
              clear HS
              obtain ⟨c, hkc, rfl, rfl, HS⟩ := hrel
              have c0 := HS.out.lat.1.cell0
              have HSUC := Lib.hid (rcovTo_succ U a b c)
              by_cases hlc : c < names.length
              · have c1 : (c : Int) < (names.length : Int) := by omega
                cases hnx : rcovTo U a b c with
                | false =>
                  have hfin : rcovB U names.length a b = false := rcovTo_false hkc hnx
                  have HN : Hid (CovSt q g r A cn cap names U w wr u3 (rcoverTo U names.length a ++ rcoverRow U names.length a (b + 1))) := by
                    have e : rcoverRow U names.length a (b + 1) = rcoverRow U names.length a b := by simp [rcoverRow, List.range_succ, List.filter_append, hfin]
                    rw [e]; exact HS.out
                  clear hfin hnx HSUC HS
                  go_wp2_with fail
                  go_roundw
                  case rel => exact ⟨b + 1, by omega, by go_num, HN⟩
                  case measure => simp [intOf]; omega
                | true =>
                  have j0 : (0 : Int) ≤ (c : Int) := Int.natCast_nonneg _
                  have HAC := Lib.hid (hBL.out a c hla hlc)
                  have HCB := Lib.hid (hBL.out c b hlc hlb)
                  have hstep : rcovTo U a b (c + 1) = rcovOk U a b c := by rw [HSUC.out, hnx]; rfl
                  clear HSUC hnx
                  by_cases hca : c = a
                  · have q1 : ((c : Int) == (a : Int)) = true := by simp [hca]
                    have hr : rcovTo U a b (c + 1) = true := by rw [hstep]; simp [rcovOk, hca]
                    have HS3 := HS
                    clear hca hstep HAC HCB HS
                    go_wp2_with fail
                    go_roundw
                    case rel => exact ⟨c + 1, by omega, by go_num, by rw [hr], HS3⟩
                    case measure => simp [intOf]; omega
                  · have q1 : ((c : Int) == (a : Int)) = false := by simp; omega
                    by_cases hcb : c = b
                    · have q2 : ((c : Int) == (b : Int)) = true := by simp [hcb]
                      have hr : rcovTo U a b (c + 1) = true := by rw [hstep]; simp [rcovOk, hcb]
                      have HS3 := HS
                      clear hca hcb hstep HAC HCB HS
                      go_wp2_with fail
                      go_roundw
                      case rel => exact ⟨c + 1, by omega, by go_num, by rw [hr], HS3⟩
                      case measure => simp [intOf]; omega
                    · have q2 : ((c : Int) == (b : Int)) = false := by simp; omega
                      have hst2 : rcovTo U a b (c + 1) = (!bit U a c || !bit U c b) := by
                        have e1 : (c == a) = false := by simpa using hca
                        have e2 : (c == b) = false := by simpa using hcb
                        rw [hstep, rcovOk, e1, e2]; rfl
                      clear hca hcb hstep
                      cases hac : bit U a c with
                      | false =>
                        have hr : rcovTo U a b (c + 1) = true := by rw [hst2, hac]; rfl
                        rw [hac] at HAC
                        clear hac hst2 HCB
                        go_wp2_with (go_at_call 26; refine (rbelow_any HS.out.lat (a : Int) (c : Int) HAC.out).mono ?_; rintro e wA ⟨rfl, hbA⟩; have HS3 := Lib.hid (HS.out.step hbA); clear hbA)
                        go_roundw
                        case rel => exact ⟨c + 1, by omega, by go_num, by rw [hr], HS3⟩
                        case measure => simp [intOf]; omega
                      | true =>
                        have hr : rcovTo U a b (c + 1) = !bit U c b := by rw [hst2, hac]; rfl
                        rw [hac] at HAC
                        clear hac hst2
                        go_wp2_with (first | (go_at_call 26; refine (rbelow_any HS.out.lat (a : Int) (c : Int) HAC.out).mono ?_; rintro e wA ⟨rfl, hbA⟩; have HS2 := Lib.hid (HS.out.step hbA); clear hbA HAC) | (go_at_call 26; refine (rbelow_any HS2.out.lat (c : Int) (b : Int) HCB.out).mono ?_; rintro e wB ⟨rfl, hbB⟩; have HS3 := Lib.hid (HS2.out.step hbB); clear hbB HCB))
                        go_roundw
                        case rel => exact ⟨c + 1, by omega, by go_num, by rw [hr], HS3⟩
                        case measure => simp [intOf]; omega
              · have c1 : decide ((c : Int) < (names.length : Int)) = false := decide_eq_false (by omega)
                have hcn : c = names.length := by omega
                cases hnx : rcovTo U a b c with
                | false =>
                  have hfin : rcovB U names.length a b = false := rcovTo_false hkc hnx
                  have HN : Hid (CovSt q g r A cn cap names U w wr u3 (rcoverTo U names.length a ++ rcoverRow U names.length a (b + 1))) := by
                    have e : rcoverRow U names.length a (b + 1) = rcoverRow U names.length a b := by simp [rcoverRow, List.range_succ, List.filter_append, hfin]
                    rw [e]; exact HS.out
                  clear hfin hnx HSUC HS
                  go_wp2_with fail
                  go_roundw
                  case rel => exact ⟨b + 1, by omega, by go_num, HN⟩
                  case measure => simp [intOf]; omega
                | true =>
                  have hfin : rcovB U names.length a b = true := by rw [rcovB, ← hcn]; exact hnx
                  have e : rcoverRow U names.length a (b + 1) = rcoverRow U names.length a b ++ [(a, b)] := by simp [rcoverRow, List.range_succ, List.filter_append, hfin]
                  have HE := Lib.hid e
                  have hl1 := rcoverTo_len U names.length a
                  have hl2 := rcoverRow_len U names.length a b
                  have hl3 : a * names.length ≤ 16 * 16 := Nat.mul_le_mul (by omega) hle
                  have hsz := HS.out.below.size
                  clear e hfin hnx HSUC hcn
                  go_wp2_with (at_builtin; refine wpList_append_lies _ rfl _ _ _ rfl w.heap.size 82 i3 _ 2 16 Tryz.underlying80 hi3 hz30 hz31 hz32 rfl (by omega) u3 _ _ rfl (HS.out.own.alloc _) ⟨wr.heap.size, 0, none⟩ 1 1 [.int .i64 (a : Int), .int .i64 (b : Int)] rfl rfl (World.news_of_block (cs := #[.int .i64 (a : Int), .int .i64 (b : Int)]) (t := 82) (fr := (0, 0)) (heap_alloc_new wr _)) (by simp [Value.oneCell']) (by omega) (by simp only [List.length_append]; unfold maxLen; omega) (by simp only [List.length_append]; omega) (by simp; omega) (wr.heap.size + 1) (by simp) ?_; intro gg cap2 w3 hown1 hgrow hat hltg; have HOW := Lib.hid hown1; have HGR := Lib.hid hgrow; clear hown1 hgrow hat hltg)
                  have HX : Hid (CovSt q g r A cn cap names U w w3 (.slice (some ⟨gg, 0, none⟩) ((rcoverTo U names.length a).length + (rcoverRow U names.length a b).length + 1) cap2) (rcoverTo U names.length a ++ rcoverRow U names.length a (b + 1))) := by
                    obtain ⟨s1, s2, s3⟩ := HS.out
                    have hb3 : Below w.heap.size w w3 := (s3.alloc hsz _).grown HGR.out (by simp; omega) (fun p hp => (s2.lt p hp).1)
                    have h := HOW.out
                    rw [List.length_append] at h
                    refine ⟨HL0.out.below hb3, ?_, hb3⟩
                    rw [HE.out, ← List.append_assoc]
                    rw [show pairsV (rcoverTo U names.length a ++ rcoverRow U names.length a b ++ [(a, b)]) = pairsV (rcoverTo U names.length a ++ rcoverRow U names.length a b) ++ [.int .i64 (a : Int), .int .i64 (b : Int)] by simp [pairsV]]
                    rw [show (rcoverTo U names.length a ++ rcoverRow U names.length a b ++ [(a, b)]).length = (rcoverTo U names.length a).length + (rcoverRow U names.length a b).length + 1 from by rw [List.length_append, List.length_append]; rfl]
                    exact h
                  go_roundw
                  case rel => exact ⟨b + 1, by omega, by go_num, HX⟩
                  case measure => simp [intOf]; omega
        · have b1 : decide ((b : Int) < (names.length : Int)) = false := decide_eq_false (by omega)
          have HX : Hid (CovSt q g r A cn cap names U w wr u3 (rcoverTo U names.length (a + 1))) := by
            have e : rcoverTo U names.length (a + 1) = rcoverTo U names.length a ++ rcoverRow U names.length a names.length := by simp [rcoverTo, List.range_succ]
            have e2 : b = names.length := by omega
            have := HS.out
            rw [e2] at this
            rw [e]; exact this
          go_wp2_with fail
          go_roundw
          case rel => exact ⟨a + 1, by omega, by go_num, HX⟩
          case measure => simp [intOf]; omega
    · have a1 : decide ((a : Int) < (names.length : Int)) = false := decide_eq_false (by omega)
      have HX : Hid (CovSt q g r A cn cap names U w wr u3 (rcovers U names.length)) := by
        have e2 : a = names.length := by omega
        have := HS.out
        rwa [e2] at this
      go_wp2_with fail
      go_ret
      exact ⟨_, rfl, HX.out.own, HX.out.below⟩
end Go.Proofs.YtckpffkofeoinaaGreatDoor
