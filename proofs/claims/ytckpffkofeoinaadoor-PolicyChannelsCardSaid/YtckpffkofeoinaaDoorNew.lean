/- levels.New. -/
import Derived.Test.YtckpffkofeoinaaDoorNewMid
namespace Go.Proofs.YtckpffkofeoinaaDoor
open Go.RowKit

theorem keep_far {w : World} {a b : Addr} {v u : Value} (h : w.cell? b = some u) (hne : a ≠ b) : (w.setCell a v).drew.cell? b = some u := (World.cell?_setCell_other _ _ _ _ hne).trans h

theorem placeI_lt (names : List ByteArray) (s : ByteArray) (h : 0 < names.length) : placeI names s < names.length := by
  have key : ∀ (l : List ByteArray) (i : Nat), Lib.idxFromS l s i < ((i + l.length : Nat) : Int) ∨ Lib.idxFromS l s i = -1 := by
    intro l
    induction l with
    | nil => intro i; right; rfl
    | cons x l ih =>
      intro i
      by_cases e : x = s
      · left
        rw [Lib.idxFromS_hit s (x :: l) 0 i (by simp) (by simpa using e) (by omega)]
        simp; omega
      · have h1 := ih (i + 1)
        have h2 : Lib.idxFromS (x :: l) s i = Lib.idxFromS l s (i + 1) := by simp [Lib.idxFromS, e]
        rw [h2]
        simp only [List.length_cons]
        rcases h1 with h1 | h1
        · left; omega
        · exact .inr h1
  have := key names 0
  unfold placeI Lib.idxOfS
  omega

def strs2 (pairs : List (ByteArray × ByteArray)) : List Value := pairs.flatMap fun q => [.string q.1, .string q.2]

theorem strs2_at (pairs : List (ByteArray × ByteArray)) {k : Nat} (h : k < pairs.length) : (strs2 pairs)[k * 2]? = some (.string pairs[k].1) ∧ (strs2 pairs)[k * 2 + 1]? = some (.string pairs[k].2) := by
  induction pairs generalizing k with
  | nil => simp at h
  | cons q l ih =>
    cases k with
    | zero => simp [strs2]
    | succ k =>
      have := ih (k := k) (by simpa using h)
      simp only [strs2, List.flatMap_cons, List.cons_append, List.nil_append] at this ⊢
      rw [show (k + 1) * 2 = k * 2 + 1 + 1 by omega]
      simpa using this

/-- The sets behind k pairs. -/
def upPto (names : List ByteArray) (pairs : List (ByteArray × ByteArray)) (k : Nat) : List Nat := (pairs.take k).foldl (addP names) (upsTo names.length names.length)

def warshTo (n : Nat) (u : List Nat) (k : Nat) : List Nat := (List.range k).foldl (wRow n) u
def rowTo (k : Nat) (u : List Nat) (a : Nat) : List Nat := (List.range a).foldl (wStep k) u
def downsTo (n : Nat) (u : List Nat) (k : Nat) : List Nat := (List.range k).foldl (dRow n u) (List.replicate n 0)
def dRowTo (u d : List Nat) (a b : Nat) : List Nat := (List.range b).foldl (dStep u a) d

def pairV (e : Int) (pv : Value) : Ending := .returned (.tuple #[pv, .int .i64 e])

/-- What New hands back: a fresh lattice, or nil. -/
def NewPost (w w' : World) (names : List ByteArray) (pairs : List (ByteArray × ByteArray)) (e : Ending) : Prop :=
  Below w.heap.size w w' ∧ ((newE names pairs = 0 ∧ ∃ p, e = pairV 0 (.pointer (some ⟨p, 0, none⟩)) ∧ w.heap.size ≤ p ∧ Lat w' p (newL names pairs)) ∨ (newE names pairs ≠ 0 ∧ e = pairV (newE names pairs) (.pointer none)))

theorem NewPost.err {w w' : World} {names : List ByteArray} {pairs : List (ByteArray × ByteArray)} {c : Int} (h : newE names pairs = c) (hc : c ≠ 0) (hB : Below w.heap.size w w') : NewPost w w' names pairs (.returned (.tuple #[.pointer none, .int .i64 c])) :=
  ⟨hB, .inr ⟨by rw [h]; exact hc, by rw [h]; rfl⟩⟩

set_option maxRecDepth 100000 in
set_option maxHeartbeats 8000000 in
theorem new_ok (A B : Option Addr) (c c2 n m : Nat) (names : List ByteArray) (pairs : List (ByteArray × ByteArray)) (w : World)
    (hn : names.length = n) (hc : n ≤ c) (hcl : c ≤ 9223372036854775807) (hr : Rd w A (names.map Value.string)) (hs : ShortS names) (hl : names.length ≤ 140737488355328)
    (hm : pairs.length = m) (hrp : Rd w B (strs2 pairs)) (hml : m ≤ 140737488355328) (hE : checkE names = 0) (hpos : 0 < n) (hle : n ≤ 16) :
    Calls Tryd.prog 23 #[.slice A n c, .slice B m c2] w fun e w' => NewPost w w' names pairs e := by
  subst hn
  subst hm
  have HR := Lib.hid hr; have HS := Lib.hid hs; have HE := Lib.hid hE; have HRP := Lib.hid hrp; clear hr hs hE hrp
  have hmk := make_sets hle
  go_enter Tryd.func23, Tryd.ntmps23
  go_wp2_with (go_at_call 44; refine (check_any _ _ _ names _ rfl hc HR.out HS.out hl hcl).mono ?_; rintro e w1 ⟨rfl, hB⟩; rw [HE.out]; have HB := Lib.hid hB; clear hB)
  go_upto_region 5 with fail
  go_cut [8] (fun s8 wx => NewStart w1 wx names s8)
  case first =>
    -- BEGIN first
    have hr1 := HR.out.below HB.out
    obtain ⟨b, o, rfl, hc0⟩ := hr1.at (j := 0) (v := .string (names[0]'hpos)) (by simp [hpos])
    have HRC : Hid (∀ (j : Nat), j < names.length → w1.cell? ⟨b, o + j, none⟩ = some (.string (names.getD j ByteArray.empty))) := by
      intro j hj
      rcases hr1 with e | ⟨b', o', e, hr⟩
      · simp at e; rw [e] at hj; simp at hj
      · injection e with e; injection e with e1 e2; subst e1; subst e2
        exact hr j _ (by rw [List.getElem?_map, List.getD_eq_getElem?_getD, List.getElem?_eq_getElem hj]; rfl)
    have hblt : b < w1.heap.size := World.block_lt_of_cell? w1 _ hc0
    clear hr1 hc0
    go_region_held3 (fun w' => Below w1.heap.size w1 w')
      (first
        | exact (Below.refl _ _).drew
        | assumption
        | exact Below.alloc (by assumption) (Below.size (B := w1.heap.size) (by assumption)) _
        | exact Below.trans (by assumption) (Below.mono (by assumption) (Below.size (B := w1.heap.size) (by assumption))))
      ((go_at_call 26; refine (Tryd.slices_Clone_string b o _ _ names _ (Nat.le_refl _) (by omega) (fun j hj => by rw [Below.cell (B := w1.heap.size) (w := w1) (by assumption) hblt]; exact HRC.out j hj)).mono ?_; rintro e w2 ⟨v', rfl, ho, hne, hb⟩; rw [List.take_length] at ho; obtain ⟨av, cv, rfl, _, _, _⟩ := owns_form ho; have HO := Lib.hid ho; clear ho hne))
    all_goals
      go_wp2_with fail
      go_meet
      have hz := hb.size
      simp at hz
      have ho := HO.out
      refine NewStart.mk (at_new (by simp)) ?_ ?_ ?_ ?_ ?_ ?_ ?_ ?_
      · first | omega | (simp; omega) | (simp; done)
      · first | omega | (simp; omega) | (simp; done)
      · first | omega | (simp; omega) | (simp; done)
      · first | omega | (simp; omega) | (simp; done)
      · repeat (first | (refine at_new ?_; first | rfl | (simp; done) | (simp; omega)) | refine at_alloc ?_ | refine at_below hb ?_)
      · repeat (first | (refine at_new ?_; first | rfl | (simp; done) | (simp; omega)) | refine at_alloc ?_ | refine at_below hb ?_)
      · first | exact owns_base (((ho.alloc _).alloc _).alloc _) (by first | exact Nat.le_refl _ | omega | (simp; omega) | (simp; done)) | exact owns_base ((ho.alloc _).alloc _) (by first | omega | (simp; omega) | (simp; done)) | exact owns_base (ho.alloc _) (by first | omega | (simp; omega) | (simp; done))
      · assumption
    -- END first
  case rest =>
    obtain ⟨p, gu, gd, vn, rfl, hp1, hgu, hgd, hne, q1, q2, q3, q4, q5⟩ := hcut
    have HM := Lib.hid (NewMid.of_start q1 q2 q3 q4 q5)
    clear q1 q2 q3 q4 q5 hmk
    go_wp2_with fail
    go_loopw [34] (fun i wr => ∃ (k : Nat), k ≤ names.length ∧ i = .int .i64 k ∧ Hid (NewMid w1 wr p gu gd vn names (upsTo names.length k) (List.replicate names.length 0))) (fun i _ => names.length - (intOf i).toNat)
    case atStart => exact ⟨0, Nat.zero_le _, rfl, HM⟩
    case round =>
      obtain ⟨k, hk, rfl, HK⟩ := hrel
      by_cases hlt : k < names.length
      · obtain ⟨mk, hmk⟩ : ∃ m, 2 ^ k = m := ⟨_, rfl⟩
        have s1 := shl_u32 (n := k) (by omega)
        have HN : Hid (∀ n, NewMid w1 ((wr.setCell ⟨gu, k, none⟩ (.int .u32 (mk : Int))).drewN n) p gu gd vn names (upsTo names.length (k + 1)) (List.replicate names.length 0)) := by
          intro n
          rw [← hmk, ← upsTo_set hlt]
          exact (HK.out.setUp hgu hne k _ (pow_lt hlt)).drewN n
        rw [hmk] at s1
        clear hmk
        obtain ⟨cc1, cc2, cr, np1, np2⟩ := HK.out.cells
        obtain ⟨cg, fg, _, _⟩ := cr k hlt
        clear cr cc2
        have nq : (⟨gu, k, none⟩ : Addr) ≠ ⟨p, 1, none⟩ := by intro e; injection e with e _ _; exact np1 e.symm
        go_wp2_with fail
        go_region
        all_goals
          go_wp2
          go_roundw
          case rel => exact ⟨k + 1, by omega, by go_num, HN.out 1⟩
          case measure => simp [intOf]; omega
      · obtain rfl : k = names.length := by omega
        have HM2 : Hid (NewMid w1 wr p gu gd vn names (upPto names pairs 0) (List.replicate names.length 0)) := HK.out
        have HB1 : Hid (Below w1.heap.size w1 wr) := HK.out.2.2.2.2.1
        clear HK HM
        go_wp2_with fail
        obtain ⟨wx, rfl⟩ : ∃ wx : World, wx = wr := ⟨_, rfl⟩
        go_loopw [48] (fun i wr => ∃ (k : Nat), k ≤ pairs.length ∧ i = .int .i64 k ∧ Hid ((pairs.take k).all (pairOk names) = true) ∧ Hid (NewMid w1 wr p gu gd vn names (upPto names pairs k) (List.replicate names.length 0))) (fun i _ => pairs.length - (intOf i).toNat)
        case atStart => exact ⟨0, Nat.zero_le _, rfl, rfl, HM2⟩
        case round =>
          obtain ⟨k, hk, rfl, HA, HK⟩ := hrel
          by_cases hlt : k < pairs.length
          · obtain ⟨a1, a2⟩ := strs2_at pairs hlt
            have hrp := (HRP.out.below HB.out).below HK.out.2.2.2.2.1
            obtain ⟨b, o, rfl, cp1⟩ := hrp.at a1
            obtain ⟨b', o', e1, cp2⟩ := hrp.at a2
            obtain ⟨rfl, rfl⟩ : b' = b ∧ o' = o := by simpa using e1.symm
            rw [← Nat.add_assoc] at cp2
            clear e1 hrp a1 a2
            have hall1 : ∀ (b : Bool), pairOk names pairs[k] = b → (pairs.take (k + 1)).all (pairOk names) = b := by
              intro b hb
              rw [List.take_succ_eq_append_getElem hlt, List.all_append, HA.out, List.all_cons, List.all_nil, hb]; simp
            have hup1 : upPto names pairs (k + 1) = addP names (upPto names pairs k) pairs[k] := by
              rw [upPto, List.take_succ_eq_append_getElem hlt, List.foldl_append]; rfl
            have hno : pairOk names pairs[k] = false → newE names pairs = 3 := by
              intro hb
              rw [newE, if_neg (by rw [HE.out]; simp), if_pos]
              rw [List.all_eq_false]; exact ⟨_, List.getElem_mem hlt, by rw [hb]; simp⟩
            have HALL := Lib.hid hall1; have HUP := Lib.hid hup1; have HNO := Lib.hid hno; clear hall1 hup1 hno
            have hq : pairs[k] = (pairs[k].1, pairs[k].2) := rfl
            generalize pairs[k].1 = s1 at *
            generalize pairs[k].2 = s2 at *
            rw [hq] at HALL HUP HNO
            clear hq
            have HL : Hid (∀ n, Lat ((wr.alloc (.cells #[.string s1, .string s2] 95)).drewN n) p ⟨names, upPto names pairs k, List.replicate names.length 0⟩) := fun n => ((HK.out.alloc _).drewN n).lat hpos hle
            have HMA : Hid (NewMid w1 (wr.alloc (.cells #[.string s1, .string s2] 95)) p gu gd vn names (upPto names pairs k) (List.replicate names.length 0)) := HK.out.alloc _
            have l1 := placeI_lt names s1 hpos; have l2 := placeI_lt names s2 hpos
            go_wp2_with fail
            by_cases h1 : placeI names s1 < 0
            · have HN3 := Lib.hid (HNO.out (by rw [pairOk, decide_eq_false (p := 0 ≤ placeI names s1) (by omega)]; rfl))
              go_quiet ((go_at_call 45; exact Calls.quiet_of_same ((place_any p ⟨names, upPto names pairs k, List.replicate names.length 0⟩ _ _ (HL.out _)).mono fun e w' h => h)))
              go_wp2
              go_ret2
              exact NewPost.err HN3.out (by decide) (HB.out.trans ((below_drewN HMA.out.2.2.2.2.1 _).mono HB.out.size))
            · by_cases h2 : placeI names s2 < 0
              · have HN3 := Lib.hid (HNO.out (by rw [pairOk, decide_eq_false (p := 0 ≤ placeI names s2) (by omega)]; simp))
                go_quiet ((go_at_call 45; exact Calls.quiet_of_same ((place_any p ⟨names, upPto names pairs k, List.replicate names.length 0⟩ _ _ (HL.out _)).mono fun e w' h => h)))
                go_wp2
                go_ret2
                exact NewPost.err HN3.out (by decide) (HB.out.trans ((below_drewN HMA.out.2.2.2.2.1 _).mono HB.out.size))
              · have hok := HALL.out true (by rw [pairOk, decide_eq_true (p := 0 ≤ placeI names s1) (by omega), decide_eq_true (p := 0 ≤ placeI names s2) (by omega)]; rfl)
                obtain ⟨ia, hia⟩ : ∃ i : Nat, placeI names s1 = (i : Int) := ⟨(placeI names s1).toNat, by omega⟩
                obtain ⟨ib, hib⟩ : ∃ i : Nat, placeI names s2 = (i : Int) := ⟨(placeI names s2).toNat, by omega⟩
                have lia : ia < names.length := by omega
                have lib : ib < names.length := by omega
                obtain ⟨cc1, cc2, cr, np1, np2⟩ := HMA.out.cells
                obtain ⟨cg, fg, _, _⟩ := cr ia lia
                have hua := HMA.out.2.2.2.2.2.1.get ia
                have HN : Hid (∀ n, NewMid w1 (((wr.alloc (.cells #[.string s1, .string s2] 95)).setCell ⟨gu, ia, none⟩ (.int .u32 (((upPto names pairs k).getD ia 0 ||| 2 ^ ib : Nat) : Int))).drewN n) p gu gd vn names (upPto names pairs (k + 1)) (List.replicate names.length 0)) := by
                  intro n
                  have e : upPto names pairs (k + 1) = (upPto names pairs k).set ia ((upPto names pairs k).getD ia 0 ||| 2 ^ ib) := by
                    rw [HUP.out, addP]; simp only [hia, hib, Int.toNat_natCast]
                  rw [e]
                  exact (HMA.out.setUp hgu hne ia _ (Bnd.or hua (pow_lt lib))).drewN n
                have s3 := shl_u32 (n := ib) (by omega)
                have b3 := (pow16 (n := ib) (by omega)).2
                have hua2 := LatD.Ok.lt hle hua
                generalize (upPto names pairs k).getD ia 0 = ua at *
                obtain ⟨mb, hmb⟩ : ∃ m, 2 ^ ib = m := ⟨_, rfl⟩
                rw [hmb] at s3 b3 HN
                clear hmb
                have s4 : bits BinOp.or IntKind.u32 (ua : Int) (mb : Int) = ((ua ||| mb : Nat) : Int) := u32_or_nat ua mb (by omega) (by omega)
                have HOK := Lib.hid hok
                have i0 : (0 : Int) ≤ (ia : Int) := Int.natCast_nonneg _
                have i1 : (ia : Int) < (names.length : Int) := by omega
                have j0 : (0 : Int) ≤ (ib : Int) := Int.natCast_nonneg _
                clear hok cr cc2 l1 l2 h1 h2 hua cp1 cp2
                go_quiet ((go_at_call 45; exact Calls.quiet_of_same ((place_any p ⟨names, upPto names pairs k, List.replicate names.length 0⟩ _ _ (HL.out _)).mono fun e w' h => h)))
                go_wp2_with fail
                go_region
                all_goals
                  go_wp2
                  go_roundw
                  case rel => exact ⟨k + 1, by omega, by go_num, HOK.out, HN.out _⟩
                  case measure => simp [intOf]; omega
          · obtain rfl : k = pairs.length := by omega
            have HAP : Hid (pairs.all (pairOk names) = true) := by have := HA.out; rwa [List.take_length] at this
            have HW0 : Hid (NewMid w1 wr p gu gd vn names (warshTo names.length (upP names pairs) 0) (List.replicate names.length 0)) := by
              have := HK.out; rw [upPto, List.take_length] at this; exact this
            clear HK HA HM2 HB1
            go_wp2_with fail
            go_loopw [79] (fun i wr => ∃ (k : Nat), k ≤ names.length ∧ i = .int .i64 k ∧ Hid (NewMid w1 wr p gu gd vn names (warshTo names.length (upP names pairs) k) (List.replicate names.length 0))) (fun i _ => names.length - (intOf i).toNat)
            case atStart => exact ⟨0, Nat.zero_le _, rfl, HW0⟩
            case round =>
              obtain ⟨k, hk, rfl, HK⟩ := hrel
              by_cases hlt : k < names.length
              · go_wp2_with fail
                obtain ⟨wy, rfl⟩ : ∃ wy : World, wy = wr := ⟨_, rfl⟩
                go_loopw [83] (fun i wr => ∃ (a : Nat), a ≤ names.length ∧ i = .int .i64 a ∧ Hid (NewMid w1 wr p gu gd vn names (rowTo k (warshTo names.length (upP names pairs) k) a) (List.replicate names.length 0))) (fun i _ => names.length - (intOf i).toNat)
                case atStart => exact ⟨0, Nat.zero_le _, rfl, HK⟩
                case round =>
                  obtain ⟨a, ha, rfl, HR2⟩ := hrel
                  by_cases hla : a < names.length
                  · obtain ⟨cc1, cc2, cr, np1, np2⟩ := HR2.out.cells
                    obtain ⟨ca, fa, _, _⟩ := cr a hla
                    obtain ⟨ck, _, _, _⟩ := cr k hlt
                    have hua := HR2.out.2.2.2.2.2.1.get a
                    have huk := HR2.out.2.2.2.2.2.1.get k
                    have hstep : rowTo k (warshTo names.length (upP names pairs) k) (a + 1) = wStep k (rowTo k (warshTo names.length (upP names pairs) k) a) a := by simp [rowTo, List.range_succ]
                    have HN : Hid (((rowTo k (warshTo names.length (upP names pairs) k) a).getD a 0).testBit k = true → ∀ n, NewMid w1 ((wr.setCell ⟨gu, a, none⟩ (.int .u32 (((rowTo k (warshTo names.length (upP names pairs) k) a).getD a 0 ||| (rowTo k (warshTo names.length (upP names pairs) k) a).getD k 0 : Nat) : Int))).drewN n) p gu gd vn names (rowTo k (warshTo names.length (upP names pairs) k) (a + 1)) (List.replicate names.length 0)) := by
                      intro hb n
                      rw [hstep, wStep, if_pos hb]
                      exact (HR2.out.setUp hgu hne a _ (Bnd.or hua huk)).drewN n
                    have HN2 : Hid (((rowTo k (warshTo names.length (upP names pairs) k) a).getD a 0).testBit k = false → NewMid w1 wr p gu gd vn names (rowTo k (warshTo names.length (upP names pairs) k) (a + 1)) (List.replicate names.length 0)) := by
                      intro hb
                      rw [hstep, wStep, if_neg (by rw [hb]; simp)]
                      exact HR2.out
                    have lua := LatD.Ok.lt hle hua
                    have luk := LatD.Ok.lt hle huk
                    clear hstep hua huk cr cc2
                    generalize (rowTo k (warshTo names.length (upP names pairs) k) a).getD a 0 = ua at *
                    generalize (rowTo k (warshTo names.length (upP names pairs) k) a).getD k 0 = uk at *
                    have s4 : bits BinOp.or IntKind.u32 (ua : Int) (uk : Int) = ((ua ||| uk : Nat) : Int) := u32_or_nat ua uk (by omega) (by omega)
                    have i0 : (0 : Int) ≤ (a : Int) := Int.natCast_nonneg _
                    have i1 : (a : Int) < (names.length : Int) := by omega
                    have j0 : (0 : Int) ≤ (k : Int) := Int.natCast_nonneg _
                    have j1 : (k : Int) < (names.length : Int) := by omega
                    cases hbit : ua.testBit k with
                    | true =>
                      have HX := Lib.hid (HN.out hbit)
                      have HBIT := Lib.hid hbit; clear hbit
                      go_wp2_with (go_at_call 46; refine (has_any _ _ _ (by omega) (by omega) (by omega)).mono ?_; rintro e w' ⟨rfl, rfl⟩; rw [Int.toNat_natCast, HBIT.out])
                      go_region
                      all_goals
                        go_wp2
                        go_roundw
                        case rel => exact ⟨a + 1, by omega, by go_num, HX.out 1⟩
                        case measure => simp [intOf]; omega
                    | false =>
                      have HX := Lib.hid (HN2.out hbit)
                      have HBIT := Lib.hid hbit; clear hbit
                      go_wp2_with (go_at_call 46; refine (has_any _ _ _ (by omega) (by omega) (by omega)).mono ?_; rintro e w' ⟨rfl, rfl⟩; rw [Int.toNat_natCast, HBIT.out])
                      go_roundw
                      case rel => exact ⟨a + 1, by omega, by go_num, HX.out⟩
                      case measure => simp [intOf]; omega
                  · obtain rfl : a = names.length := by omega
                    have HX : Hid (NewMid w1 wr p gu gd vn names (warshTo names.length (upP names pairs) (k + 1)) (List.replicate names.length 0)) := by
                      have := HR2.out
                      rw [warshTo, List.range_succ, List.foldl_append]; exact this
                    go_wp2_with fail
                    go_roundw
                    case rel => exact ⟨k + 1, by omega, by go_num, HX⟩
                    case measure => simp [intOf]; omega
              · obtain rfl : k = names.length := by omega
                have HD0 : Hid (NewMid w1 wr p gu gd vn names (warsh names.length (upP names pairs)) (downsTo names.length (warsh names.length (upP names pairs)) 0)) := HK.out
                clear HK HW0
                go_wp2_with fail
                go_loopw [114] (fun i wr => ∃ (k : Nat), k ≤ names.length ∧ i = .int .i64 k ∧ Hid (NewMid w1 wr p gu gd vn names (warsh names.length (upP names pairs)) (downsTo names.length (warsh names.length (upP names pairs)) k))) (fun i _ => names.length - (intOf i).toNat)
                case atStart => exact ⟨0, Nat.zero_le _, rfl, HD0⟩
                case round =>
                  obtain ⟨k, hk, rfl, HK⟩ := hrel
                  by_cases hlt : k < names.length
                  · go_wp2_with fail
                    obtain ⟨wz, rfl⟩ : ∃ wz : World, wz = wr := ⟨_, rfl⟩
                    go_loopw [118] (fun i wr => ∃ (a : Nat), a ≤ names.length ∧ i = .int .i64 a ∧ Hid (NewMid w1 wr p gu gd vn names (warsh names.length (upP names pairs)) (dRowTo (warsh names.length (upP names pairs)) (downsTo names.length (warsh names.length (upP names pairs)) k) k a))) (fun i _ => names.length - (intOf i).toNat)
                    case atStart => exact ⟨0, Nat.zero_le _, rfl, HK⟩
                    case round =>
                      obtain ⟨a, ha, rfl, HR2⟩ := hrel
                      by_cases hla : a < names.length
                      · obtain ⟨cc1, cc2, cr, np1, np2⟩ := HR2.out.cells
                        obtain ⟨_, _, ca, fa⟩ := cr a hla
                        obtain ⟨ck, _, _, _⟩ := cr k hlt
                        have hda := HR2.out.2.2.2.2.2.2.get a
                        have huk := HR2.out.2.2.2.2.2.1.get k
                        have hstep : dRowTo (warsh names.length (upP names pairs)) (downsTo names.length (warsh names.length (upP names pairs)) k) k (a + 1) = dStep (warsh names.length (upP names pairs)) k (dRowTo (warsh names.length (upP names pairs)) (downsTo names.length (warsh names.length (upP names pairs)) k) k a) a := by simp [dRowTo, List.range_succ]
                        generalize hDD : dRowTo (warsh names.length (upP names pairs)) (downsTo names.length (warsh names.length (upP names pairs)) k) k a = dd at *
                        have HN : Hid (((warsh names.length (upP names pairs)).getD k 0).testBit a = true → ∀ n, NewMid w1 ((wr.setCell ⟨gd, a, none⟩ (.int .u32 ((dd.getD a 0 ||| 2 ^ k : Nat) : Int))).drewN n) p gu gd vn names (warsh names.length (upP names pairs)) (dRowTo (warsh names.length (upP names pairs)) (downsTo names.length (warsh names.length (upP names pairs)) k) k (a + 1))) := by
                          intro hb n
                          rw [hstep, dStep, if_pos hb]
                          exact (HR2.out.setDown hgd hne a _ (Bnd.or hda (pow_lt hlt))).drewN n
                        have HN2 : Hid (((warsh names.length (upP names pairs)).getD k 0).testBit a = false → NewMid w1 wr p gu gd vn names (warsh names.length (upP names pairs)) (dRowTo (warsh names.length (upP names pairs)) (downsTo names.length (warsh names.length (upP names pairs)) k) k (a + 1))) := by
                          intro hb
                          rw [hstep, dStep, if_neg (by rw [hb]; simp)]
                          exact HR2.out
                        have lda := LatD.Ok.lt hle hda
                        have luk := LatD.Ok.lt hle huk
                        have s3 := shl_u32 (n := k) (by omega)
                        have b3 := (pow16 (n := k) (by omega)).2
                        clear hstep hda huk cr hDD
                        obtain ⟨mk, hmk⟩ : ∃ m, 2 ^ k = m := ⟨_, rfl⟩
                        rw [hmk] at s3 b3 HN
                        clear hmk
                        generalize dd.getD a 0 = da at *
                        generalize (warsh names.length (upP names pairs)).getD k 0 = uk at *
                        have s4 : bits BinOp.or IntKind.u32 (da : Int) (mk : Int) = ((da ||| mk : Nat) : Int) := u32_or_nat da mk (by omega) (by omega)
                        have i0 : (0 : Int) ≤ (a : Int) := Int.natCast_nonneg _
                        have i1 : (a : Int) < (names.length : Int) := by omega
                        have j0 : (0 : Int) ≤ (k : Int) := Int.natCast_nonneg _
                        have j1 : (k : Int) < (names.length : Int) := by omega
                        cases hbit : uk.testBit a with
                        | true =>
                          have HX := Lib.hid (HN.out hbit)
                          have HBIT := Lib.hid hbit; clear hbit
                          go_wp2_with (go_at_call 46; refine (has_any _ _ _ (by omega) (by omega) (by omega)).mono ?_; rintro e w' ⟨rfl, rfl⟩; rw [Int.toNat_natCast, HBIT.out])
                          go_region
                          all_goals
                            go_wp2
                            go_roundw
                            case rel => exact ⟨a + 1, by omega, by go_num, HX.out 1⟩
                            case measure => simp [intOf]; omega
                        | false =>
                          have HX := Lib.hid (HN2.out hbit)
                          have HBIT := Lib.hid hbit; clear hbit
                          go_wp2_with (go_at_call 46; refine (has_any _ _ _ (by omega) (by omega) (by omega)).mono ?_; rintro e w' ⟨rfl, rfl⟩; rw [Int.toNat_natCast, HBIT.out])
                          go_roundw
                          case rel => exact ⟨a + 1, by omega, by go_num, HX.out⟩
                          case measure => simp [intOf]; omega
                      · obtain rfl : a = names.length := by omega
                        have HX : Hid (NewMid w1 wr p gu gd vn names (warsh names.length (upP names pairs)) (downsTo names.length (warsh names.length (upP names pairs)) (k + 1))) := by
                          have := HR2.out
                          rw [downsTo, List.range_succ, List.foldl_append]; exact this
                        go_wp2_with fail
                        go_roundw
                        case rel => exact ⟨k + 1, by omega, by go_num, HX⟩
                        case measure => simp [intOf]; omega
                  · obtain rfl : k = names.length := by omega
                    have HLAT : Hid (Lat wr p (newL names pairs)) := HK.out.lat hpos hle
                    have HBW : Hid (Below w.heap.size w wr) := HB.out.trans (HK.out.2.2.2.2.1.mono HB.out.size)
                    have hpw : w.heap.size ≤ p := Nat.le_trans HB.out.size hp1
                    have hres : newE names pairs = if rightB (newL names pairs) = false then 9 else 0 := by
                      rw [newE, if_neg (by rw [HE.out]; simp), if_neg (by rw [HAP.out]; simp)]
                    have HRES := Lib.hid hres; clear hres HK HD0
                    cases hright : rightB (newL names pairs) with
                    | true =>
                      have HZ : Hid (newE names pairs = 0) := by rw [HRES.out, if_neg (by rw [hright]; simp)]; rfl
                      have HRT := Lib.hid hright; clear hright
                      go_wp2_with (go_at_call 47; refine (right_any p _ _ HLAT.out).mono ?_; rintro e w' ⟨rfl, n, rfl⟩; rw [HRT.out])
                      go_ret2
                      exact ⟨below_drewN HBW.out _, .inl ⟨HZ.out, p, rfl, hpw, HLAT.out.drewN _⟩⟩
                    | false =>
                      have HZ : Hid (newE names pairs = 9) := by rw [HRES.out, if_pos hright]; rfl
                      have HRT := Lib.hid hright; clear hright
                      go_wp2_with (go_at_call 47; refine (right_any p _ _ HLAT.out).mono ?_; rintro e w' ⟨rfl, n, rfl⟩; rw [HRT.out])
                      go_ret2
                      exact NewPost.err HZ.out (by decide) (below_drewN HBW.out _)

theorem checkE_zero {names : List ByteArray} (h : checkE names = 0) : 0 < names.length ∧ names.length ≤ 16 := by
  unfold checkE at h
  split at h
  · omega
  · omega

set_option maxRecDepth 100000 in
theorem new_any (A B : Option Addr) (c c2 n m : Nat) (names : List ByteArray) (pairs : List (ByteArray × ByteArray)) (w : World)
    (hn : names.length = n) (hc : n ≤ c) (hcl : c ≤ 9223372036854775807) (hr : Rd w A (names.map Value.string)) (hs : ShortS names) (hl : names.length ≤ 140737488355328)
    (hm : pairs.length = m) (hrp : Rd w B (strs2 pairs)) (hml : m ≤ 140737488355328) :
    Calls Tryd.prog 23 #[.slice A n c, .slice B m c2] w fun e w' => NewPost w w' names pairs e := by
  by_cases hE : checkE names = 0
  · obtain ⟨h1, h2⟩ := checkE_zero hE
    exact new_ok A B c c2 n m names pairs w hn hc hcl hr hs hl hm hrp hml hE (by omega) (by omega)
  · subst hn
    have hfin : newE names pairs = checkE names := by rw [newE, if_pos hE]
    have HF := Lib.hid hfin; clear hfin
    have HR := Lib.hid hr; have HS := Lib.hid hs; clear hr hs hrp
    have hb : (checkE names != 0) = true := by simpa using hE
    have HE := Lib.hid hE; clear hE
    obtain ⟨ce, hce⟩ : ∃ x, checkE names = x := ⟨_, rfl⟩
    rw [hce] at hb HE HF
    have HCE := Lib.hid hce; clear hce
    go_enter Tryd.func23, Tryd.ntmps23
    go_wp2_with (go_at_call 44; refine (check_any _ _ _ names _ rfl hc HR.out HS.out hl hcl).mono ?_; rintro e w1 ⟨rfl, hB⟩; rw [HCE.out]; have HB := Lib.hid hB; clear hB)
    go_ret2
    exact NewPost.err HF.out HE.out HB.out
end Go.Proofs.YtckpffkofeoinaaDoor
