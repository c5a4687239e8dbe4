/- The closure of comp.found: its walk. -/
import Derived.Test.YtkgkhakjodlpgaaFoundSt
import Derived.Test.YtkgkhakjodlpgaaPAfter
import Derived.WalkSpells
import Derived.WalkLawsBesides
import Derived.BigQuiet
import Derived.BigRegion
import Derived.Deep.QuietTactic
import Derived.Deep.RegionWith
import Derived.Deep.LoopGhost
import Derived.Deep.CutBlock
import Derived.Deep.DeepCutAuto
import Derived.Deep.AppendLies
import Derived.OwnWalk
import Derived.WalkSmall
import Derived.KernelRfl
import Derived.Outline
namespace Go.Proofs.Ytkgkhakjodlpgaa.Ext
open Go.RowKit Go.Proofs.YtkgkhakjodlpgaaW.PrintWords Go.Proofs.Ytkgkhakjodlpgaa.Ca

def VPost (w0 : World) (A : Option Addr) (n c : Nat) (w : World) (vs vo : Value) (T' : TS) (e : Ending) (w' : World) : Prop :=
  e = .returned (.tuple #[]) ∧ ∃ vs' vo', VW w0 A n c w' T' vs' vo' ∧ StepV w0.heap.size w vs vo w' vs' vo'

def vArgs (B : Nat) (m : Int) : Array Value := #[.int .i64 m, .pointer (some ⟨B + 9, 0, none⟩), .pointer (some ⟨B + 4, 0, none⟩), .pointer (some ⟨B + 6, 0, none⟩), .pointer (some ⟨B + 2, 0, none⟩), .pointer (some ⟨B + 8, 0, none⟩), .pointer (some ⟨B, 0, none⟩), .pointer (some ⟨B + 10, 0, none⟩), .pointer (some ⟨B + 1, 0, none⟩)]

/-- What is carried along: the state, and that all else is as it was when the call began. -/
structure Car (w0 : World) (A : Option Addr) (n c : Nat) (w : World) (vs vo : Value) (w' : World) (T : TS) (vs' vo' : Value) : Prop where
  s : VW w0 A n c w' T vs' vo'
  t : StepV w0.heap.size w vs vo w' vs' vo'
theorem Car.go {w0 : World} {A : Option Addr} {n c : Nat} {w w1 w2 : World} {vs vo vs1 vo1 vs2 vo2 : Value} {T1 T2 : TS} (h : Car w0 A n c w vs vo w1 T1 vs1 vo1) (h2 : VW w0 A n c w2 T2 vs2 vo2 ∧ StepV w0.heap.size w1 vs1 vo1 w2 vs2 vo2) : Car w0 A n c w vs vo w2 T2 vs2 vo2 := ⟨h2.1, h.t.trans h2.2⟩

theorem info_row : (Try.prog.info? 53).map (fun i => (i.zero, i.size, i.bytes)) = some (some (.slice none 0 0), 1, 24) := by kernel_rfl
theorem info_int : (Try.prog.info? 3).map (fun i => (i.zero, i.size, i.bytes)) = some (some (.int .i64 0), 1, 8) := by kernel_rfl

set_option maxRecDepth 100000 in
set_option maxHeartbeats 8000000 in
theorem visit_any (nx : List (List Int)) (A : Option Addr) (c : Nat) (w0 : World) (hC : Kd.C kL w0 A nx.length nx) (hc : nx.length ≤ c) (_hN : nx.length < 1048576) (k : Nat) :
    ∀ (T T' : TS) (m : Int) (w : World) (vs vo : Value), VW w0 A nx.length c w T vs vo → visitF nx k T m = some T' → Calls Try.prog 87 (vArgs w0.heap.size m) w (VPost w0 A nx.length c w vs vo T') := by
  induction k with
  | zero => intro T T' m w vs vo _ h; cases h
  | succ k ih =>
    intro T T' m w vs vo hV h
    unfold visitF at h
    by_cases hg : 0 ≤ m ∧ m < (nx.length : Int) ∧ 0 ≤ T.count ∧ T.count < 1099511627776 ∧ T.stack.length < 1099511627776 ∧ (nx.getD m.toNat []).length < 1099511627776
    · rw [if_pos hg] at h
      obtain ⟨g1, g2, g3, g4, g5, g6⟩ := hg
      obtain ⟨m, rfl⟩ := Int.eq_ofNat_of_zero_le g1
      rw [Int.toNat_natCast] at g6
      have hm : m < nx.length := by omega
      have HH := Lib.hid h; clear h
      have HIH := Lib.hid ih; clear ih
      have HC := Lib.hid hC; clear hC
      have hz := hV.size
      have HBW := Lib.hid hV.bel
      obtain ⟨c9, f9⟩ := one_cell hV.hc
      have H1 : Hid (Car w0 A nx.length c w vs vo (w.setCell ⟨w0.heap.size + 9, 0, none⟩ (.int .i64 (T.count + 1))) { T with count := T.count + 1 } vs vo) := Car.go ⟨hV, StepV.refl _ _ _ _⟩ (hV.setCount _)
      obtain ⟨B, hB⟩ : ∃ B, w0.heap.size = B := ⟨_, rfl⟩
      rw [hB] at hz c9 f9
      have HB := Lib.hid hB
      clear hV
      rw [hB]
      rw [hB] at H1
      unfold vArgs
      clear hB
      go_enter Try.func87, Try.ntmps87
      go_upto_region 1 with fail
      obtain ⟨w1, hw1⟩ : ∃ w1, w.setCell ⟨B + 9, 0, none⟩ (.int .i64 (T.count + 1)) = w1 := ⟨_, rfl⟩
      rw [hw1] at H1
      change Code.wp _ _ _ _ (w.setCell ⟨B + 9, 0, none⟩ (.int .i64 (T.count + 1)))
      rw [hw1]
      clear hw1 c9 f9 hz
      have hs1 := H1.out.s
      have hz := hs1.size
      obtain ⟨c9, f9⟩ := one_cell hs1.hc
      obtain ⟨c4, f4⟩ := one_cell hs1.hn
      obtain ⟨c6, f6⟩ := one_cell hs1.hl
      obtain ⟨cn, fn⟩ := ints_cell hs1.dn (j := m) (by rw [hs1.ln]; exact hm)
      obtain ⟨cl, fl⟩ := ints_cell hs1.dl (j := m) (by rw [hs1.ll]; exact hm)
      have H2 : Hid (Car w0 A nx.length c w vs vo (((w1.setCell ⟨w0.heap.size + 3, m, none⟩ (.int .i64 (T.count + 1))).setCell ⟨w0.heap.size + 5, m, none⟩ (.int .i64 (T.count + 1))).drew) { T with count := T.count + 1, number := T.number.set m (T.count + 1), low := T.low.set m (T.count + 1) } vs vo) :=
        (((H1.out.go (hs1.setNumber m _)).go ((hs1.setNumber m _).1.setLow m _)).go (((hs1.setNumber m _).1.setLow m _).1.below (below_drewN (Below.refl _ _) 1)))
      rw [HB.out] at hz c9 c4 c6 cn cl f9 f4 f6 fn fl H2
      clear hs1 H1
      go_region
      go_upto_region 2 with fail
      obtain ⟨w2, hw2⟩ : ∃ w2, (((w1.setCell ⟨B + 3, m, none⟩ (.int .i64 (T.count + 1))).setCell ⟨B + 5, m, none⟩ (.int .i64 (T.count + 1))).drew) = w2 := ⟨_, rfl⟩
      rw [hw2] at H2
      change Code.wp _ _ _ _ (((w1.setCell ⟨B + 3, m, none⟩ (.int .i64 (T.count + 1))).setCell ⟨B + 5, m, none⟩ (.int .i64 (T.count + 1))).drew)
      rw [hw2]
      clear hw2 c9 f9 c4 f4 c6 f6 cn fn cl fl hz
      have hs2 := H2.out.s
      have hz := hs2.size
      obtain ⟨c2, f2⟩ := one_cell hs2.hs
      rw [HB.out] at hz c2 f2
      have HR := Lib.hid hs2.st
      rw [HB.out] at HR
      clear hs2
      go_upto_region 3 with (first | (at_builtin; go_loud (refine Kd.R_append (Kd.int .i64) (w0 := w2) (B + 11) rfl (.tmp 26) (.tmp 28) 53 3 (.int .i64 0) 8 rfl Try.underlying53 info_int rfl (by decide) (by omega) vs T.stack (m : Int) [.int .i64 (m : Int)] (fun _ => True) (fun _ => False) rfl rfl ?aP (fun _ hk => hk.elim) ?aF ?aO ?aB ?aS ?aL ?_); (case aP => exact rfl); (case aB => exact Below.refl _ _); (case aF => exact (fun _ _ => trivial)); (case aO => exact HR.out); (case aS => omega); (case aL => omega); intro v1 w3 ho hb hg hat; obtain ⟨A1, c1, rfl⟩ := Kd.R_slice ho; rw [← HB.out] at ho hb; obtain ⟨h3, c3, f3⟩ := H2.out.s.push ho hb hg hat; have H3 := Lib.hid (H2.out.go h3); rw [HB.out] at c3 f3 H3; clear ho hb hg hat h3))
      obtain ⟨w4, hw4⟩ : ∃ w4, (w3.setCell ⟨B + 2, 0, none⟩ (.slice A1 (T.stack ++ [(m : Int)]).length c1)) = w4 := ⟨_, rfl⟩
      rw [hw4] at H3
      rw [List.length_append, List.length_singleton] at hw4
      change Code.wp _ _ _ _ (w3.setCell ⟨B + 2, 0, none⟩ (.slice A1 (T.stack.length + 1) c1))
      rw [hw4]
      clear hw4 c2 f2 hz HR c3 f3
      have hs4 := H3.out.s
      have hz := hs4.size
      obtain ⟨c8, f8⟩ := one_cell hs4.ho
      obtain ⟨cm, fm⟩ := bools_cell hs4.dm (j := m) (by rw [hs4.lm]; exact hm)
      have H4 := Lib.hid (H3.out.go (hs4.setOn m true))
      rw [HB.out] at hz c8 f8 cm fm H4
      clear hs4 H2 H3
      go_upto_region 4 with fail
      obtain ⟨w5, hw5⟩ : ∃ w5, (w4.setCell ⟨B + 7, m, none⟩ (.bool true)) = w5 := ⟨_, rfl⟩
      rw [hw5] at H4
      change Code.wp _ _ _ _ (w4.setCell ⟨B + 7, m, none⟩ (.bool true))
      rw [hw5]
      clear hw5 c8 f8 cm fm hz
      have hs5 := H4.out.s
      have hz := hs5.size
      obtain ⟨cx, fx⟩ := one_cell hs5.hx
      have HC5 : Hid (kL.C w5 A nx.length nx) := Kd.C_below HC.out hs5.bel
      have HAF := Lib.hid (after_eq nx (m : Int) g1 g2 (by rw [Int.toNat_natCast]; omega))
      rw [HB.out] at hz cx fx
      clear hs5
      go_wp2_with (first | (go_at_call 78; refine (comp_after.calls _ _ _ nx (m : Int) _ _ HC5.out hc HAF.out).mono ?_; rintro e w6 ⟨v, rfl, hr, hb⟩; obtain ⟨Ak, ck, rfl⟩ := Kd.R_slice hr; have HKS := Lib.hid (row_new H4.out.s hr); have H5 := Lib.hid (H4.out.go (H4.out.s.below hb)); rw [HB.out] at HKS; clear hr hb))
      have hkl : (afterL nx (m : Int)).length < 1099511627776 := Nat.lt_of_le_of_lt (List.length_filter_le _ _) g6
      obtain ⟨T2, hE, hCl⟩ := Option.bind_eq_some_iff.1 HH.out
      generalize afterL nx (m : Int) = ks at *
      have HE : Hid (eachF (visitF nx k) nx.length (m : Int) (openF (m : Int) T) (ks.drop 0) = some T2) := hE
      have HCl := Lib.hid hCl
      have H6 : Hid (Car w0 A nx.length c w vs vo w6 (openF (m : Int) T) (.slice A1 (T.stack ++ [(m : Int)]).length c1) vo) := ⟨H5.out.s, H5.out.t⟩
      clear hE hCl HH H5 H4 HC5 HAF cx fx hz
      go_loopg [37] ks.length (fun g i wr => ∃ j : Nat, j ≤ ks.length ∧ g = ks.length - j ∧ i = .int .i64 j ∧ ∃ Tr vr vq, Hid (Car w0 A nx.length c w vs vo wr Tr vr vq) ∧ Hid (eachF (visitF nx k) nx.length (m : Int) Tr (ks.drop j) = some T2) ∧ Hid (kI.R 3 wr w5.heap.size (fun q => ¬ SV B vr vq q) (.slice Ak ks.length ck) ks))
      case atStart => exact ⟨0, Nat.zero_le _, rfl, rfl, _, _, _, H6, HE, HKS⟩
      case round =>
        clear HE H6 HKS
        obtain ⟨j, hj, rfl, rfl, Tr, vr, vq, H, HE, HK⟩ := hrel
        by_cases hlt : j < ks.length
        -- BEGIN round
        · have hE := HE.out
          rw [drop_at hlt] at hE
          unfold eachF at hE
          obtain ⟨T3, hS, hE⟩ := Option.bind_eq_some_iff.1 hE
          have HE3 := Lib.hid hE
          clear hE HE
          obtain ⟨gk, rfl, ck0⟩ := row_cell HK.out hlt
          obtain ⟨kj, hkj⟩ : ∃ kj, rd ks (j : Int) = kj := ⟨_, rfl⟩
          rw [hkj] at hS ck0
          clear hkj
          unfold stepF at hS
          by_cases hin : 0 ≤ kj ∧ kj < (nx.length : Int)
          · rw [if_pos hin] at hS
            obtain ⟨q1, q2⟩ := hin
            obtain ⟨kj, rfl⟩ := Int.eq_ofNat_of_zero_le q1
            rw [Int.toNat_natCast, Int.toNat_natCast] at hS
            have hkn : kj < nx.length := by omega
            have hsr := H.out.s
            have hz := hsr.size
            obtain ⟨c4, f4⟩ := one_cell hsr.hn
            obtain ⟨c6, f6⟩ := one_cell hsr.hl
            obtain ⟨c8, f8⟩ := one_cell hsr.ho
            obtain ⟨c10, f10⟩ := one_cell hsr.hv
            obtain ⟨cnk, fnk⟩ := ints_cell hsr.dn (j := kj) (by rw [hsr.ln]; exact hkn)
            obtain ⟨cok, fok⟩ := bools_cell hsr.dm (j := kj) (by rw [hsr.lm]; exact hkn)
            rw [HB.out] at hz c4 f4 c6 f6 c8 f8 c10 f10 cnk fnk cok fok
            by_cases hn0 : Tr.number.getD kj 0 = 0
            · rw [if_pos hn0] at hS
              obtain ⟨T4, hV4, hS⟩ := Option.bind_eq_some_iff.1 hS
              injection hS with hS
              subst hS
              have HV4 := Lib.hid hV4
              rw [hn0] at cnk
              clear hV4 hn0 c8 f8 cok fok hsr
              unfold visitV at c10
              go_wp2_with (first | (go_at_call 87; rw [← HB.out]; refine (HIH.out Tr T4 (kj : Int) wr vr vq H.out.s HV4.out).mono ?_; rw [HB.out]; rintro e w7 ⟨rfl, vs7, vo7, hv7, ht7⟩))
              have H7 : Hid (Car w0 A nx.length c w vs vo w7 T4 vs7 vo7) := H.out.go ⟨hv7, ht7⟩
              have HK7 := Lib.hid (row_step HK.out (by rw [← HB.out]; exact ht7))
              clear c4 f4 c6 f6 c10 f10 cnk fnk hz ck0
              have hz := hv7.size
              obtain ⟨c6, f6⟩ := one_cell hv7.hl
              obtain ⟨clk, _⟩ := ints_cell hv7.dl (j := kj) (by rw [hv7.ll]; exact hkn)
              obtain ⟨cln, fln⟩ := ints_cell hv7.dl (j := m) (by rw [hv7.ll]; exact hm)
              have H8 : Hid (Car w0 A nx.length c w vs vo (w7.setCell ⟨w0.heap.size + 5, m, none⟩ (.int .i64 (min (T4.low.getD m 0) (T4.low.getD kj 0)))).drew { T4 with low := T4.low.set m (min (T4.low.getD m 0) (T4.low.getD kj 0)) } vs7 vo7) := (H7.out.go (hv7.setLow m _)).go ((hv7.setLow m _).1.below (below_drewN (Below.refl _ _) 1))
              have HK8 := Lib.hid (row_step (row_step HK7.out (by rw [← HB.out]; exact (hv7.setLow m (min (T4.low.getD m 0) (T4.low.getD kj 0))).2)) (by rw [← HB.out]; exact ((hv7.setLow m (min (T4.low.getD m 0) (T4.low.getD kj 0))).1.below (below_drewN (Below.refl _ _) 1)).2))
              rw [HB.out] at hz c6 f6 clk cln fln H8 HK8
              clear hv7 ht7
              generalize T4.low.getD m 0 = x1 at *
              generalize T4.low.getD kj 0 = x2 at *
              go_region
              all_goals
                go_wp2_with fail
                go_roundg (ks.length - (j + 1))
                case measure => omega
                case rel => exact ⟨j + 1, by omega, rfl, by go_num, _, _, _, H8, HE3, HK8⟩
            · rw [if_neg hn0] at hS
              have hnb : ((Tr.number.getD kj 0) == 0) = false := by simpa using hn0
              by_cases hon : Tr.on.getD kj false = true
              · rw [if_pos hon] at hS
                injection hS with hS
                subst hS
                rw [hon] at cok
                obtain ⟨cln, fln⟩ := ints_cell hsr.dl (j := m) (by rw [hsr.ll]; exact hm)
                have H8 : Hid (Car w0 A nx.length c w vs vo (wr.setCell ⟨w0.heap.size + 5, m, none⟩ (.int .i64 (min (Tr.low.getD m 0) (Tr.number.getD kj 0)))).drew { Tr with low := Tr.low.set m (min (Tr.low.getD m 0) (Tr.number.getD kj 0)) } vr vq) := (H.out.go (hsr.setLow m _)).go ((hsr.setLow m _).1.below (below_drewN (Below.refl _ _) 1))
                have HK8 := Lib.hid (row_step (row_step HK.out (by rw [← HB.out]; exact (hsr.setLow m (min (Tr.low.getD m 0) (Tr.number.getD kj 0))).2)) (by rw [← HB.out]; exact ((hsr.setLow m (min (Tr.low.getD m 0) (Tr.number.getD kj 0))).1.below (below_drewN (Below.refl _ _) 1)).2))
                rw [HB.out] at cln fln H8 HK8
                clear hsr hon hn0 c10 f10
                generalize Tr.low.getD m 0 = x1 at *
                generalize Tr.number.getD kj 0 = x2 at *
                go_upto_region 11 with fail
                go_region
                all_goals
                  go_wp2_with fail
                  go_roundg (ks.length - (j + 1))
                  case measure => omega
                  case rel => exact ⟨j + 1, by omega, rfl, by go_num, _, _, _, H8, HE3, HK8⟩
              · rw [if_neg hon] at hS
                injection hS with hS
                subst hS
                simp only [Bool.not_eq_true] at hon
                rw [hon] at cok
                generalize Tr.number.getD kj 0 = x2 at *
                clear hsr hon hn0 c10 f10 c6 f6
                go_wp2_with fail
                go_roundg (ks.length - (j + 1))
                case measure => omega
                case rel => exact ⟨j + 1, by omega, rfl, by go_num, _, _, _, H, HE3, HK⟩
          · rw [if_neg hin] at hS; cases hS
        -- END round
        · obtain rfl : j = ks.length := by omega
          have hE := HE.out
          rw [List.drop_length] at hE
          injection hE with hE
          subst hE
          clear HE HIH HK hj
          have hsr := H.out.s
          have hz := hsr.size
          obtain ⟨c4, f4⟩ := one_cell hsr.hn
          obtain ⟨c6, f6⟩ := one_cell hsr.hl
          obtain ⟨cln, fln⟩ := ints_cell hsr.dl (j := m) (by rw [hsr.ll]; exact hm)
          obtain ⟨cnn, fnn⟩ := ints_cell hsr.dn (j := m) (by rw [hsr.ln]; exact hm)
          have hCl := HCl.out
          clear HCl
          unfold closeF at hCl
          rw [Int.toNat_natCast] at hCl
          rw [HB.out] at hz c4 f4 c6 f6 cln cnn fln fnn
          by_cases hne : Tr.low.getD m 0 ≠ Tr.number.getD m 0
          · rw [if_pos hne] at hCl
            injection hCl with hCl
            subst hCl
            have hnb : (Tr.low.getD m 0 != Tr.number.getD m 0) = true := by simpa using hne
            clear hne hsr
            generalize Tr.low.getD m 0 = x1 at *
            generalize Tr.number.getD m 0 = x2 at *
            go_wp2_with fail
            go_quiet (fail)
            go_wp2_with fail
            go_end0
            exact ⟨rfl, _, _, (H.out.go (H.out.s.below (below_drewN (Below.refl _ _) _))).s, (H.out.go (H.out.s.below (below_drewN (Below.refl _ _) _))).t⟩
          · rw [if_neg hne] at hCl
            have hnb : (Tr.low.getD m 0 != Tr.number.getD m 0) = false := by simpa using hne
            clear hne
            by_cases hst : (m : Int) ∈ Tr.stack ∧ (∀ j ∈ Tr.stack.drop (Tr.stack.idxOf (m : Int)), 0 ≤ j ∧ j < (nx.length : Int)) ∧ Tr.out.length < 1099511627776 ∧ Tr.stack.length < 1099511627776
            · rw [if_pos hst] at hCl
              injection hCl with hCl
              subst hCl
              obtain ⟨s1, s2, s3, s4⟩ := hst
              have HS2 := Lib.hid s2
              have HS1 := Lib.hid s1
              clear s1 s2 hsr
              generalize Tr.low.getD m 0 = x1 at *
              generalize Tr.number.getD m 0 = x2 at *
              go_wp2_with fail
              go_quiet (fail)
              go_upto_region 14 with fail
              obtain ⟨w8, hw8⟩ : ∃ w8, wr.drewN nq = w8 := ⟨_, rfl⟩
              have H8 := Lib.hid (H.out.go (H.out.s.below (below_drewN (Below.refl _ _) nq)))
              rw [hw8] at H8
              change Code.wp _ _ _ _ (wr.drewN nq)
              rw [hw8]
              clear hw8 hz c4 f4 c6 f6 cln fln cnn fnn H hnb
              obtain ⟨As, cs, rfl⟩ := Kd.R_slice H8.out.s.st
              have hs8 := H8.out.s
              obtain ⟨c2, f2⟩ := one_cell hs8.hs
              have HST := Lib.hid hs8.st
              obtain ⟨F, hF⟩ : ∃ F, Tr.stack.idxOf (m : Int) = F := ⟨_, rfl⟩
              have hFl : F < Tr.stack.length := by rw [← hF]; exact List.idxOf_lt_length_of_mem HS1.out
              rw [hF] at HS2
              have HF := Lib.hid hF
              obtain ⟨gs, rfl, hdc, hcap⟩ := drop_C HST.out hFl
              have HDC := Lib.hid hdc
              have hbig : Tr.stack.length ≤ 9223372036854775807 := HST.out.2.reads.elim fun _ h => h.elim fun _ h => h.2.2.2.1
              rw [HB.out] at c2 f2 HST
              clear hs8 hdc hF
              go_upto_region 15 with (first | (go_at_call 88; refine (index_row HST.out HS1.out).mono ?_; rintro e w' ⟨rfl, rfl⟩; rw [HF.out]))
              obtain ⟨dc, hdc⟩ : ∃ dc, Tr.stack.drop F = dc := ⟨_, rfl⟩
              have hdl : dc.length = Tr.stack.length - F := by rw [← hdc, List.length_drop]
              rw [hdc] at HDC HS2
              have HDCE := Lib.hid hdc
              have hcl := slices_Clone_int.calls (some ⟨gs, F, none⟩) (cs - F) dc dc w8 HDC.out (by omega) (by unfold slices_Clone_int.f; rw [if_pos (by omega)])
              rw [hdl] at hcl
              have HCLN := Lib.hid hcl
              have HDL := Lib.hid hdl
              clear hdc hcl hdl
              go_upto_region 16 with (first | (go_at_call 89; refine HCLN.out.mono ?_; rintro e w9 ⟨v, rfl, hr, hb⟩; obtain ⟨Ac, cc, rfl⟩ := Kd.R_slice hr; have HKC := Lib.hid (row_new H8.out.s hr); have H9 := Lib.hid (H8.out.go (H8.out.s.below hb)); have HO9 := Lib.hid (H8.out.s.low.below hb); have hw8 := H8.out.s.size; have hww := H8.out.t.kept.1; rw [HB.out] at HKC HO9 hw8; clear hr hb))
              clear c2 f2 HST HDC HCLN H8
              have hdcl : dc.length < 1099511627776 := by have := HDL.out; omega
              go_wp2_with fail
              go_loopg [96] dc.length (fun g i wr => ∃ j : Nat, j ≤ dc.length ∧ g = dc.length - j ∧ i = .int .i64 j ∧ Hid (Car w0 A nx.length c w vs vo wr { Tr with on := offF Tr.on (dc.take j) } (.slice (some ⟨gs, 0, none⟩) Tr.stack.length cs) vq) ∧ Hid (kI.R 3 wr w8.heap.size (fun q => ¬ SV B (.slice (some ⟨gs, 0, none⟩) Tr.stack.length cs) vq q) (.slice Ac dc.length cc) dc) ∧ Hid (OutLow B wr vq Tr.out (.slice (some ⟨gs, 0, none⟩) Tr.stack.length cs) w8.heap.size))
              case atStart => exact ⟨0, Nat.zero_le _, rfl, rfl, H9, HKC, HO9⟩
              case round =>
                clear H9 HKC HO9
                obtain ⟨j, hj, rfl, rfl, H, HK, HO⟩ := hrel
                by_cases hltc : j < dc.length
                · obtain ⟨gk, rfl, ck0⟩ := row_cell HK.out hltc
                  have hin := HS2.out dc[j] (List.getElem_mem hltc)
                  have hrd : rd dc (j : Int) = dc[j] := by unfold rd; rw [Int.toNat_natCast, List.getD_eq_getElem?_getD, List.getElem?_eq_getElem hltc, Option.getD_some]
                  have htk : offF Tr.on (dc.take (j + 1)) = (offF Tr.on (dc.take j)).set dc[j].toNat false := by rw [List.take_succ_eq_append_getElem hltc, offF, List.foldl_append]; rfl
                  rw [hrd] at ck0
                  obtain ⟨kj, hkj⟩ : ∃ kj, dc[j] = kj := ⟨_, rfl⟩
                  rw [hkj] at hin ck0 htk
                  clear hkj hrd
                  obtain ⟨q1, q2⟩ := hin
                  obtain ⟨kj, rfl⟩ := Int.eq_ofNat_of_zero_le q1
                  rw [Int.toNat_natCast] at htk
                  have hkn : kj < nx.length := by omega
                  have hsr := H.out.s
                  have hz := hsr.size
                  obtain ⟨c8, f8⟩ := one_cell hsr.ho
                  obtain ⟨cok, fok⟩ := bools_cell hsr.dm (j := kj) (by rw [hsr.lm]; exact hkn)
                  have H1 := Lib.hid (H.out.go (hsr.setOn kj false))
                  have HK1 := Lib.hid (row_step HK.out (by rw [← HB.out]; exact (hsr.setOn kj false).2))
                  rw [HB.out] at hz c8 f8 cok fok H1 HK1
                  simp only at H1
                  rw [← htk] at H1
                  have HO1 := Lib.hid (HO.out.set ⟨B + 7, kj, none⟩ (by show B + 7 ≤ B + 10; omega) (.bool false))
                  clear hsr htk
                  go_wp2_with fail
                  go_roundg (dc.length - (j + 1))
                  case measure => omega
                  case rel => exact ⟨j + 1, by omega, rfl, by go_num, H1, HK1, HO1⟩
                · obtain rfl : j = dc.length := by omega
                  rw [List.take_length] at H
                  have hsr := H.out.s
                  have hz := hsr.size
                  obtain ⟨c2, f2⟩ := one_cell hsr.hs
                  have H1 := Lib.hid (H.out.go (hsr.cutStack rfl F (Nat.le_of_lt hFl)))
                  have HK1 := Lib.hid (row_step HK.out (by rw [← HB.out]; exact (hsr.cutStack rfl F (Nat.le_of_lt hFl)).2))
                  have HO1 := Lib.hid ((HO.out.set ⟨B + 2, 0, none⟩ (by show B + 2 ≤ B + 10; omega) (.slice (some ⟨gs, 0, none⟩) F cs)).cut F)
                  rw [HB.out] at hz c2 f2 H1 HK1
                  clear hsr H HK HO
                  go_upto_region 22 with fail
                  obtain ⟨w10, hw10⟩ : ∃ w10, (wr.setCell ⟨B + 2, 0, none⟩ (.slice (some ⟨gs, 0, none⟩) F cs)) = w10 := ⟨_, rfl⟩
                  rw [hw10] at H1 HK1 HO1
                  change Code.wp _ _ _ _ (wr.setCell ⟨B + 2, 0, none⟩ (.slice (some ⟨gs, 0, none⟩) F cs))
                  rw [hw10]
                  clear hw10 c2 f2 hz
                  have hge : ∀ q, (Value.slice Ac dc.length cc).ownBlock = some q → w8.heap.size ≤ q := fun q hq => Kd.R_base HK1.out q hq
                  have HGE := Lib.hid hge
                  clear hge
                  have HSO := Lib.hid (slices_Sort_int.calls (fun q => some q = (Value.slice Ac dc.length cc).ownBlock) (.slice Ac dc.length cc) dc (sortL dc) w0 w10 H1.out.s.bel (Kd.R_tight rfl (R_up HK1.out (fun q hq => by have := HGE.out q hq; rw [HB.out]; omega))) (by unfold slices_Sort_int.f; rw [if_pos (by omega)]; rfl))
                  go_upto_region 23 with (first | (go_at_call 90; refine HSO.out.mono ?_; rintro e w11 ⟨rfl, hr, hb, hk⟩; have HR11 := Lib.hid hr; have HB11 := Lib.hid hb; have HK11 := Lib.hid hk; clear hr hb hk))
                  have hN : w0.heap.size + 11 ≤ w8.heap.size := by rw [HB.out]; omega
                  have H11 : Hid (Car w0 A nx.length c w vs vo w11 { Tr with on := offF Tr.on dc, stack := Tr.stack.take F } (.slice (some ⟨gs, 0, none⟩) F cs) vq) :=
                    ⟨H1.out.s.sorted (by rw [HB.out]; exact HO1.out) hN HB11.out HK11.out (fun q hq => ⟨HGE.out q hq.symm, by rw [HB.out]; exact HK1.out.1 q hq.symm⟩),
                      ⟨below_two HBW.out HB11.out (Nat.le_trans H1.out.t.kept.1 HK11.out.1), H1.out.t.kept.then_ HK11.out (fun q hq => .inr (Nat.le_trans hww (HGE.out q hq.symm))), H1.out.t.next⟩⟩
                  have HO11 := Lib.hid (HO1.out.kept HK11.out (fun q hq => HGE.out q hq.symm))
                  have HR := Lib.hid (Kd.R_tight rfl (R_up HR11.out (base' := B + 11) (fun q hq => by have := HGE.out q hq; omega)))
                  have HKN : Hid (∀ q, some q = (Value.slice Ac dc.length cc).ownBlock → ¬ SV B (.slice (some ⟨gs, 0, none⟩) F cs) vq q) := fun q hq => HK1.out.1 q hq.symm
                  clear H1 HK1 HO1 HSO HR11 HB11 HK11
                  have hs11 := H11.out.s
                  have hz := hs11.size
                  obtain ⟨c1', f1'⟩ := one_cell hs11.ht
                  have HSL : Hid (∀ k, w11.heap.size ≤ k → (Value.slice (some ⟨gs, 0, none⟩) F cs).ownBlock ≠ some k) := fun k hk he => by
                    have := hs11.sv_lt (k := k) (.inr (.inl he)); omega
                  have HSO : Hid (Kd.S kL 53 w11 (B + 11) (fun q => (Value.slice (some ⟨gs, 0, none⟩) F cs).ownBlock ≠ some q ∧ ¬ some q = (Value.slice Ac dc.length cc).ownBlock) vq Tr.out) := by
                    obtain ⟨P, p1, p2, p3⟩ := HO11.out
                    exact Kd.S_mono p1 (fun q hq => ⟨fun e => p2 q e hq, fun e => by have := HGE.out q e.symm; have := p3 q hq; omega⟩)
                  rw [HB.out] at hz c1' f1'
                  clear hs11 HO11 hN
                  go_wp2_with (first | (at_builtin; refine Kd.S_append kL (w0 := w11) (B + 11) rfl (.tmp 109) (.tmp 111) 48 53 (.slice none 0 0) 24 rfl Try.underlying48 info_row rfl (by decide) (by omega) vq Tr.out (sortL dc) [.slice Ac dc.length cc] (fun q => (Value.slice (some ⟨gs, 0, none⟩) F cs).ownBlock ≠ some q) (fun q => some q = (Value.slice Ac dc.length cc).ownBlock) rfl rfl ?aP ?aK ?aF ?aO ?aB ?aS ?aL ?_; (case aP => exact ⟨_, rfl, HR.out⟩); (case aK => exact (fun q hq => ⟨fun e => HKN.out q hq (.inr (.inl e)), fun e => HKN.out q hq (.inr (.inr e.symm))⟩)); (case aF => exact HSL.out); (case aO => exact HSO.out); (case aB => exact Below.refl _ _); (case aS => omega); (case aL => omega); intro v1 w12 ho hb hg hat; obtain ⟨A2, c2, rfl⟩ := Kd.R_slice (Kd.S_R ho); rw [← HB.out] at ho hb; obtain ⟨h3, c3, f3⟩ := H11.out.s.pushOut ⟨_, ho, fun k hk h => h hk⟩ hb hg hat; have H12 := Lib.hid (H11.out.go h3); rw [HB.out] at c3 f3 H12; clear ho hb hg hat h3))
                  rw [List.length_append, List.length_singleton] at H12
                  go_end0
                  refine ⟨rfl, _, _, ?_, H12.out.t⟩
                  rw [HF.out, HDCE.out]
                  exact H12.out.s
            · rw [if_neg hst] at hCl; cases hCl
    · rw [if_neg hg] at h; cases h
end Go.Proofs.Ytkgkhakjodlpgaa.Ext
