/- runnellaw2.small. -/
import Derived.Test.YtkgkhakjodlpgaaShown
namespace Go.Proofs.Ytkgkhakjodlpgaa
open Go.RowKit

def shortP (q : ByteArray × ByteArray) : Bool := decide (q.1.size ≤ 100) && decide (q.2.size ≤ 100)
def smallB (names : List ByteArray) (pairs : List (ByteArray × ByteArray)) : Bool :=
  decide (names.length ≤ 20) && (decide (pairs.length ≤ 300) && (names.all (fun s => decide (s.size ≤ 100)) && pairs.all shortP))

set_option maxRecDepth 100000 in
set_option maxHeartbeats 2000000 in
theorem small_any (A B : Option Addr) (c c2 n m : Nat) (names : List ByteArray) (pairs : List (ByteArray × ByteArray)) (w : World)
    (hn : names.length = n) (hr : Rd w A (names.map Value.string)) (hm : pairs.length = m) (hrp : Rd w B (strs2 pairs)) :
    Calls Try.prog 22 #[.slice A n c, .slice B m c2] w fun e w' => e = .returned (.bool (smallB names pairs)) ∧ w = w' := by
  subst hn; subst hm
  by_cases h1 : names.length ≤ 20
  · by_cases h2 : pairs.length ≤ 300
    · have hs : smallB names pairs = (names.all (fun s => decide (s.size ≤ 100)) && pairs.all shortP) := by rw [smallB, decide_eq_true h1, decide_eq_true h2]; simp
      have HS := Lib.hid hs; have HR := Lib.hid hr; have HRP := Lib.hid hrp; clear hs hr hrp
      go_enter Try.func22, Try.ntmps22
      go_wp2_with fail
      go_loop [5] (fun i => ∃ k : Nat, k ≤ names.length ∧ i = .int .i64 k ∧ Hid ((names.take k).all (fun s => decide (s.size ≤ 100)) = true)) (fun i => names.length - (intOf i).toNat)
      case atStart => exact ⟨0, Nat.zero_le _, rfl, rfl⟩
      case round =>
        obtain ⟨k, hk, rfl, HA⟩ := hrel
        by_cases hlt : k < names.length
        · obtain ⟨b, o, hA, hc⟩ := HR.out.at (j := k) (v := Value.string names[k]) (by simp [hlt])
          subst hA
          by_cases hsz : names[k].size ≤ 100
          · have hnx : Hid ((names.take (k + 1)).all (fun s => decide (s.size ≤ 100)) = true) := by
              show _ = true
              rw [List.take_succ_eq_append_getElem hlt, List.all_append, HA.out, List.all_cons, List.all_nil, decide_eq_true hsz]; rfl
            generalize names[k] = s at *
            go_wp2
            go_round
            case rel => exact ⟨k + 1, by omega, by go_num, hnx⟩
            case measure => simp [intOf]; omega
          · have hfin : smallB names pairs = false := by
              have : names.all (fun s => decide (s.size ≤ 100)) = false := by rw [List.all_eq_false]; exact ⟨_, List.getElem_mem hlt, by simpa using hsz⟩
              rw [HS.out, this]; rfl
            have HF := Lib.hid hfin; clear hfin
            generalize names[k] = s at *
            go_wp2
            go_ret
            exact ⟨ret_bool HF.out.symm, rfl⟩
        · have hall : names.all (fun s => decide (s.size ≤ 100)) = true := by have := HA.out; rwa [List.take_of_length_le (by omega)] at this
          have hs2 : smallB names pairs = pairs.all shortP := by rw [HS.out, hall]; rfl
          have HS2 := Lib.hid hs2; clear hs2 hall HA
          go_wp2_with fail
          go_loop [6] (fun i => ∃ k : Nat, k ≤ pairs.length ∧ i = .int .i64 k ∧ Hid ((pairs.take k).all shortP = true)) (fun i => pairs.length - (intOf i).toNat)
          case atStart => exact ⟨0, Nat.zero_le _, rfl, rfl⟩
          case round =>
            obtain ⟨j, hj, rfl, HA⟩ := hrel
            by_cases hltp : j < pairs.length
            · obtain ⟨a1, a2⟩ := strs2_at pairs hltp
              obtain ⟨b, o, rfl, cp1⟩ := HRP.out.at a1
              obtain ⟨b', o', e1, cp2⟩ := HRP.out.at a2
              obtain ⟨rfl, rfl⟩ : b' = b ∧ o' = o := by simpa using e1.symm
              rw [← Nat.add_assoc] at cp2
              clear e1 a1 a2
              have hno : shortP pairs[j] = false → smallB names pairs = false := fun h => by
                rw [HS2.out, List.all_eq_false]; exact ⟨_, List.getElem_mem hltp, by rw [h]; simp⟩
              have hyes : shortP pairs[j] = true → (pairs.take (j + 1)).all shortP = true := fun h => by
                rw [List.take_succ_eq_append_getElem hltp, List.all_append, HA.out, List.all_cons, List.all_nil, h]; rfl
              have hq : shortP pairs[j] = (decide (pairs[j].1.size ≤ 100) && decide (pairs[j].2.size ≤ 100)) := rfl
              rw [hq] at hno hyes
              have HNO := Lib.hid hno; have HYES := Lib.hid hyes; clear hno hyes hq
              generalize pairs[j].1 = s1 at *
              generalize pairs[j].2 = s2 at *
              by_cases g1 : s1.size ≤ 100
              · by_cases g2 : s2.size ≤ 100
                · have HX := Lib.hid (HYES.out (by simp [g1, g2]))
                  go_wp2
                  go_round
                  case rel => exact ⟨j + 1, by omega, by go_num, HX⟩
                  case measure => simp [intOf]; omega
                · have HX := Lib.hid (HNO.out (by simp [g2]))
                  go_wp2
                  go_ret
                  exact ⟨ret_bool HX.out.symm, rfl⟩
              · have HX := Lib.hid (HNO.out (by simp [g1]))
                go_wp2
                go_ret
                exact ⟨ret_bool HX.out.symm, rfl⟩
            · have hfin : smallB names pairs = true := by rw [HS2.out]; have := HA.out; rwa [List.take_of_length_le (by omega)] at this
              have HF := Lib.hid hfin; clear hfin
              go_wp2
              go_ret
              exact ⟨ret_bool HF.out.symm, rfl⟩
    · have hs : smallB names pairs = false := by rw [smallB, decide_eq_false h2]; simp
      have HS := Lib.hid hs; clear hs hr hrp
      go_enter Try.func22, Try.ntmps22
      go_wp2
      go_ret
      exact ⟨ret_bool HS.out.symm, rfl⟩
  · have hs : smallB names pairs = false := by rw [smallB, decide_eq_false h1]; rfl
    have HS := Lib.hid hs; clear hs hr hrp
    go_enter Try.func22, Try.ntmps22
    go_wp2
    go_ret
    exact ⟨ret_bool HS.out.symm, rfl⟩
end Go.Proofs.Ytkgkhakjodlpgaa
