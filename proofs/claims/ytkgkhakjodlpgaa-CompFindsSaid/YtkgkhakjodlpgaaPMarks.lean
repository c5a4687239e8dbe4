/- The document's marks are what is come to. -/
import Derived.Test.YtkgkhakjodlpgaaPFrom
import Derived.Test.YtkgkhakjodlpgaaC7
import Derived.Test.YtkgkhakjodlpgaaC1
namespace Go.Proofs.Ytkgkhakjodlpgaa.C
open Go.RowKit Go.Proofs.YtkgkhakjodlpgaaW.PrintWords Go.Proofs.Ytkgkhakjodlpgaa.Ext Go.Proofs.Ytkgkhakjodlpgaa.Ca

def marksAt (nx : List (List Int)) (k : Nat) : Nat × List Bool × Bool × Nat × Nat → Option (List Bool)
  | (1, m, ch, _, _) => runnelref13_marks.l1 k nx m ch
  | (2, m, ch, i, _) => runnelref13_marks.l2 k nx m ch (i : Int)
  | (_, m, ch, i, e) => runnelref13_marks.l3 k nx m ch (i : Int) (e : Int)

def marksM (N : Nat) (s : Nat × List Bool × Bool × Nat × Nat) : Nat :=
  (load (fun _ => 1) s.2.1 N + (if s.2.2.1 = true then 1 else 0)) * 4398046511104 + (if s.1 = 1 then 0 else if s.1 = 2 then (N - s.2.2.2.1) * 2097152 + 1 else (N - s.2.2.2.1) * 2097152 - s.2.2.2.2)

structure MInv (nx : List (List Int)) (l : List Int) (s : Nat × List Bool × Bool × Nat × Nat) : Prop where
  t : s.1 = 1 ∨ s.1 = 2 ∨ s.1 = 3
  len : s.2.1.length = nx.length
  snd : ∀ b, b < nx.length → s.2.1.getD b false = true → From nx l b
  cpl : ∀ a : Nat, (a : Int) ∈ l → a < nx.length → s.2.1.getD a false = true
  i : s.2.2.2.1 ≤ nx.length
  e : s.2.2.2.2 ≤ (nx.getD s.2.2.2.1 []).length
  i1 : s.1 = 1 → s.2.2.2.1 = nx.length
  i3 : s.1 = 3 → s.2.2.2.1 < nx.length
  cl : s.2.2.1 = false → ∀ a b, a < s.2.2.2.1 → s.2.1.getD a false = true → Ed nx a b → s.2.1.getD b false = true
  ce : s.1 = 3 → s.2.2.1 = false → s.2.1.getD s.2.2.2.1 false = true → ∀ b : Nat, (b : Int) ∈ (nx.getD s.2.2.2.1 []).take s.2.2.2.2 → b < nx.length → s.2.1.getD b false = true

theorem marks_from (nx : List (List Int)) (l : List Int) (hN : nx.length < 1048576) (hrow : ∀ a : Nat, (nx.getD a []).length < 1048576) :
    ∀ s, MInv nx l s → ∃ k r, marksAt nx k s = some r ∧ Marks nx l r := by
  refine loop_ends (marksAt nx) (MInv nx l) (fun _ r => Marks nx l r) (marksM nx.length) ?_
  rintro ⟨t, m, ch, i, e⟩ h
  have hr := hrow i
  rcases h.t with ht | ht | ht <;> dsimp only at ht <;> subst ht
  · have hi := h.i1 rfl
    dsimp only at hi
    subst hi
    cases ch with
    | false =>
      refine .inl ⟨1, m, by simp [marksAt, runnelref13_marks.l1], ⟨h.len, fun b hb => ⟨h.snd b hb, fun ⟨a, h1, h2, h3⟩ => ?_⟩⟩⟩
      exact (h3.closed (S := fun z => z < nx.length ∧ m.getD z false = true) (fun p q hp hpq => ⟨hpq.2.1, h.cl rfl p q hp.1 hp.2 hpq⟩) ⟨h2, h.cpl a h1 h2⟩).2
    | true =>
      refine .inr ⟨(2, m, false, 0, 0), ⟨.inr (.inl rfl), h.len, h.snd, h.cpl, by simp, by simp, by simp, by simp, fun _ a b ha => by simp at ha, by simp⟩, ?_, fun k r hk hp => ⟨k + 1, ?_, hp⟩⟩
      · simp only [marksM]; simp; omega
      · simp only [marksAt] at hk ⊢
        simp only [runnelref13_marks.l1]
        simpa using hk
  · have hi := h.i
    dsimp only at hi
    have hlen := h.len
    dsimp only at hlen
    by_cases hlt : i < nx.length
    · refine .inr ⟨(3, m, ch, i, 0), ⟨.inr (.inr rfl), h.len, h.snd, h.cpl, h.i, by simp, by simp, fun _ => hlt, h.cl, by simp⟩, ?_, fun k r hk hp => ⟨k + 1, ?_, hp⟩⟩
      · simp only [marksM]; simp
      · simp only [marksAt] at hk ⊢
        simp only [runnelref13_marks.l2]
        rw [if_pos (by omega)]
        simpa using hk
    · refine .inr ⟨(1, m, ch, nx.length, 0), ⟨.inl rfl, h.len, h.snd, h.cpl, by simp, by simp, fun _ => rfl, by simp, fun h1 => ?_, by simp⟩, ?_, fun k r hk hp => ⟨k + 1, ?_, hp⟩⟩
      · have := h.cl h1
        dsimp only at this ⊢
        rwa [show i = nx.length by omega] at this
      · simp only [marksM]; simp
      · simp only [marksAt] at hk ⊢
        simp only [runnelref13_marks.l2]
        rw [if_neg (by omega)]
        exact hk
  · have hi := h.i3 rfl
    have hlen := h.len
    have he := h.e
    dsimp only at hi hlen he
    have hrd : rd_L1 nx (i : Int) = nx.getD i [] := by simp [rd_L1]
    have hro : ∀ z : Nat, rdOf false m (z : Int) = m.getD z false := fun z => by simp [rdOf]
    have hsucc : i + 1 ≤ nx.length := hi
    -- the way on to the next node
    have hnext : (ch = false → m.getD i false = true → ∀ b, Ed nx i b → m.getD b false = true) → MInv nx l (2, m, ch, i + 1, 0) := fun hq =>
      ⟨.inr (.inl rfl), h.len, h.snd, h.cpl, hsucc, by simp, by simp, by simp, fun h1 a b ha hma hab => by
        dsimp only at ha hma ⊢
        by_cases e1 : a = i
        · subst e1; exact hq h1 hma b hab
        · exact h.cl h1 a b (by dsimp only; omega) hma hab, by simp⟩
    have hmes : marksM nx.length (2, m, ch, i + 1, 0) < marksM nx.length (3, m, ch, i, e) := by
      simp only [marksM]; simp; omega
    by_cases hel : e < (nx.getD i []).length
    · by_cases hmi : m.getD i false = true
      · -- an edge
        have htk := take_more hel
        have hmem := rd_mem hel
        have hset : ∀ j : Nat, j < m.length → ∀ z, (m.set j true).getD z false = (if z = j then true else m.getD z false) := fun j hj z => getD_set_b m j hj z
        have hstep : ∀ ch', (ch' = false → ch = false) → (∀ b : Nat, (b : Int) = rd (nx.getD i []) (e : Int) → b < nx.length → m.getD b false = true) → MInv nx l (3, m, ch', i, e + 1) := fun ch' hc hq =>
          ⟨.inr (.inr rfl), h.len, h.snd, h.cpl, h.i, hel, by simp, fun _ => hi, fun h1 => h.cl (hc h1), fun _ h0 h1 b hb hbN => by
            dsimp only at hb h1 h0 ⊢
            rw [htk] at hb
            rcases List.mem_append.1 hb with hb | hb
            · exact h.ce rfl (hc h0) h1 b hb hbN
            · exact hq b (List.mem_singleton.1 hb) hbN⟩
        have hmes2 : marksM nx.length (3, m, ch, i, e + 1) < marksM nx.length (3, m, ch, i, e) := by simp only [marksM]; simp; omega
        generalize hj0 : rd (nx.getD i []) (e : Int) = j at htk hmem hstep
        by_cases hj : 0 ≤ j ∧ j < (nx.length : Int)
        · obtain ⟨b, rfl⟩ := Int.eq_ofNat_of_zero_le hj.1
          have hbN : b < nx.length := by omega
          by_cases hmb : m.getD b false = true
          · refine .inr ⟨(3, m, ch, i, e + 1), hstep ch id (fun c hc _ => by obtain rfl := Int.ofNat_inj.1 hc; exact hmb), hmes2, fun k r hk hp => ⟨k + 3, ?_, hp⟩⟩
            simp only [marksAt] at hk ⊢
            simp only [runnelref13_marks.l3, runnelref13_marks.j5, runnelref13_marks.j6, hrd, hro, hj0]
            rw [if_pos (by omega), if_pos (by omega), if_pos (by omega), if_pos (by omega), if_pos hmi, if_pos (by omega), if_pos (by omega), if_pos (by omega), if_pos (by omega), if_pos (by omega), if_pos (by omega), if_pos (by omega), if_neg (by rw [hmb]; decide), wrap_nat (by omega)]
            exact hk
          · have hm0 : m.getD b false = false := by simpa using hmb
            have hS := hset b (by omega)
            have hL := load_set (fun _ => 1) m b (by omega) hm0 nx.length
            rw [if_pos hbN] at hL
            have hbF : From nx l b := by
              obtain ⟨a, h1, h2, h3⟩ := h.snd i hi hmi
              exact ⟨a, h1, h2, .step h3 ⟨hi, hbN, hmem⟩⟩
            refine .inr ⟨(3, m.set b true, true, i, e + 1), ⟨.inr (.inr rfl), by simpa using hlen, fun c h1 h2 => ?_, fun a h1 h2 => ?_, h.i, hel, by simp, fun _ => hi, by simp, by simp⟩, ?_, fun k r hk hp => ⟨k + 3, ?_, hp⟩⟩
            · dsimp only at h2
              rw [hS] at h2
              by_cases ee : c = b
              · subst ee; exact hbF
              · rw [if_neg ee] at h2; exact h.snd c h1 h2
            · dsimp only
              rw [hS]
              split
              · rfl
              · exact h.cpl a h1 h2
            · simp only [marksM]
              rw [hL]
              cases ch <;> simp <;> omega
            · simp only [marksAt] at hk ⊢
              simp only [runnelref13_marks.l3, runnelref13_marks.j5, runnelref13_marks.j6, hrd, hro, hj0]
              rw [if_pos (by omega), if_pos (by omega), if_pos (by omega), if_pos (by omega), if_pos hmi, if_pos (by omega), if_pos (by omega), if_pos (by omega), if_pos (by omega), if_pos (by omega), if_pos (by omega), if_pos (by omega), if_pos (by rw [hm0]; decide), if_pos (by omega), if_pos (by omega), wrap_nat (by omega)]
              exact hk
        · refine .inr ⟨(3, m, ch, i, e + 1), hstep ch id (fun c hc hcN => absurd ⟨by omega, by omega⟩ hj), hmes2, fun k r hk hp => ⟨k + 3, ?_, hp⟩⟩
          simp only [marksAt] at hk ⊢
          simp only [runnelref13_marks.l3, runnelref13_marks.j5, runnelref13_marks.j6, hrd, hro, hj0]
          rw [if_pos (by omega), if_pos (by omega), if_pos (by omega), if_pos (by omega), if_pos hmi, if_pos (by omega), if_pos (by omega), if_pos (by omega), if_pos (by omega)]
          by_cases h1 : 0 ≤ j
          · rw [if_pos h1, if_neg (by omega)]
            simp only [Bool.false_eq_true, if_false]
            rw [wrap_nat (by omega)]; exact hk
          · rw [if_neg h1]
            simp only [Bool.false_eq_true, if_false]
            rw [wrap_nat (by omega)]; exact hk
      · refine .inr ⟨(2, m, ch, i + 1, 0), hnext (fun _ h1 => absurd h1 hmi), hmes, fun k r hk hp => ⟨k + 2, ?_, hp⟩⟩
        simp only [marksAt] at hk ⊢
        simp only [runnelref13_marks.l3, runnelref13_marks.j5, hrd, hro]
        rw [if_pos (by omega), if_pos (by omega), if_pos (by omega), if_pos (by omega), if_neg hmi, wrap_nat (by omega)]
        exact hk
    · refine .inr ⟨(2, m, ch, i + 1, 0), hnext (fun h0 h1 b hb => h.ce rfl h0 h1 b (by dsimp only; rw [List.take_of_length_le (by omega)]; exact hb.2.2) hb.2.1), hmes, fun k r hk hp => ⟨k + 2, ?_, hp⟩⟩
      simp only [marksAt] at hk ⊢
      simp only [runnelref13_marks.l3, runnelref13_marks.j5, hrd, hro]
      rw [if_pos (by omega), if_pos (by omega), if_neg (by omega)]
      simp only [Bool.false_eq_true, if_false]
      rw [wrap_nat (by omega)]
      exact hk
theorem marks_start (nx : List (List Int)) (l : List Int) (hN : nx.length < 1048576) (hrow : ∀ a : Nat, (nx.getD a []).length < 1048576) (hl : l.length < 1099511627776) :
    ∀ s : List Bool × Nat, (s.1.length = nx.length ∧ s.2 ≤ l.length ∧ ∀ b, b < nx.length → (s.1.getD b false = true ↔ (b : Int) ∈ l.take s.2)) →
    ∃ k r, runnelref13_marks.l0 k nx l s.1 (s.2 : Int) = some r ∧ Marks nx l r := by
  refine loop_ends (fun k (s : List Bool × Nat) => runnelref13_marks.l0 k nx l s.1 (s.2 : Int)) _ (fun _ r => Marks nx l r) (fun s => l.length - s.2) ?_
  rintro ⟨m, i⟩ ⟨hm, hi, hb⟩
  dsimp only at hm hi hb ⊢
  by_cases hlt : i < l.length
  · have htk := take_more hlt
    generalize hj0 : rd l (i : Int) = j at htk
    by_cases hj : 0 ≤ j ∧ j < (nx.length : Int)
    · obtain ⟨x, rfl⟩ := Int.eq_ofNat_of_zero_le hj.1
      have hS := getD_set_b m x (by omega)
      refine .inr ⟨(m.set x true, i + 1), ⟨by simpa using hm, hlt, fun b hbN => ?_⟩, by dsimp only; omega, fun k r hk hp => ⟨k + 2, ?_, hp⟩⟩
      · dsimp only
        rw [hS, htk, List.mem_append, List.mem_singleton, ← hb b hbN]
        by_cases e : b = x
        · subst e; simp
        · rw [if_neg e]
          have : ¬ ((b : Int) = (x : Int)) := by omega
          simp [this]
      · dsimp only at hk
        simp only [runnelref13_marks.l0, runnelref13_marks.j1, hj0]
        rw [if_pos (by omega), if_pos (by omega), if_pos (by omega), if_pos (by simp; omega), if_pos (by omega), if_pos (by omega), if_pos (by omega), if_pos (by omega), wrap_nat (by omega)]
        simpa using hk
    · refine .inr ⟨(m, i + 1), ⟨hm, hlt, fun b hbN => ?_⟩, by dsimp only; omega, fun k r hk hp => ⟨k + 2, ?_, hp⟩⟩
      · dsimp only
        rw [htk, List.mem_append, List.mem_singleton, ← hb b hbN]
        have : ¬ ((b : Int) = j) := by omega
        simp [this]
      · dsimp only at hk
        simp only [runnelref13_marks.l0, runnelref13_marks.j1, hj0]
        rw [if_pos (by omega), if_pos (by omega)]
        by_cases h1 : 0 ≤ j
        · rw [if_pos h1, if_neg (by simp; omega), wrap_nat (by omega)]; exact hk
        · rw [if_neg h1]
          simp only [Bool.false_eq_true, if_false]
          rw [wrap_nat (by omega)]; exact hk
  · have hfin : ∀ b, b < nx.length → (m.getD b false = true ↔ (b : Int) ∈ l) := fun b hbN => by rw [hb b hbN, List.take_of_length_le (by omega)]
    obtain ⟨k, r, hk, hp⟩ := marks_from nx l hN hrow (1, m, true, nx.length, 0) ⟨.inl rfl, hm, fun b hbN h => ⟨b, (hfin b hbN).1 h, hbN, .refl b⟩, fun a h1 h2 => (hfin a h2).2 h1, by simp, by simp, fun _ => rfl, by simp, by simp, by simp⟩
    refine .inl ⟨k + 1, r, ?_, hp⟩
    simp only [marksAt] at hk
    simp only [runnelref13_marks.l0]
    rw [if_neg (by omega)]
    exact hk

theorem marks_ev (nx : List (List Int)) (l : List Int) (hN : nx.length < 1048576) (hrow : ∀ a : Nat, (nx.getD a []).length < 1048576) (hl : l.length < 1099511627776) :
    ∃ k, runnelref13_marks.f k nx l = some (marksOf nx l) := by
  obtain ⟨k, r, h1, h2⟩ := marks_start nx l hN hrow hl (List.replicate nx.length false, 0) ⟨by simp, by simp, fun b _ => by rw [replicate_getD]; simp⟩
  refine ⟨k, ?_⟩
  rw [h2.uniq (marksOf_ok nx l)] at h1
  unfold runnelref13_marks.f
  rw [if_pos (by omega), if_pos (by omega)]
  simpa using h1

theorem list_l0 (m : List Bool) (hm : m.length < 1048576) (d : Nat) : ∀ (k i : Nat) (acc : List Int), i + d = m.length → d < k → acc.length ≤ i →
    runnelref13_List.l0 k m acc (i : Int) = some (acc ++ tailOf m i d) := by
  induction d with
  | zero =>
    intro k i acc h1 h2 h3
    obtain ⟨k, rfl⟩ : ∃ m, k = m + 1 := ⟨k - 1, by omega⟩
    simp only [runnelref13_List.l0]
    rw [if_neg (by omega)]; simp [tailOf]
  | succ d ih =>
    intro k i acc h1 h2 h3
    obtain ⟨k, rfl⟩ : ∃ m, k = m + 1 := ⟨k - 1, by omega⟩
    simp only [runnelref13_List.l0]
    rw [if_pos (by omega), if_pos (by omega), wrap_nat (by omega)]
    have hro : rdOf false m (i : Int) = m.getD i false := by simp [rdOf]
    rw [hro]
    by_cases c : m.getD i false = true
    · rw [if_pos c, if_pos (by omega), ih k (i + 1) _ (by omega) (by omega) (by simp; omega)]
      simp only [tailOf, List.range'_succ]
      rw [List.filter_cons_of_pos (by simpa using c)]; simp
    · rw [if_neg c, ih k (i + 1) _ (by omega) (by omega) (by omega)]
      simp only [tailOf, List.range'_succ]
      rw [List.filter_cons_of_neg (by simpa using c)]

theorem list_ev (m : List Bool) (hm : m.length < 1048576) : ∃ k, runnelref13_List.f k m = some (listOf m) :=
  ⟨m.length + 1, by unfold runnelref13_List.f; have := list_l0 m hm m.length (m.length + 1) 0 [] (by omega) (by omega) (by simp); rw [← listOf_eq]; simpa using this⟩
end Go.Proofs.Ytkgkhakjodlpgaa.C
