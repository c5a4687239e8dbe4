/- What is come to from some nodes: the program's walk and the document's marks are one. -/
import Derived.Test.YtkgkhakjodlpgaaPTarjan
import Derived.Test.YtkgkhakjodlpgaaC20
import Derived.Test.YtkgkhakjodlpgaaC1
import Derived.Test.YtkgkhakjodlpgaaC13
namespace Go.Proofs.Ytkgkhakjodlpgaa.C
open Go.RowKit Go.Proofs.YtkgkhakjodlpgaaW.PrintWords Go.Proofs.Ytkgkhakjodlpgaa.Ext Go.Proofs.Ytkgkhakjodlpgaa.Ca

/-- What is come to from a row of nodes. -/
def From (nx : List (List Int)) (l : List Int) (b : Nat) : Prop := ∃ a : Nat, (a : Int) ∈ l ∧ a < nx.length ∧ Rt nx a b

structure Marks (nx : List (List Int)) (l : List Int) (r : List Bool) : Prop where
  len : r.length = nx.length
  is : ∀ b, b < nx.length → (r.getD b false = true ↔ From nx l b)

theorem Marks.uniq {nx : List (List Int)} {l : List Int} {r s : List Bool} (hr : Marks nx l r) (hs : Marks nx l s) : r = s := by
  apply List.ext_getElem (by rw [hr.len, hs.len])
  intro i h1 h2
  have a := hr.is i (by rw [← hr.len]; exact h1)
  have b := hs.is i (by rw [← hr.len]; exact h1)
  rw [List.getD_eq_getElem?_getD, List.getElem?_eq_getElem h1] at a
  rw [List.getD_eq_getElem?_getD, List.getElem?_eq_getElem h2] at b
  simp only [Option.getD_some] at a b
  cases h : r[i] <;> cases h' : s[i] <;> simp_all

theorem getD_set_b (m : List Bool) (x : Nat) (hx : x < m.length) (a : Nat) : (m.set x true).getD a false = (if a = x then true else m.getD a false) := by
  simp only [List.getD_eq_getElem?_getD, List.getElem?_set]
  by_cases h : x = a
  · subst h; simp [hx]
  · rw [if_neg h, if_neg (fun e => h e.symm)]

/-- What is still to do: a weight for each node that is not marked. -/
def load (w : Nat → Nat) (m : List Bool) : Nat → Nat
  | 0 => 0
  | n + 1 => load w m n + (if m.getD n false = true then 0 else w n)

theorem load_set (w : Nat → Nat) (m : List Bool) (x : Nat) (hx : x < m.length) (h0 : m.getD x false = false) : ∀ n, load w m n = load w (m.set x true) n + (if x < n then w x else 0)
  | 0 => by simp [load]
  | n + 1 => by
    have ih := load_set w m x hx h0 n
    simp only [load]
    rw [getD_set_b m x hx n, ih]
    by_cases h : n = x
    · subst h; rw [if_neg (show ¬ n < n by omega), if_pos rfl, if_pos (show n < n + 1 by omega), if_neg (by rw [h0]; decide), if_pos rfl]
    · by_cases h2 : x < n
      · rw [if_pos h2, if_neg h, if_pos (show x < n + 1 by omega)]; omega
      · rw [if_neg h2, if_neg h, if_neg (show ¬ x < n + 1 by omega)]; omega

theorem load_le (w : Nat → Nat) (m : List Bool) (c : Nat) (hw : ∀ a, w a ≤ c) : ∀ n, load w m n ≤ n * c
  | 0 => by simp [load]
  | n + 1 => by
    have ih := load_le w m c hw n
    simp only [load]
    have h1 : (if m.getD n false = true then 0 else w n) ≤ c := by
      by_cases h : m.getD n false = true
      · rw [if_pos h]; omega
      · rw [if_neg h]; exact hw n
    rw [Nat.add_mul]; omega

theorem wrap_dec {n : Nat} (h0 : 0 < n) (h1 : n < 4611686018427387904) : wrap64 ((n : Int) - 1) = ((n - 1 : Nat) : Int) := by unfold wrap64; omega

theorem walk_from (nx : List (List Int)) (l : List Int) (_hN : nx.length < 1048576) (hrow : ∀ a : Nat, (nx.getD a []).length < 1048576) :
    ∀ s : List Bool × List Int, (s.1.length = nx.length ∧ (∀ b, b < nx.length → s.1.getD b false = true → From nx l b) ∧ (∀ x ∈ s.2, ∃ b : Nat, x = (b : Int) ∧ b < nx.length ∧ From nx l b) ∧
      (∀ a : Nat, (a : Int) ∈ l → a < nx.length → s.1.getD a false = true ∨ (a : Int) ∈ s.2) ∧ (∀ a b : Nat, a < nx.length → s.1.getD a false = true → Ed nx a b → s.1.getD b false = true ∨ (b : Int) ∈ s.2) ∧
      s.2.length + load (fun a => (nx.getD a []).length + 1) s.1 nx.length < 8796093022208) →
    ∃ k r, comp_walk.l0 k nx s.1 s.2 = some r ∧ Marks nx l r := by
  refine loop_ends (fun k (s : List Bool × List Int) => comp_walk.l0 k nx s.1 s.2) _ (fun _ r => Marks nx l r) (fun s => s.2.length + load (fun a => (nx.getD a []).length + 1) s.1 nx.length) ?_
  rintro ⟨m, left⟩ ⟨hl, hs, hq, hc, he, hb⟩
  dsimp only at hl hs hq hc he hb ⊢
  rcases List.eq_nil_or_concat left with rfl | ⟨init, x, rfl⟩
  · refine .inl ⟨1, m, by simp [comp_walk.l0], ⟨hl, fun b hb => ⟨hs b hb, fun ⟨a, h1, h2, h3⟩ => ?_⟩⟩⟩
    have hcl := h3.closed (S := fun z => z < nx.length ∧ m.getD z false = true) (fun p q hp hpq => ⟨hpq.2.1, by simpa using he p q hp.1 hp.2 hpq⟩) ⟨h2, by simpa using hc a h1 h2⟩
    exact hcl.2
  · rw [List.concat_eq_append] at hq hb ⊢
    simp only [List.concat_eq_append] at hc he
    obtain ⟨b, rfl, hbN, hbF⟩ := hq x (by simp)
    have hlen : ((init ++ [(b : Int)]).length : Int) = ((init.length + 1 : Nat) : Int) := by simp
    have hin : init.length + 1 < 4611686018427387904 := by simp at hb; omega
    have hw : wrap64 (((init ++ [(b : Int)]).length : Int) - 1) = (init.length : Int) := by rw [hlen, wrap_dec (by omega) hin]; simp
    have hrd : rd (init ++ [(b : Int)]) (init.length : Int) = (b : Int) := by simp [rd, List.getD_eq_getElem?_getD]
    have htk : (init ++ [(b : Int)]).take (init.length : Int).toNat = init := by simp
    by_cases hm : m.getD b false = true
    · refine .inr ⟨(m, init), ⟨hl, hs, fun x hx => hq x (by simp [hx]), fun a h1 h2 => ?_, fun a c h1 h2 h3 => ?_, by simp at hb ⊢; omega⟩, by simp, fun k r hk hp => ⟨k + 1, ?_, hp⟩⟩
      · rcases hc a h1 h2 with h | h
        · exact .inl h
        · rcases List.mem_append.1 h with h | h
          · exact .inr h
          · obtain rfl : _ = b := Int.ofNat_inj.1 (List.mem_singleton.1 h); exact .inl hm
      · rcases he a c h1 h2 h3 with h | h
        · exact .inl h
        · rcases List.mem_append.1 h with h | h
          · exact .inr h
          · obtain rfl : _ = b := Int.ofNat_inj.1 (List.mem_singleton.1 h); exact .inl hm
      · dsimp only at hk
        simp only [comp_walk.l0]
        rw [if_pos (by rw [hlen]; omega), hw, if_pos (by omega), if_pos (by rw [hlen]; omega), if_pos (by rw [hlen]; omega), htk, hrd]
        simp only [Option.bind_some]
        rw [if_pos (by omega), if_pos (by omega), if_pos (by simpa [rdOf] using hm)]
        exact hk
    · have hm0 : m.getD b false = false := by simpa using hm
      have hL := load_set (fun a => (nx.getD a []).length + 1) m b (by omega) hm0 nx.length
      rw [if_pos hbN] at hL
      have hA : (afterL nx (b : Int)).length ≤ (nx.getD b []).length := by unfold afterL; rw [Int.toNat_natCast]; exact List.length_filter_le _ _
      have hbl : init.length + 1 + load (fun a => (nx.getD a []).length + 1) m nx.length < 8796093022208 := by simpa using hb
      refine .inr ⟨(m.set b true, init ++ afterL nx (b : Int)), ⟨by simpa using hl, fun c h1 h2 => ?_, fun x hx => ?_, fun a h1 h2 => ?_, fun a c h1 h2 h3 => ?_, ?_⟩, ?_, fun k r hk hp => ?_⟩
      · dsimp only at h2
        rw [getD_set_b m b (by omega)] at h2
        by_cases e : c = b
        · subst e; exact hbF
        · rw [if_neg e] at h2; exact hs c h1 h2
      · rcases List.mem_append.1 hx with h | h
        · exact hq x (by simp [h])
        · obtain ⟨c, rfl, hc⟩ := (mem_afterL hbN).1 h
          obtain ⟨a, h1, h2, h3⟩ := hbF
          exact ⟨c, rfl, hc.2.1, a, h1, h2, .step h3 hc⟩
      · dsimp only
        rw [getD_set_b m b (by omega)]
        by_cases e : a = b
        · exact .inl (by simp [e])
        · rw [if_neg e]
          rcases hc a h1 h2 with h | h
          · exact .inl h
          · rcases List.mem_append.1 h with h | h
            · exact .inr (by simp [h])
            · exact absurd (Int.ofNat_inj.1 (List.mem_singleton.1 h)) e
      · dsimp only at h2 ⊢
        rw [getD_set_b m b (by omega)] at h2 ⊢
        by_cases e : c = b
        · exact .inl (by simp [e])
        · rw [if_neg e]
          by_cases e2 : a = b
          · subst e2
            exact .inr (List.mem_append_right _ ((mem_afterL hbN).2 ⟨c, rfl, h3⟩))
          · rw [if_neg e2] at h2
            rcases he a c h1 h2 h3 with h | h
            · exact .inl h
            · rcases List.mem_append.1 h with h | h
              · exact .inr (by simp [h])
              · exact absurd (Int.ofNat_inj.1 (List.mem_singleton.1 h)) e
      · simp only [List.length_append]; omega
      · simp only [List.length_append, List.length_cons, List.length_nil]; omega
      · dsimp only at hk
        have hafter := after_eq nx (b : Int) (by omega) (by omega) (by rw [Int.toNat_natCast]; have := hrow b; omega)
        refine ⟨max k ((nx.getD (b : Int).toNat []).length + 1) + 1, ?_, hp⟩
        have e1 := at_rounds (comp_after.mono nx (b : Int)) (Nat.le_max_right k _) hafter
        have e2 := at_rounds (g := fun j => comp_walk.l0 j nx (m.set b true) (init ++ afterL nx (b : Int))) (fun j => comp_walk.mono_l j _ _ _) (Nat.le_max_left k ((nx.getD (b : Int).toNat []).length + 1)) hk
        simp only [comp_walk.l0]
        rw [if_pos (by rw [hlen]; omega), hw, if_pos (by omega), if_pos (by rw [hlen]; omega), if_pos (by rw [hlen]; omega), htk, hrd]
        simp only [Option.bind_some]
        rw [if_pos (by omega), if_pos (by omega), if_neg (by simpa [rdOf] using hm), e1]
        simp only [Option.bind_some]
        rw [if_pos (by omega)]
        simpa using e2

def marksAt (nx : List (List Int)) (k : Nat) : Nat × List Bool × Bool × Nat × Nat → Option (List Bool)
  | (1, m, ch, _, _) => runnelref13_marks.l1 k nx m ch
  | (2, m, ch, i, _) => runnelref13_marks.l2 k nx m ch (i : Int)
  | (_, m, ch, i, e) => runnelref13_marks.l3 k nx m ch (i : Int) (e : Int)

def marksM (N : Nat) (s : Nat × List Bool × Bool × Nat × Nat) : Nat :=
  (load (fun _ => 1) s.2.1 N + (if s.2.2.1 = true then 1 else 0)) * 4398046511104 + (if s.1 = 1 then 0 else if s.1 = 2 then (N - s.2.2.2.1) * 2097152 + 1 else (N - s.2.2.2.1) * 2097152 - s.2.2.2.2)

structure MInv (nx : List (List Int)) (l : List Int) (s : Nat × List Bool × Bool × Nat × Nat) : Prop where
  t : s.1 = 1 ∨ s.1 = 2 ∨ s.1 = 3
  len : s.2.1.length = nx.length
  snd : ∀ b, b < nx.length → s.2.1.getD b false = true → From nx l b
  cpl : ∀ a : Nat, (a : Int) ∈ l → a < nx.length → s.2.1.getD a false = true
  i : s.2.2.2.1 ≤ nx.length
  e : s.2.2.2.2 ≤ (nx.getD s.2.2.2.1 []).length
  i1 : s.1 = 1 → s.2.2.2.1 = nx.length
  i3 : s.1 = 3 → s.2.2.2.1 < nx.length
  cl : s.2.2.1 = false → ∀ a b, a < s.2.2.2.1 → s.2.1.getD a false = true → Ed nx a b → s.2.1.getD b false = true
  ce : s.1 = 3 → s.2.2.1 = false → s.2.1.getD s.2.2.2.1 false = true → ∀ b : Nat, (b : Int) ∈ (nx.getD s.2.2.2.1 []).take s.2.2.2.2 → b < nx.length → s.2.1.getD b false = true

theorem wrap_nat {n : Nat} (h : n < 4611686018427387904) : wrap64 ((n : Int) + 1) = ((n + 1 : Nat) : Int) := by unfold wrap64; omega

theorem take_more {l : List Int} {i : Nat} (h : i < l.length) : l.take (i + 1) = l.take i ++ [rd l (i : Int)] := by
  rw [List.take_add_one, List.getElem?_eq_getElem h]; simp [rd, List.getD_eq_getElem?_getD, List.getElem?_eq_getElem h]
theorem rd_mem {l : List Int} {i : Nat} (h : i < l.length) : rd l (i : Int) ∈ l := by
  have : rd l (i : Int) = l[i] := by simp [rd, List.getD_eq_getElem?_getD, List.getElem?_eq_getElem h]
  rw [this]; exact List.getElem_mem _

theorem marks_from (nx : List (List Int)) (l : List Int) (hN : nx.length < 1048576) (hrow : ∀ a : Nat, (nx.getD a []).length < 1048576) :
    ∀ s, MInv nx l s → ∃ k r, marksAt nx k s = some r ∧ Marks nx l r := by
  refine loop_ends (marksAt nx) (MInv nx l) (fun _ r => Marks nx l r) (marksM nx.length) ?_
  rintro ⟨t, m, ch, i, e⟩ h
  have hr := hrow i
  rcases h.t with ht | ht | ht <;> dsimp only at ht <;> subst ht
  · have hi := h.i1 rfl
    dsimp only at hi
    subst hi
    cases ch with
    | false =>
      refine .inl ⟨1, m, by simp [marksAt, runnelref13_marks.l1], ⟨h.len, fun b hb => ⟨h.snd b hb, fun ⟨a, h1, h2, h3⟩ => ?_⟩⟩⟩
      exact (h3.closed (S := fun z => z < nx.length ∧ m.getD z false = true) (fun p q hp hpq => ⟨hpq.2.1, h.cl rfl p q hp.1 hp.2 hpq⟩) ⟨h2, h.cpl a h1 h2⟩).2
    | true =>
      refine .inr ⟨(2, m, false, 0, 0), ⟨.inr (.inl rfl), h.len, h.snd, h.cpl, by simp, by simp, by simp, by simp, fun _ a b ha => by simp at ha, by simp⟩, ?_, fun k r hk hp => ⟨k + 1, ?_, hp⟩⟩
      · simp only [marksM]; simp; omega
      · simp only [marksAt] at hk ⊢
        simp only [runnelref13_marks.l1]
        simpa using hk
  · have hi := h.i
    dsimp only at hi
    have hlen := h.len
    dsimp only at hlen
    by_cases hlt : i < nx.length
    · refine .inr ⟨(3, m, ch, i, 0), ⟨.inr (.inr rfl), h.len, h.snd, h.cpl, h.i, by simp, by simp, fun _ => hlt, h.cl, by simp⟩, ?_, fun k r hk hp => ⟨k + 1, ?_, hp⟩⟩
      · simp only [marksM]; simp
      · simp only [marksAt] at hk ⊢
        simp only [runnelref13_marks.l2]
        rw [if_pos (by omega)]
        simpa using hk
    · refine .inr ⟨(1, m, ch, nx.length, 0), ⟨.inl rfl, h.len, h.snd, h.cpl, by simp, by simp, fun _ => rfl, by simp, fun h1 => ?_, by simp⟩, ?_, fun k r hk hp => ⟨k + 1, ?_, hp⟩⟩
      · have := h.cl h1
        dsimp only at this ⊢
        rwa [show i = nx.length by omega] at this
      · simp only [marksM]; simp
      · simp only [marksAt] at hk ⊢
        simp only [runnelref13_marks.l2]
        rw [if_neg (by omega)]
        exact hk
  · have hi := h.i3 rfl
    have hlen := h.len
    have he := h.e
    dsimp only at hi hlen he
    have hrd : rd_L1 nx (i : Int) = nx.getD i [] := by simp [rd_L1]
    have hro : ∀ z : Nat, rdOf false m (z : Int) = m.getD z false := fun z => by simp [rdOf]
    have hsucc : i + 1 ≤ nx.length := hi
    -- the way on to the next node
    have hnext : (ch = false → m.getD i false = true → ∀ b, Ed nx i b → m.getD b false = true) → MInv nx l (2, m, ch, i + 1, 0) := fun hq =>
      ⟨.inr (.inl rfl), h.len, h.snd, h.cpl, hsucc, by simp, by simp, by simp, fun h1 a b ha hma hab => by
        dsimp only at ha hma ⊢
        by_cases e1 : a = i
        · subst e1; exact hq h1 hma b hab
        · exact h.cl h1 a b (by dsimp only; omega) hma hab, by simp⟩
    have hmes : marksM nx.length (2, m, ch, i + 1, 0) < marksM nx.length (3, m, ch, i, e) := by
      simp only [marksM]; simp; omega
    by_cases hel : e < (nx.getD i []).length
    · by_cases hmi : m.getD i false = true
      · -- an edge
        have htk := take_more hel
        have hmem := rd_mem hel
        have hset : ∀ j : Nat, j < m.length → ∀ z, (m.set j true).getD z false = (if z = j then true else m.getD z false) := fun j hj z => getD_set_b m j hj z
        have hstep : ∀ ch', (ch' = false → ch = false) → (∀ b : Nat, (b : Int) = rd (nx.getD i []) (e : Int) → b < nx.length → m.getD b false = true) → MInv nx l (3, m, ch', i, e + 1) := fun ch' hc hq =>
          ⟨.inr (.inr rfl), h.len, h.snd, h.cpl, h.i, hel, by simp, fun _ => hi, fun h1 => h.cl (hc h1), fun _ h0 h1 b hb hbN => by
            dsimp only at hb h1 h0 ⊢
            rw [htk] at hb
            rcases List.mem_append.1 hb with hb | hb
            · exact h.ce rfl (hc h0) h1 b hb hbN
            · exact hq b (List.mem_singleton.1 hb) hbN⟩
        have hmes2 : marksM nx.length (3, m, ch, i, e + 1) < marksM nx.length (3, m, ch, i, e) := by simp only [marksM]; simp; omega
        generalize hj0 : rd (nx.getD i []) (e : Int) = j at htk hmem hstep
        by_cases hj : 0 ≤ j ∧ j < (nx.length : Int)
        · obtain ⟨b, rfl⟩ := Int.eq_ofNat_of_zero_le hj.1
          have hbN : b < nx.length := by omega
          by_cases hmb : m.getD b false = true
          · refine .inr ⟨(3, m, ch, i, e + 1), hstep ch id (fun c hc _ => by obtain rfl := Int.ofNat_inj.1 hc; exact hmb), hmes2, fun k r hk hp => ⟨k + 3, ?_, hp⟩⟩
            simp only [marksAt] at hk ⊢
            simp only [runnelref13_marks.l3, runnelref13_marks.j5, runnelref13_marks.j6, hrd, hro, hj0]
            rw [if_pos (by omega), if_pos (by omega), if_pos (by omega), if_pos (by omega), if_pos hmi, if_pos (by omega), if_pos (by omega), if_pos (by omega), if_pos (by omega), if_pos (by omega), if_pos (by omega), if_pos (by omega), if_neg (by rw [hmb]; decide), wrap_nat (by omega)]
            exact hk
          · have hm0 : m.getD b false = false := by simpa using hmb
            have hS := hset b (by omega)
            have hL := load_set (fun _ => 1) m b (by omega) hm0 nx.length
            rw [if_pos hbN] at hL
            have hbF : From nx l b := by
              obtain ⟨a, h1, h2, h3⟩ := h.snd i hi hmi
              exact ⟨a, h1, h2, .step h3 ⟨hi, hbN, hmem⟩⟩
            refine .inr ⟨(3, m.set b true, true, i, e + 1), ⟨.inr (.inr rfl), by simpa using hlen, fun c h1 h2 => ?_, fun a h1 h2 => ?_, h.i, hel, by simp, fun _ => hi, by simp, by simp⟩, ?_, fun k r hk hp => ⟨k + 3, ?_, hp⟩⟩
            · dsimp only at h2
              rw [hS] at h2
              by_cases ee : c = b
              · subst ee; exact hbF
              · rw [if_neg ee] at h2; exact h.snd c h1 h2
            · dsimp only
              rw [hS]
              split
              · rfl
              · exact h.cpl a h1 h2
            · simp only [marksM]
              rw [hL]
              cases ch <;> simp <;> omega
            · simp only [marksAt] at hk ⊢
              simp only [runnelref13_marks.l3, runnelref13_marks.j5, runnelref13_marks.j6, hrd, hro, hj0]
              rw [if_pos (by omega), if_pos (by omega), if_pos (by omega), if_pos (by omega), if_pos hmi, if_pos (by omega), if_pos (by omega), if_pos (by omega), if_pos (by omega), if_pos (by omega), if_pos (by omega), if_pos (by omega), if_pos (by rw [hm0]; decide), if_pos (by omega), if_pos (by omega), wrap_nat (by omega)]
              exact hk
        · refine .inr ⟨(3, m, ch, i, e + 1), hstep ch id (fun c hc hcN => absurd ⟨by omega, by omega⟩ hj), hmes2, fun k r hk hp => ⟨k + 3, ?_, hp⟩⟩
          simp only [marksAt] at hk ⊢
          simp only [runnelref13_marks.l3, runnelref13_marks.j5, runnelref13_marks.j6, hrd, hro, hj0]
          rw [if_pos (by omega), if_pos (by omega), if_pos (by omega), if_pos (by omega), if_pos hmi, if_pos (by omega), if_pos (by omega), if_pos (by omega), if_pos (by omega)]
          by_cases h1 : 0 ≤ j
          · rw [if_pos h1, if_neg (by omega)]
            simp only [Bool.false_eq_true, if_false]
            rw [wrap_nat (by omega)]; exact hk
          · rw [if_neg h1]
            simp only [Bool.false_eq_true, if_false]
            rw [wrap_nat (by omega)]; exact hk
      · refine .inr ⟨(2, m, ch, i + 1, 0), hnext (fun _ h1 => absurd h1 hmi), hmes, fun k r hk hp => ⟨k + 2, ?_, hp⟩⟩
        simp only [marksAt] at hk ⊢
        simp only [runnelref13_marks.l3, runnelref13_marks.j5, hrd, hro]
        rw [if_pos (by omega), if_pos (by omega), if_pos (by omega), if_pos (by omega), if_neg hmi, wrap_nat (by omega)]
        exact hk
    · refine .inr ⟨(2, m, ch, i + 1, 0), hnext (fun h0 h1 b hb => h.ce rfl h0 h1 b (by dsimp only; rw [List.take_of_length_le (by omega)]; exact hb.2.2) hb.2.1), hmes, fun k r hk hp => ⟨k + 2, ?_, hp⟩⟩
      simp only [marksAt] at hk ⊢
      simp only [runnelref13_marks.l3, runnelref13_marks.j5, hrd, hro]
      rw [if_pos (by omega), if_pos (by omega), if_neg (by omega)]
      simp only [Bool.false_eq_true, if_false]
      rw [wrap_nat (by omega)]
      exact hk
theorem marks_start (nx : List (List Int)) (l : List Int) (hN : nx.length < 1048576) (hrow : ∀ a : Nat, (nx.getD a []).length < 1048576) (hl : l.length < 1099511627776) :
    ∀ s : List Bool × Nat, (s.1.length = nx.length ∧ s.2 ≤ l.length ∧ ∀ b, b < nx.length → (s.1.getD b false = true ↔ (b : Int) ∈ l.take s.2)) →
    ∃ k r, runnelref13_marks.l0 k nx l s.1 (s.2 : Int) = some r ∧ Marks nx l r := by
  refine loop_ends (fun k (s : List Bool × Nat) => runnelref13_marks.l0 k nx l s.1 (s.2 : Int)) _ (fun _ r => Marks nx l r) (fun s => l.length - s.2) ?_
  rintro ⟨m, i⟩ ⟨hm, hi, hb⟩
  dsimp only at hm hi hb ⊢
  by_cases hlt : i < l.length
  · have htk := take_more hlt
    generalize hj0 : rd l (i : Int) = j at htk
    by_cases hj : 0 ≤ j ∧ j < (nx.length : Int)
    · obtain ⟨x, rfl⟩ := Int.eq_ofNat_of_zero_le hj.1
      have hS := getD_set_b m x (by omega)
      refine .inr ⟨(m.set x true, i + 1), ⟨by simpa using hm, hlt, fun b hbN => ?_⟩, by dsimp only; omega, fun k r hk hp => ⟨k + 2, ?_, hp⟩⟩
      · dsimp only
        rw [hS, htk, List.mem_append, List.mem_singleton, ← hb b hbN]
        by_cases e : b = x
        · subst e; simp
        · rw [if_neg e]
          have : ¬ ((b : Int) = (x : Int)) := by omega
          simp [this]
      · dsimp only at hk
        simp only [runnelref13_marks.l0, runnelref13_marks.j1, hj0]
        rw [if_pos (by omega), if_pos (by omega), if_pos (by omega), if_pos (by simp; omega), if_pos (by omega), if_pos (by omega), if_pos (by omega), if_pos (by omega), wrap_nat (by omega)]
        simpa using hk
    · refine .inr ⟨(m, i + 1), ⟨hm, hlt, fun b hbN => ?_⟩, by dsimp only; omega, fun k r hk hp => ⟨k + 2, ?_, hp⟩⟩
      · dsimp only
        rw [htk, List.mem_append, List.mem_singleton, ← hb b hbN]
        have : ¬ ((b : Int) = j) := by omega
        simp [this]
      · dsimp only at hk
        simp only [runnelref13_marks.l0, runnelref13_marks.j1, hj0]
        rw [if_pos (by omega), if_pos (by omega)]
        by_cases h1 : 0 ≤ j
        · rw [if_pos h1, if_neg (by simp; omega), wrap_nat (by omega)]; exact hk
        · rw [if_neg h1]
          simp only [Bool.false_eq_true, if_false]
          rw [wrap_nat (by omega)]; exact hk
  · have hfin : ∀ b, b < nx.length → (m.getD b false = true ↔ (b : Int) ∈ l) := fun b hbN => by rw [hb b hbN, List.take_of_length_le (by omega)]
    obtain ⟨k, r, hk, hp⟩ := marks_from nx l hN hrow (1, m, true, nx.length, 0) ⟨.inl rfl, hm, fun b hbN h => ⟨b, (hfin b hbN).1 h, hbN, .refl b⟩, fun a h1 h2 => (hfin a h2).2 h1, by simp, by simp, fun _ => rfl, by simp, by simp, by simp⟩
    refine .inl ⟨k + 1, r, ?_, hp⟩
    simp only [marksAt] at hk
    simp only [runnelref13_marks.l0]
    rw [if_neg (by omega)]
    exact hk

theorem replicate_getD (n b : Nat) : (List.replicate n false).getD b false = false := by
  simp only [List.getD_eq_getElem?_getD, List.getElem?_replicate]; split <;> rfl

open Classical in
noncomputable def marksOf (nx : List (List Int)) (l : List Int) : List Bool := (List.range nx.length).map fun b => decide (From nx l b)

theorem marksOf_ok (nx : List (List Int)) (l : List Int) : Marks nx l (marksOf nx l) := by
  refine ⟨by simp [marksOf], fun b hb => ?_⟩
  simp [marksOf, List.getD_eq_getElem?_getD, hb]

theorem marks_ev (nx : List (List Int)) (l : List Int) (hN : nx.length < 1048576) (hrow : ∀ a : Nat, (nx.getD a []).length < 1048576) (hl : l.length < 1099511627776) :
    ∃ k, runnelref13_marks.f k nx l = some (marksOf nx l) := by
  obtain ⟨k, r, h1, h2⟩ := marks_start nx l hN hrow hl (List.replicate nx.length false, 0) ⟨by simp, by simp, fun b _ => by rw [replicate_getD]; simp⟩
  refine ⟨k, ?_⟩
  rw [h2.uniq (marksOf_ok nx l)] at h1
  unfold runnelref13_marks.f
  rw [if_pos (by omega), if_pos (by omega)]
  simpa using h1

theorem walk_ev (nx : List (List Int)) (l : List Int) (hN : nx.length < 1048576) (hrow : ∀ a : Nat, (nx.getD a []).length < 1048576) (hl : l.length < 1099511627776) (hin : ∀ x ∈ l, ∃ b : Nat, x = (b : Int) ∧ b < nx.length) :
    ∃ k, comp_walk.f k nx l = some (marksOf nx l) := by
  have hw := load_le (fun a => (nx.getD a []).length + 1) (List.replicate nx.length false) 1048576 (fun a => hrow a) nx.length
  have : nx.length * 1048576 ≤ 1048576 * 1048576 := Nat.mul_le_mul (by omega) (Nat.le_refl _)
  obtain ⟨k, r, h1, h2⟩ := walk_from nx l hN hrow (List.replicate nx.length false, l) ⟨by simp, fun b _ h => by rw [replicate_getD] at h; simp at h, fun x hx => by
    obtain ⟨b, rfl, hb⟩ := hin x hx
    exact ⟨b, rfl, hb, b, hx, hb, .refl b⟩, fun a h1 _ => .inr h1, fun a b _ h => by rw [replicate_getD] at h; simp at h, by dsimp only; omega⟩
  refine ⟨k, ?_⟩
  rw [h2.uniq (marksOf_ok nx l)] at h1
  unfold comp_walk.f
  rw [if_pos (by omega), if_pos (by omega), show slices_Clone_int.f l = some l from if_pos (by omega)]
  simpa using h1

/-- The marked nodes, rising. -/
def listOf (m : List Bool) : List Int := ((List.range m.length).filter fun i => m.getD i false).map fun (i : Nat) => (i : Int)

def tailOf (m : List Bool) (i d : Nat) : List Int := ((List.range' i d).filter fun i => m.getD i false).map fun (i : Nat) => (i : Int)

theorem reach_l0 (m : List Bool) (hm : m.length < 1048576) (d : Nat) : ∀ (k i : Nat) (acc : List Int), i + d = m.length → d < k → acc.length ≤ i →
    comp_Reach.l0 k acc m (m.length : Int) (i : Int) = some (acc ++ tailOf m i d) := by
  induction d with
  | zero =>
    intro k i acc h1 h2 h3
    obtain ⟨k, rfl⟩ : ∃ m, k = m + 1 := ⟨k - 1, by omega⟩
    simp only [comp_Reach.l0]
    rw [if_neg (by omega)]; simp [tailOf]
  | succ d ih =>
    intro k i acc h1 h2 h3
    obtain ⟨k, rfl⟩ : ∃ m, k = m + 1 := ⟨k - 1, by omega⟩
    simp only [comp_Reach.l0]
    rw [if_pos (by omega), if_pos (by omega), if_pos (by omega), wrap_nat (by omega)]
    have hro : rdOf false m (i : Int) = m.getD i false := by simp [rdOf]
    rw [hro]
    by_cases c : m.getD i false = true
    · rw [if_pos c, if_pos (by omega), ih k (i + 1) _ (by omega) (by omega) (by simp; omega)]
      simp only [tailOf, List.range'_succ]
      rw [List.filter_cons_of_pos (by simpa using c)]; simp
    · rw [if_neg c, ih k (i + 1) _ (by omega) (by omega) (by omega)]
      simp only [tailOf, List.range'_succ]
      rw [List.filter_cons_of_neg (by simpa using c)]

theorem list_l0 (m : List Bool) (hm : m.length < 1048576) (d : Nat) : ∀ (k i : Nat) (acc : List Int), i + d = m.length → d < k → acc.length ≤ i →
    runnelref13_List.l0 k m acc (i : Int) = some (acc ++ tailOf m i d) := by
  induction d with
  | zero =>
    intro k i acc h1 h2 h3
    obtain ⟨k, rfl⟩ : ∃ m, k = m + 1 := ⟨k - 1, by omega⟩
    simp only [runnelref13_List.l0]
    rw [if_neg (by omega)]; simp [tailOf]
  | succ d ih =>
    intro k i acc h1 h2 h3
    obtain ⟨k, rfl⟩ : ∃ m, k = m + 1 := ⟨k - 1, by omega⟩
    simp only [runnelref13_List.l0]
    rw [if_pos (by omega), if_pos (by omega), wrap_nat (by omega)]
    have hro : rdOf false m (i : Int) = m.getD i false := by simp [rdOf]
    rw [hro]
    by_cases c : m.getD i false = true
    · rw [if_pos c, if_pos (by omega), ih k (i + 1) _ (by omega) (by omega) (by simp; omega)]
      simp only [tailOf, List.range'_succ]
      rw [List.filter_cons_of_pos (by simpa using c)]; simp
    · rw [if_neg c, ih k (i + 1) _ (by omega) (by omega) (by omega)]
      simp only [tailOf, List.range'_succ]
      rw [List.filter_cons_of_neg (by simpa using c)]

theorem listOf_eq (m : List Bool) : tailOf m 0 m.length = listOf m := by simp [tailOf, listOf, List.range_eq_range']

theorem list_ev (m : List Bool) (hm : m.length < 1048576) : ∃ k, runnelref13_List.f k m = some (listOf m) :=
  ⟨m.length + 1, by unfold runnelref13_List.f; have := list_l0 m hm m.length (m.length + 1) 0 [] (by omega) (by omega) (by simp); rw [← listOf_eq]; simpa using this⟩

theorem listOf_none (nx : List (List Int)) (l : List Int) (h : ∀ b, ¬ From nx l b) : listOf (marksOf nx l) = [] := by
  unfold listOf
  rw [List.filter_eq_nil_iff.2]
  · rfl
  · intro a ha h2
    rw [List.mem_range, (marksOf_ok nx l).len] at ha
    exact h a (((marksOf_ok nx l).is a ha).1 h2)

theorem from_out {nx : List (List Int)} {a : Int} (h : ¬ (0 ≤ a ∧ a < (nx.length : Int))) (b : Nat) : ¬ From nx [a] b := fun ⟨c, h1, h2, _⟩ => by
  rw [List.mem_singleton] at h1; omega

theorem refReach_ev (nx : List (List Int)) (a : Int) (hN : nx.length < 1048576) (hrow : ∀ a : Nat, (nx.getD a []).length < 1048576) : ∃ k, runnelref13_Reach.f k nx a = some (listOf (marksOf nx [a])) := by
  obtain ⟨k1, h1⟩ := marks_ev nx [a] hN hrow (by simp)
  obtain ⟨k2, h2⟩ := list_ev (marksOf nx [a]) (by rw [(marksOf_ok _ _).len]; exact hN)
  refine ⟨max k1 k2, ?_⟩
  unfold runnelref13_Reach.f
  rw [at_rounds (runnelref13_marks.mono nx [a]) (Nat.le_max_left k1 k2) h1]
  simp only [Option.bind_some]
  rw [at_rounds (runnelref13_List.mono _) (Nat.le_max_right k1 k2) h2]
  rfl

theorem reach_ev (nx : List (List Int)) (a : Int) (hN : nx.length < 1048576) (hrow : ∀ a : Nat, (nx.getD a []).length < 1048576) : ∃ k, comp_Reach.f k nx a = some (listOf (marksOf nx [a])) := by
  by_cases h : 0 ≤ a ∧ a < (nx.length : Int)
  · obtain ⟨b, rfl⟩ := Int.eq_ofNat_of_zero_le h.1
    obtain ⟨k1, h1⟩ := walk_ev nx [(b : Int)] hN hrow (by simp) (fun x hx => ⟨b, List.mem_singleton.1 hx, by omega⟩)
    have hlen := (marksOf_ok nx [(b : Int)]).len
    refine ⟨max k1 (nx.length + 1) + 1, ?_⟩
    unfold comp_Reach.f
    rw [if_neg (by omega)]
    simp only [comp_Reach.j0]
    rw [if_neg (by simp; omega), at_rounds (comp_walk.mono nx _) (Nat.le_max_left k1 (nx.length + 1)) h1]
    simp only [Option.bind_some]
    have := reach_l0 (marksOf nx [(b : Int)]) (by omega) nx.length (max k1 (nx.length + 1)) 0 [] (by omega) (by omega) (by simp)
    rw [← listOf_eq, hlen]
    rw [hlen] at this
    simpa using this
  · refine ⟨1, ?_⟩
    rw [listOf_none nx [a] (from_out h)]
    unfold comp_Reach.f
    by_cases h0 : a < 0
    · rw [if_pos h0]; simp [comp_Reach.j0]
    · rw [if_neg h0]; simp only [comp_Reach.j0]; rw [if_pos (by simp; omega)]

theorem sameInts_self (l : List Int) (hl : l.length < 1099511627776) : ∃ k, runnellaw13_sameInts.f k l l = some true := by
  have key : ∀ d k i : Nat, i + d = l.length → d < k → runnellaw13_sameInts.l0 k l l (i : Int) = some true := by
    intro d
    induction d with
    | zero =>
      intro k i h1 h2
      obtain ⟨k, rfl⟩ : ∃ m, k = m + 1 := ⟨k - 1, by omega⟩
      simp only [runnellaw13_sameInts.l0]
      rw [if_neg (by omega)]
    | succ d ih =>
      intro k i h1 h2
      obtain ⟨k, rfl⟩ : ∃ m, k = m + 1 := ⟨k - 1, by omega⟩
      simp only [runnellaw13_sameInts.l0]
      rw [if_pos (by omega), if_pos (by omega), if_pos (by omega), wrap_nat (by omega), if_true]
      exact ih k (i + 1) (by omega) (by omega)
  refine ⟨l.length + 1, ?_⟩
  unfold runnellaw13_sameInts.f
  rw [if_pos rfl]
  simpa using key l.length (l.length + 1) 0 (by omega) (by omega)
end Go.Proofs.Ytkgkhakjodlpgaa.C
