/- comp.Components puts the classes in their order. -/
import Derived.Test.YtkgkhakjodlpgaaPNums
namespace Go.Proofs.Ytkgkhakjodlpgaa.C
open Go.RowKit Go.Proofs.YtkgkhakjodlpgaaW.PrintWords Go.Proofs.Ytkgkhakjodlpgaa.Ext Go.Proofs.Ytkgkhakjodlpgaa.Ca Go.Proofs.Ytkgkhakjodlpgaa.Cv

theorem nodup_len : ∀ (m : Nat) (l : List Int), l.Nodup → (∀ x ∈ l, 0 ≤ x ∧ x < (m : Int)) → l.length ≤ m
  | 0, [], _, _ => by simp
  | 0, x :: l, _, h => by have := h x (by simp); omega
  | m + 1, l, hn, h => by
    have ih := nodup_len m (l.erase (m : Int)) (hn.erase _) (fun x hx => by
      have h1 := (hn.mem_erase_iff).1 hx
      have := h x h1.2
      have h2 := h1.1
      omega)
    by_cases hm : (m : Int) ∈ l
    · rw [List.length_erase_of_mem hm] at ih; omega
    · rw [List.erase_of_not_mem hm] at ih; omega

theorem rising_nodup {l : List Int} (h : l.Pairwise (· < ·)) : l.Nodup := h.imp (fun h => by omega)

/-- What is known of the classes, their numbers, and what each leads to. -/
structure IdsC (nx c : List (List Int)) (num : List Int) (ld : Nat → List Int) : Prop where
  N : nx.length < 1048576
  parts : Parts nx.length c
  cov : ∀ a, a < nx.length → ∃ t, t < c.length ∧ (a : Int) ∈ c.getD t []
  cl : ∀ t, t < c.length → ∃ n, n < nx.length ∧ c.getD t [] = cls nx n
  nums : NumOf nx.length c num
  lds : ∀ t, t < c.length → LeadsIs nx num (c.getD t []) (t : Int) (ld t)

def Uof (c : List (List Int)) (o : List Int) (a : Nat) : Prop := ∃ x ∈ o, (a : Int) ∈ c.getD x.toNat []

section
variable {nx c : List (List Int)} {num : List Int} {ld : Nat → List Int}

theorem IdsC.lead (h : IdsC nx c num ld) {t : Nat} (ht : t < c.length) {k : Int} : k ∈ ld t ↔ ∃ (a b s : Nat), k = (s : Int) ∧ s < c.length ∧ s ≠ t ∧ (a : Int) ∈ c.getD t [] ∧ Ed nx a b ∧ (b : Int) ∈ c.getD s [] := by
  rw [(h.lds t ht).is]
  constructor
  · rintro ⟨a, ha, b, hb, h1, h2⟩
    have hr := h.parts.rng t a ha
    obtain ⟨a', rfl⟩ := Int.eq_ofNat_of_zero_le hr.1
    obtain ⟨b', rfl, he⟩ := (mem_afterL (by omega)).1 hb
    obtain ⟨s, hs, hbs⟩ := h.cov b' he.2.1
    have e := h.nums.is s b' hbs
    rw [h1] at e
    exact ⟨a', b', s, e, hs, fun e2 => h2 (by rw [e, e2]), ha, he, hbs⟩
  · rintro ⟨a, b, s, rfl, hs, hne, ha, he, hb⟩
    exact ⟨a, ha, b, (mem_afterL he.1).2 ⟨b, rfl, he⟩, h.nums.is s b hb, by omega⟩

theorem IdsC.ld_rng (h : IdsC nx c num ld) {t : Nat} (ht : t < c.length) {k : Int} (hk : k ∈ ld t) : 0 ≤ k ∧ k < (c.length : Int) ∧ k ≠ (t : Int) := by
  obtain ⟨a, b, s, rfl, hs, hne, _⟩ := (h.lead ht).1 hk
  exact ⟨by omega, by omega, by omega⟩

theorem IdsC.same (h : IdsC nx c num ld) {t a b : Nat} (ht : t < c.length) (ha : (a : Int) ∈ c.getD t []) : (b : Int) ∈ c.getD t [] ↔ b < nx.length ∧ Rt nx a b ∧ Rt nx b a := by
  obtain ⟨n, hn, e⟩ := h.cl t ht
  rw [e] at ha ⊢
  obtain ⟨_, h1, h2⟩ := cls_mem.1 ha
  rw [cls_mem]
  constructor
  · rintro ⟨h3, h4, h5⟩; exact ⟨h3, h2.trans h4, h5.trans h1⟩
  · rintro ⟨h3, h4, h5⟩; exact ⟨h3, h1.trans h4, h5.trans h2⟩

/-- A node that is free, and not used: its class leads to used ones alone. -/
theorem IdsC.free_to (h : IdsC nx c num ld) {o : List Int} (ho : ∀ x ∈ o, 0 ≤ x) {t j : Nat} (ht : t < c.length) (hj : (j : Int) ∈ c.getD t []) (hu : ¬ Uof c o j) (hf : Free nx (Uof c o) j) :
    (t : Int) ∉ o ∧ ∀ k ∈ ld t, k ∈ o := by
  refine ⟨fun e => hu ⟨t, e, by simpa using hj⟩, fun k hk => ?_⟩
  obtain ⟨a, b, s, rfl, hs, hne, ha, he, hb⟩ := (h.lead ht).1 hk
  by_cases hso : (s : Int) ∈ o
  · exact hso
  · exfalso
    have h1 := (h.same ht hj).1 ha
    have h2 : Rt nx j b := .step h1.2.1 he
    have h3 : ¬ Uof c o b := fun ⟨y, hy, hby⟩ => by
      have := h.parts.dis _ _ _ hby hb
      have hy0 := ho y hy
      exact hso (by rw [← this]; rwa [show ((y.toNat : Nat) : Int) = y by omega])
    have h4 := hf b h2 h3
    have h5 := (h.same ht hj).2 ⟨he.2.1, h2, h4⟩
    exact hne (h.parts.dis _ _ _ hb h5)

/-- A class that leads to used ones alone is free. -/
theorem IdsC.to_free (h : IdsC nx c num ld) {o : List Int} (ho : ∀ x ∈ o, 0 ≤ x ∧ x < (c.length : Int)) (hcl : ∀ t : Nat, (t : Int) ∈ o → ∀ k ∈ ld t, k ∈ o) {t i : Nat} (ht : t < c.length) (hi : (i : Int) ∈ c.getD t []) (hl : ∀ k ∈ ld t, k ∈ o) :
    Free nx (Uof c o) i := by
  intro b hb hu
  have key := hb.closed (S := fun z => (z : Int) ∈ c.getD t [] ∨ Uof c o z) (fun a z ha he => by
    obtain ⟨s, hs, hz⟩ := h.cov z he.2.1
    rcases ha with ha | ⟨y, hy, ha⟩
    · by_cases e : s = t
      · subst e; exact .inl hz
      · exact .inr ⟨s, hl _ ((h.lead ht).2 ⟨a, z, s, rfl, hs, e, ha, he, hz⟩), by simpa using hz⟩
    · have hy0 := ho y hy
      by_cases e : s = y.toNat
      · subst e; exact .inr ⟨y, hy, hz⟩
      · refine .inr ⟨s, hcl y.toNat (by rwa [show ((y.toNat : Nat) : Int) = y by omega]) _ ((h.lead (by omega)).2 ⟨a, z, s, rfl, hs, e, ha, he, hz⟩), by simpa using hz⟩) (.inl hi)
  rcases key with h1 | h1
  · exact ((h.same ht hi).1 h1).2.2
  · exact absurd h1 hu

/-- The least node of a class. -/
theorem IdsC.head (h : IdsC nx c num ld) {t : Nat} (ht : t < c.length) : ∃ i : Nat, rd (c.getD t []) 0 = (i : Int) ∧ 0 < (c.getD t []).length ∧ (i : Int) ∈ c.getD t [] ∧ c.getD t [] = cls nx i ∧ ∀ x ∈ c.getD t [], (i : Int) ≤ x := by
  obtain ⟨n, hn, e⟩ := h.cl t ht
  have hs := cls_sorted nx n
  have hm := cls_self hn
  rw [← e] at hs hm
  cases hr : c.getD t [] with
  | nil => rw [hr] at hm; simp at hm
  | cons y l =>
    rw [hr] at hs
    have hy : y ∈ c.getD t [] := by rw [hr]; simp
    have hy0 := (h.parts.rng t y hy).1
    obtain ⟨i, rfl⟩ := Int.eq_ofNat_of_zero_le hy0
    refine ⟨i, by simp [rd], by simp, by simp, ?_, fun x hx => ?_⟩
    · rw [← hr, e]
      have h1 := (cls_mem.1 (by rw [← e]; exact hy))
      exact cls_eq h1.2.1 h1.2.2
    · rw [List.pairwise_cons] at hs
      rcases List.mem_cons.1 hx with rfl | hx
      · exact Int.le_refl _
      · have := hs.1 x hx; omega
end
/-! The order: the least free class first. -/
inductive BS where
  | two (w f o : List Int)
  | three (w f o : List Int) (g p : Nat)
  | four (w f o : List Int) (q : Nat) (x : Int)

/-- What is out, what is free, what the others wait for; b: those that still count one that is out. -/
structure Core (c : List (List Int)) (ld : Nat → List Int) (w f o b : List Int) : Prop where
  wl : w.length = c.length
  nd : (f ++ o).Nodup
  rg : ∀ x ∈ f ++ o, 0 ≤ x ∧ x < (c.length : Int)
  wt : ∀ t, t < c.length → w.getD t 0 = (((ld t).filter fun k => decide (k ∉ o)).length : Int) + (if (t : Int) ∈ b then 1 else 0)
  fr : ∀ t : Nat, t < c.length → ((t : Int) ∈ f ↔ (t : Int) ∉ o ∧ (∀ k ∈ ld t, k ∈ o) ∧ (t : Int) ∉ b)
  cl : ∀ t : Nat, (t : Int) ∈ o → ∀ k ∈ ld t, k ∈ o

def BInv (nx c : List (List Int)) (ld : Nat → List Int) (below : List (List Int)) : BS → Prop
  | .two w f o => Core c ld w f o []
  | .three w f o g p => Core c ld w f o [] ∧ g < f.length ∧ p ≤ f.length ∧ ∀ j : Nat, j < p → rd (c.getD (rd f (g : Int)).toNat []) 0 ≤ rd (c.getD (rd f (j : Int)).toNat []) 0
  | .four w f o q x => Core c ld w f (o ++ [x]) ((below.getD x.toNat []).drop q) ∧ q ≤ (below.getD x.toNat []).length ∧ (∀ t : Nat, (t : Int) ∈ o → ∀ k ∈ ld t, k ∈ o) ∧ ∃ i, NextOf nx (Uof c o) i ∧ c.getD x.toNat [] = cls nx i

def BS.out : BS → List Int
  | .two _ _ o => o
  | .three _ _ o _ _ => o
  | .four _ _ o _ _ => o

def BPost (nx c : List (List Int)) (o r : List Int) : Prop := ∃ more, r = o ++ more ∧ r.Nodup ∧ (∀ x ∈ r, 0 ≤ x ∧ x < (c.length : Int)) ∧ Seq nx (Uof c o) (more.map fun x => c.getD x.toNat [])

def idsAt (c below : List (List Int)) (k : Nat) : BS → Option (List Int)
  | .two w f o => comp_ids.l2 k c w below f o
  | .three w f o g p => comp_ids.l3 k c w below f o (g : Int) f (f.length : Int) (p : Int)
  | .four w f o q x => comp_ids.l4 k c w below f (o ++ [x]) (below.getD x.toNat []) ((below.getD x.toNat []).length : Int) (q : Int)

def idsM (c : List (List Int)) : BS → Nat
  | .two _ _ o => (c.length - o.length) * 4398046511104 + 1099511627776
  | .three _ _ o _ p => (c.length - o.length) * 4398046511104 + 549755813888 - p
  | .four _ _ o q _ => (c.length - o.length) * 4398046511104 - q

theorem Uof_snoc (c : List (List Int)) (o : List Int) (x : Int) : Uof c (o ++ [x]) = fun a => Uof c o a ∨ (a : Int) ∈ c.getD x.toNat [] := by
  funext a
  apply propext
  unfold Uof
  constructor
  · rintro ⟨y, hy, h⟩
    rcases List.mem_append.1 hy with h1 | h1
    · exact .inl ⟨y, h1, h⟩
    · rw [List.mem_singleton.1 h1] at h; exact .inr h
  · rintro (⟨y, hy, h⟩ | h)
    · exact ⟨y, List.mem_append_left _ hy, h⟩
    · exact ⟨x, List.mem_append_right _ (List.mem_singleton.2 rfl), h⟩

/-- What is waited for less, where one more is out. -/
theorem wait_less {l o : List Int} {x : Int} (hl : l.Nodup) (hx : x ∉ o) : (l.filter fun k => decide (k ∉ o)).length = (l.filter fun k => decide (k ∉ o ++ [x])).length + (if x ∈ l then 1 else 0) := by
  induction l with
  | nil => simp
  | cons y l ih =>
    rw [List.nodup_cons] at hl
    have ih := ih hl.2
    by_cases hy : y = x
    · subst hy
      rw [List.filter_cons_of_pos (by simpa using hx), List.filter_cons_of_neg (by simp), if_pos (by simp)]
      rw [if_neg hl.1] at ih
      simp only [List.length_cons]; omega
    · have e : (x ∈ y :: l) ↔ x ∈ l := by simp [List.mem_cons, Ne.symm hy]
      by_cases ho : y ∈ o
      · rw [List.filter_cons_of_neg (by simpa using ho), List.filter_cons_of_neg (by simp [ho])]
        simp only [e]; exact ih
      · rw [List.filter_cons_of_pos (by simpa using ho), List.filter_cons_of_pos (by simp [ho, hy])]
        simp only [e, List.length_cons]; omega

theorem erase_perm : ∀ (l : List Int) (i : Nat) (h : i < l.length), (l[i] :: l.eraseIdx i).Perm l
  | [], i, h => by simp at h
  | x :: l, 0, _ => by simp
  | x :: l, i + 1, h => by
    simp only [List.getElem_cons_succ, List.eraseIdx_cons_succ]
    exact (List.Perm.swap x _ _).trans ((erase_perm l i (by simpa using h)).cons x)

/-- The rows of those that wait for each. -/
structure BelowIs (c : List (List Int)) (ld : Nat → List Int) (below : List (List Int)) : Prop where
  len : below.length = c.length
  nd : ∀ k, k < c.length → (below.getD k []).Nodup
  is : ∀ k, k < c.length → ∀ x, x ∈ below.getD k [] ↔ ∃ t : Nat, x = (t : Int) ∧ t < c.length ∧ (k : Int) ∈ ld t

theorem ids_from {nx c : List (List Int)} {num : List Int} {ld : Nat → List Int} {below : List (List Int)} (h : IdsC nx c num ld) (hb : BelowIs c ld below) :
    ∀ s, BInv nx c ld below s → ∃ k r, idsAt c below k s = some r ∧ BPost nx c s.out r := by
  have hmany := h.parts.many
  have hrd : ∀ (l : List (List Int)) (i : Int), Cv.rd_L1 l i = l.getD i.toNat [] := fun l i => rfl
  refine loop_ends (idsAt c below) (BInv nx c ld below) (fun s r => BPost nx c s.out r) (idsM c) ?_
  rintro (⟨w, f, o⟩ | ⟨w, f, o, g, p⟩ | ⟨w, f, o, q, x⟩) hI
  · -- is one free?
    cases f with
    | nil =>
      refine .inl ⟨1, o, by simp [idsAt, comp_ids.l2], [], by simp [BS.out], by simpa using hI.nd, fun x hx => hI.rg x (by simpa using hx), .nil fun a ha => ?_⟩
      by_cases hu : Uof c o a
      · exact hu
      · exfalso
        obtain ⟨i, h1, h2, h3, _⟩ := free_ex (U := Uof c o) (rank nx a) a (Nat.le_refl _) ha hu
        obtain ⟨t, ht, hit⟩ := h.cov i h1
        obtain ⟨e1, e2⟩ := h.free_to (fun x hx => (hI.rg x (by simpa using hx)).1) ht hit h2 h3
        have := (hI.fr t ht).2 ⟨e1, e2, by simp⟩
        simp at this
    | cons f0 fs =>
      refine .inr ⟨.three w (f0 :: fs) o 0 0, ⟨hI, by simp, by simp, by simp⟩, by simp only [idsM]; omega, fun k r hk hp => ⟨k + 1, ?_, hp⟩⟩
      simp only [idsAt] at hk ⊢
      simp only [comp_ids.l2]
      rw [if_pos (by simp)]
      exact hk
  · obtain ⟨hC, hg, hp, hpick⟩ := hI
    have hlen := nodup_len c.length _ hC.nd hC.rg
    rw [List.length_append] at hlen
    by_cases hlt : p < f.length
    · -- the next one of the free ones
      have hx := hC.rg _ (List.mem_append_left _ (rd_mem hlt))
      have hy := hC.rg _ (List.mem_append_left _ (rd_mem hg))
      obtain ⟨_, _, hx2, _⟩ := h.head (t := (rd f (p : Int)).toNat) (by omega)
      obtain ⟨_, _, hy2, _⟩ := h.head (t := (rd f (g : Int)).toNat) (by omega)
      have hstep : ∀ g' : Nat, g' < f.length → (∀ j : Nat, j < p + 1 → rd (c.getD (rd f (g' : Int)).toNat []) 0 ≤ rd (c.getD (rd f (j : Int)).toNat []) 0) → BInv nx c ld below (.three w f o g' (p + 1)) := fun g' h1 h2 => ⟨hC, h1, hlt, h2⟩
      by_cases hc : rd (c.getD (rd f (p : Int)).toNat []) 0 < rd (c.getD (rd f (g : Int)).toNat []) 0
      · refine .inr ⟨.three w f o p (p + 1), hstep p hlt (fun j hj => ?_), by simp only [idsM]; omega, fun k r hk hp => ⟨k + 1, ?_, hp⟩⟩
        · by_cases e : j = p
          · subst e; exact Int.le_refl _
          · have := hpick j (by omega); omega
        · simp only [idsAt] at hk ⊢
          simp only [comp_ids.l3, hrd]
          rw [if_pos (by omega), if_pos (by omega), if_pos (by omega), if_pos (by omega), if_pos (by omega), if_pos (by omega), if_pos (by omega), if_pos (by omega), if_pos (by omega), if_pos (by omega), if_pos (by omega), if_pos hc, wrap_nat (by omega)]
          exact hk
      · refine .inr ⟨.three w f o g (p + 1), hstep g hg (fun j hj => ?_), by simp only [idsM]; omega, fun k r hk hp => ⟨k + 1, ?_, hp⟩⟩
        · by_cases e : j = p
          · subst e; omega
          · exact hpick j (by omega)
        · simp only [idsAt] at hk ⊢
          simp only [comp_ids.l3, hrd]
          rw [if_pos (by omega), if_pos (by omega), if_pos (by omega), if_pos (by omega), if_pos (by omega), if_pos (by omega), if_pos (by omega), if_pos (by omega), if_pos (by omega), if_pos (by omega), if_pos (by omega), if_neg hc, wrap_nat (by omega)]
          exact hk
    · -- the least one goes out
      have hxm := rd_mem hg
      have hperm : (rd f (g : Int) :: f.eraseIdx g).Perm f := by
        have := erase_perm f g hg
        have e : rd f (g : Int) = f[g] := by simp [rd, List.getD_eq_getElem?_getD, List.getElem?_eq_getElem hg]
        rwa [e]
      have hmin : ∀ y ∈ f, rd (c.getD (rd f (g : Int)).toNat []) 0 ≤ rd (c.getD y.toNat []) 0 := fun y hy => by
        obtain ⟨j, hj, rfl⟩ := List.mem_iff_getElem.1 hy
        have := hpick j (by omega)
        rwa [show rd f (j : Int) = f[j] by simp [rd, List.getD_eq_getElem?_getD, List.getElem?_eq_getElem hj]] at this
      generalize hx0 : rd f (g : Int) = x at hxm hperm hmin
      have hxr := hC.rg x (List.mem_append_left _ hxm)
      obtain ⟨X, rfl⟩ := Int.eq_ofNat_of_zero_le hxr.1
      have hXm : X < c.length := by omega
      have hp2 : (f.eraseIdx g ++ (o ++ [(X : Int)])).Perm (f ++ o) := by
        refine List.Perm.trans ?_ (hperm.append_right o)
        rw [← List.append_assoc]
        exact List.perm_append_comm.trans (List.Perm.refl _)
      have hfm : ∀ y, y ∈ f ↔ y = (X : Int) ∨ y ∈ f.eraseIdx g := fun y => by rw [← hperm.mem_iff, List.mem_cons]
      have hnf : (X : Int) ∉ f.eraseIdx g := by
        have : ((X : Int) :: f.eraseIdx g).Nodup := hperm.nodup_iff.2 (List.nodup_append.1 hC.nd).1
        exact (List.nodup_cons.1 this).1
      have hno : (X : Int) ∉ o := fun e => (List.nodup_append.1 hC.nd).2.2 _ hxm _ e rfl
      obtain ⟨e1, e2, _⟩ := (hC.fr X hXm).1 hxm
      have hB : ∀ t : Nat, t < c.length → ((t : Int) ∈ below.getD X [] ↔ (X : Int) ∈ ld t) := fun t ht => by
        rw [hb.is X hXm]
        constructor
        · rintro ⟨t', h1, _, h2⟩; obtain rfl := Int.ofNat_inj.1 h1; exact h2
        · intro h1; exact ⟨t, rfl, ht, h1⟩
      obtain ⟨i, hi1, hi2, hi3, hi4, hi5⟩ := h.head hXm
      have hnext : NextOf nx (Uof c o) i := by
        have hi0 := h.parts.rng X _ hi3
        have ho0 : ∀ y ∈ o, 0 ≤ y ∧ y < (c.length : Int) := fun y hy => hC.rg y (List.mem_append_right _ hy)
        refine ⟨by omega, fun ⟨y, hy, hyi⟩ => ?_, h.to_free ho0 hC.cl hXm hi3 e2, fun j hji hju hjf => ?_⟩
        · have := h.parts.dis _ _ _ hyi hi3
          have hy0 := ho0 y hy
          exact hno (by rw [← this]; rwa [show ((y.toNat : Nat) : Int) = y by omega])
        · obtain ⟨t, ht, hjt⟩ := h.cov j (by omega)
          obtain ⟨a1, a2⟩ := h.free_to (fun y hy => (ho0 y hy).1) ht hjt hju hjf
          have hm := hmin _ ((hC.fr t ht).2 ⟨a1, a2, by simp⟩)
          obtain ⟨i', b1, _, _, _, b5⟩ := h.head ht
          rw [Int.toNat_natCast, Int.toNat_natCast, hi1, b1] at hm
          have := b5 _ hjt
          omega
      have hlenb := hb.len
      have hol : o.length < c.length := by
        have := nodup_len c.length _ (hp2.nodup_iff.2 hC.nd) (fun y hy => hC.rg y (hp2.mem_iff.1 hy))
        simp at this; omega
      refine .inr ⟨.four w (f.eraseIdx g) o 0 (X : Int), ⟨⟨hC.wl, hp2.nodup_iff.2 hC.nd, fun y hy => hC.rg y (hp2.mem_iff.1 hy), fun t ht => ?_, fun t ht => ?_, fun t ht k hk => ?_⟩, by simp, hC.cl, i, hnext, by simpa using hi4⟩, by simp only [idsM]; omega, fun k r hk hp => ⟨k + 1, ?_, hp⟩⟩
      · rw [hC.wt t ht, wait_less (rising_nodup (h.lds t ht).up) hno]
        simp only [Int.toNat_natCast, List.drop_zero, hB t ht]
        by_cases hX : (X : Int) ∈ ld t
        · simp [hX]
        · simp [hX]
      · rw [Int.toNat_natCast, List.drop_zero, hB t ht]
        have hf := hC.fr t ht
        rw [hfm] at hf
        by_cases et : t = X
        · subst et
          simp [hnf]
        · have et' : ¬ ((t : Int) = (X : Int)) := by omega
          constructor
          · intro hm
            obtain ⟨a1, a2, _⟩ := hf.1 (.inr hm)
            refine ⟨by simp [a1, et'], fun k hk => List.mem_append_left _ (a2 k hk), fun hX => hno (a2 _ hX)⟩
          · rintro ⟨a1, a2, a3⟩
            have := hf.2 ⟨fun e => a1 (List.mem_append_left _ e), fun k hk => by
              rcases List.mem_append.1 (a2 k hk) with h1 | h1
              · exact h1
              · rw [List.mem_singleton.1 h1] at hk; exact absurd hk a3, by simp⟩
            rcases this with h1 | h1
            · exact absurd h1 et'
            · exact h1
      · rcases List.mem_append.1 ht with h1 | h1
        · exact List.mem_append_left _ (hC.cl t h1 k hk)
        · obtain rfl := Int.ofNat_inj.1 (List.mem_singleton.1 h1)
          exact List.mem_append_left _ (e2 k hk)
      · simp only [idsAt] at hk ⊢
        simp only [comp_ids.l3, hrd, hx0]
        clear hperm hmin hpick hp2 hfm hnext hB e2 hi1 hi3 hi5
        rw [if_neg (by omega), if_pos (by omega), if_pos (by omega), if_pos (by omega), wrap_nat (by omega), if_pos (by omega), if_pos (by omega), if_pos (by omega), if_pos (by omega), if_pos (by omega), if_pos (by omega)]
        exact hk
  · obtain ⟨hC, hq, hclo, i, hnext, hci⟩ := hI
    have hlen := nodup_len c.length _ hC.nd hC.rg
    rw [List.length_append, List.length_append, List.length_singleton] at hlen
    have hxr := hC.rg x (by simp)
    obtain ⟨X, rfl⟩ := Int.eq_ofNat_of_zero_le hxr.1
    have hXm : X < c.length := by omega
    rw [Int.toNat_natCast] at hC hq hci
    have hBl : (below.getD X []).length ≤ c.length := nodup_len c.length _ (hb.nd X hXm) (fun y hy => by
      obtain ⟨t, rfl, ht, _⟩ := (hb.is X hXm y).1 hy
      omega)
    by_cases hlt : q < (below.getD X []).length
    · obtain ⟨T, hT0, hTm, hXT⟩ := (hb.is X hXm _).1 (rd_mem hlt)
      have hdr := drop_at hlt
      rw [hT0] at hdr
      have hnd2 : ((T : Int) :: (below.getD X []).drop (q + 1)).Nodup := by rw [← hdr]; exact (hb.nd X hXm).sublist (List.drop_sublist _ _)
      have hTn := (List.nodup_cons.1 hnd2).1
      have hTo : (T : Int) ∉ o ++ [(X : Int)] := fun e => by
        rcases List.mem_append.1 e with h1 | h1
        · have := hclo T h1 _ hXT
          exact (List.nodup_append.1 (List.nodup_append.1 hC.nd).2.1).2.2 _ this _ (List.mem_singleton.2 rfl) rfl
        · have h2 := Int.ofNat_inj.1 (List.mem_singleton.1 h1)
          have := (h.ld_rng hTm hXT).2.2
          omega
      have hTf : (T : Int) ∉ f := fun e => ((hC.fr T hTm).1 e).2.2 (by rw [hdr]; simp)
      have hwT := hC.wt T hTm
      rw [if_pos (by rw [hdr]; simp)] at hwT
      have hldl : (ld T).length ≤ c.length := nodup_len c.length _ (rising_nodup (h.lds T hTm).up) (fun k hk => by have := h.ld_rng hTm hk; omega)
      have hfl := List.length_filter_le (fun k => decide (k ∉ o ++ [(X : Int)])) (ld T)
      have hzero : ((ld T).filter fun k => decide (k ∉ o ++ [(X : Int)])).length = 0 ↔ ∀ k ∈ ld T, k ∈ o ++ [(X : Int)] := by
        rw [List.length_eq_zero_iff, List.filter_eq_nil_iff]
        constructor
        · intro h1 k hk
          have := h1 k hk
          simp only [decide_eq_true_eq, Decidable.not_not] at this
          exact this
        · intro h1 k hk
          simp only [decide_eq_true_eq, Decidable.not_not]
          exact h1 k hk
      generalize hn : ((ld T).filter fun k => decide (k ∉ o ++ [(X : Int)])).length = n at hwT hfl hzero
      have hwl := hC.wl
      have hw' : ∀ s, s < c.length → (w.set T (n : Int)).getD s 0 = (((ld s).filter fun k => decide (k ∉ o ++ [(X : Int)])).length : Int) + (if (s : Int) ∈ (below.getD X []).drop (q + 1) then 1 else 0) := fun s hs => by
        rw [getD_setI _ _ _ (by omega)]
        by_cases e : s = T
        · subst e
          rw [if_pos rfl, if_neg hTn, hn]; simp
        · rw [if_neg e, hC.wt s hs, hdr]
          have : ¬ ((s : Int) = (T : Int)) := by omega
          simp [this]
      have hfr' : ∀ s : Nat, s < c.length → s ≠ T → ((s : Int) ∈ f ↔ (s : Int) ∉ o ++ [(X : Int)] ∧ (∀ k ∈ ld s, k ∈ o ++ [(X : Int)]) ∧ (s : Int) ∉ (below.getD X []).drop (q + 1)) := fun s hs e => by
        rw [hC.fr s hs, hdr]
        have : ¬ ((s : Int) = (T : Int)) := by omega
        simp [this]
      have hrun : ∀ (k : Nat) (r : List Int) (f' : List Int), f' = (if (n : Int) = 0 then f ++ [(T : Int)] else f) → idsAt c below k (.four (w.set T (n : Int)) f' o (q + 1) (X : Int)) = some r → idsAt c below (k + 1) (.four w f o q (X : Int)) = some r := fun k r f' hf hk => by
        simp only [idsAt, Int.toNat_natCast] at hk ⊢
        simp only [comp_ids.l4, hT0]
        have e1 : rd w (T : Int) = (n : Int) + 1 := by simpa [rd] using hwT
        have e2 : rd (w.set T (n : Int)) (T : Int) = (n : Int) := by
          have := getD_setI w T (n : Int) (by omega) T
          simpa [rd] using this
        have e3 : wrap64 ((n : Int) + 1 - 1) = (n : Int) := by unfold wrap64; omega
        rw [if_pos (by omega), if_pos (by omega), if_pos (by omega), if_pos (by omega), if_pos (by omega), e1, e3]
        simp only [Option.bind_some, Int.toNat_natCast]
        rw [e2]
        by_cases h0 : (n : Int) = 0
        · rw [if_pos h0, if_pos (by omega), wrap_nat (by omega)]
          rw [if_pos h0] at hf
          rw [← hf]; exact hk
        · rw [if_neg h0, wrap_nat (by omega)]
          rw [if_neg h0] at hf
          rw [← hf]; exact hk
      by_cases h0 : (n : Int) = 0
      · refine .inr ⟨.four (w.set T (n : Int)) (f ++ [(T : Int)]) o (q + 1) (X : Int), ⟨⟨by simpa using hC.wl, ?_, ?_, ?_, ?_, hC.cl⟩, ?_, hclo, i, hnext, by simpa using hci⟩, by simp only [idsM]; omega, fun k r hk hp => ⟨k + 1, hrun k r _ (by rw [if_pos h0]) hk, hp⟩⟩
        · rw [List.append_assoc]
          have hp3 : (f ++ ([(T : Int)] ++ (o ++ [(X : Int)]))).Perm ((T : Int) :: (f ++ (o ++ [(X : Int)]))) := List.perm_middle
          rw [hp3.nodup_iff, List.nodup_cons]
          exact ⟨fun e => (List.mem_append.1 e).elim hTf hTo, hC.nd⟩
        · intro y hy
          rw [List.append_assoc] at hy
          rcases List.mem_append.1 hy with h1 | h1
          · exact hC.rg y (List.mem_append_left _ h1)
          · rcases List.mem_append.1 h1 with h2 | h2
            · rw [List.mem_singleton.1 h2]; omega
            · exact hC.rg y (List.mem_append_right _ h2)
        · rw [Int.toNat_natCast]; exact hw'
        · intro s hs
          rw [Int.toNat_natCast]
          by_cases e : s = T
          · subst e
            simp only [List.mem_append, List.mem_singleton, or_true, true_iff] at hTo ⊢
            refine ⟨hTo, fun k hk => ?_, hTn⟩
            have := hzero.1 (by omega) k hk
            simpa using this
          · have e' : ¬ ((s : Int) = (T : Int)) := by omega
            rw [← hfr' s hs e, List.mem_append, List.mem_singleton]
            simp [e']
        · rw [Int.toNat_natCast]; exact hlt
      · refine .inr ⟨.four (w.set T (n : Int)) f o (q + 1) (X : Int), ⟨⟨by simpa using hC.wl, hC.nd, hC.rg, ?_, ?_, hC.cl⟩, ?_, hclo, i, hnext, by simpa using hci⟩, by simp only [idsM]; omega, fun k r hk hp => ⟨k + 1, hrun k r _ (by rw [if_neg h0]) hk, hp⟩⟩
        · rw [Int.toNat_natCast]; exact hw'
        · intro s hs
          rw [Int.toNat_natCast]
          by_cases e : s = T
          · subst e
            constructor
            · intro h1; exact absurd h1 hTf
            · rintro ⟨_, h1, _⟩
              have := hzero.2 h1
              omega
          · exact hfr' s hs e
        · rw [Int.toNat_natCast]; exact hlt
    · refine .inr ⟨.two w f (o ++ [(X : Int)]), ?_, by simp only [idsM]; simp at hlen ⊢; omega, fun k r hk hp => ⟨k + 1, ?_, ?_⟩⟩
      · rw [List.drop_eq_nil_of_le (by omega)] at hC; exact hC
      · simp only [idsAt] at hk ⊢
        simp only [comp_ids.l4]
        rw [Int.toNat_natCast, if_neg (by omega)]
        exact hk
      · obtain ⟨more, p1, p2, p3, p4⟩ := hp
        simp only [BS.out] at p1 p4 ⊢
        refine ⟨(X : Int) :: more, by rw [p1]; simp, p2, p3, ?_⟩
        rw [List.map_cons, Int.toNat_natCast, hci]
        rw [Uof_snoc, Int.toNat_natCast, hci] at p4
        exact .cons hnext p4

/-! What each waits for, and who waits for each. -/
inductive AS where
  | zero (w : List Int) (b : List (List Int)) (f : List Int) (i : Nat)
  | one (w : List Int) (b : List (List Int)) (f : List Int) (i q : Nat)

structure ACore (c : List (List Int)) (ld : Nat → List Int) (w : List Int) (b : List (List Int)) (f : List Int) (i : Nat) (cur : List Int) : Prop where
  wl : w.length = c.length
  bl : b.length = c.length
  il : i ≤ c.length
  wv : ∀ t, t < i → w.getD t 0 = ((ld t).length : Int)
  bv : ∀ k, k < c.length → ∀ x, x ∈ b.getD k [] ↔ ∃ t : Nat, x = (t : Int) ∧ ((t < i ∧ (k : Int) ∈ ld t) ∨ (t = i ∧ (k : Int) ∈ cur))
  bu : ∀ k, k < c.length → (b.getD k []).Pairwise (· < ·)
  fv : ∀ x, x ∈ f ↔ ∃ t : Nat, x = (t : Int) ∧ t < i ∧ ld t = []
  fu : f.Pairwise (· < ·)

def AInv (c : List (List Int)) (ld : Nat → List Int) : AS → Prop
  | .zero w b f i => ACore c ld w b f i []
  | .one w b f i q => ACore c ld w b f i ((ld i).take q) ∧ i < c.length ∧ q ≤ (ld i).length ∧ w.getD i 0 = ((ld i).length : Int)

def aAt (nx c : List (List Int)) (num : List Int) (ld : Nat → List Int) (k : Nat) : AS → Option (List Int)
  | .zero w b f i => comp_ids.l0 k nx c num w b f (c.length : Int) (i : Int)
  | .one w b f i q => comp_ids.l1 k nx c num w b f (i : Int) (ld i) (c.length : Int) (i : Int) (ld i) ((ld i).length : Int) (q : Int)

def aM (c : List (List Int)) : AS → Nat
  | .zero _ _ _ i => (c.length - i) * 4194304 + 1
  | .one _ _ _ i q => (c.length - i) * 4194304 - q

theorem getD_setR (m : List (List Int)) (x : Nat) (v : List Int) (hx : x < m.length) (a : Nat) : (m.set x v).getD a [] = (if a = x then v else m.getD a []) := by
  simp only [List.getD_eq_getElem?_getD, List.getElem?_set]
  by_cases h : x = a
  · subst h; simp [hx]
  · rw [if_neg h, if_neg (fun e => h e.symm)]

theorem a_from {nx c : List (List Int)} {num : List Int} {ld : Nat → List Int} (h : IdsC nx c num ld) {K : Nat} (hK : ∀ t, t < c.length → ∀ k, K ≤ k → comp_leads.f k nx c num (t : Int) = some (ld t)) :
    ∀ s, AInv c ld s → ∃ k r, aAt nx c num ld k s = some r ∧ BPost nx c [] r := by
  have hmany := h.parts.many
  have hrd : ∀ (l : List (List Int)) (i : Int), Cv.rd_L1 l i = l.getD i.toNat [] := fun l i => rfl
  have hldl : ∀ t, t < c.length → (ld t).length ≤ c.length := fun t ht => nodup_len c.length _ (rising_nodup (h.lds t ht).up) (fun k hk => by have := h.ld_rng ht hk; omega)
  refine loop_ends (aAt nx c num ld) (AInv c ld) (fun _ r => BPost nx c [] r) (aM c) ?_
  rintro (⟨w, b, f, i⟩ | ⟨w, b, f, i, q⟩) hI
  · have hwl := hI.wl
    by_cases hlt : i < c.length
    · refine .inr ⟨.one (w.set i ((ld i).length : Int)) b f i 0, ⟨⟨by simpa using hI.wl, hI.bl, hI.il, fun t ht => ?_, fun k hk x => by simpa using hI.bv k hk x, hI.bu, hI.fv, hI.fu⟩, hlt, by simp, ?_⟩, by simp only [aM]; omega, fun k r hk hp => ⟨max k K + 1, ?_, hp⟩⟩
      · rw [getD_setI _ _ _ (by omega), if_neg (by omega)]; exact hI.wv t ht
      · rw [getD_setI _ _ _ (by omega), if_pos rfl]
      · simp only [aAt] at hk ⊢
        simp only [comp_ids.l0]
        rw [if_pos (by omega), hK i hlt (max k K) (Nat.le_max_right k K)]
        simp only [Option.bind_some]
        rw [if_pos (by omega), if_pos (by omega)]
        exact at_rounds (g := fun j => comp_ids.l1 j nx c num (w.set i ((ld i).length : Int)) b f (i : Int) (ld i) (c.length : Int) (i : Int) (ld i) ((ld i).length : Int) 0) (fun j => (comp_ids.mono_l j).2.1 _ _ _ _ _ _ _ _ _ _ _ _ _) (Nat.le_max_left k K) hk
    · have hB : BelowIs c ld b := ⟨hI.bl, fun k hk => rising_nodup (hI.bu k hk), fun k hk x => by
        rw [hI.bv k hk]
        constructor
        · rintro ⟨t, rfl, h1 | h1⟩
          · exact ⟨t, rfl, by have := hI.il; omega, h1.2⟩
          · simp at h1
        · rintro ⟨t, rfl, h1, h2⟩; exact ⟨t, rfl, .inl ⟨by omega, h2⟩⟩⟩
      obtain ⟨k, r, h1, h2⟩ := ids_from h hB (.two w f []) ⟨hI.wl, by simpa using rising_nodup hI.fu, fun x hx => by
          obtain ⟨t, rfl, h1, _⟩ := (hI.fv x).1 (by simpa using hx)
          have := hI.il
          omega, fun t ht => by
          rw [hI.wv t (by omega), List.filter_eq_self.2 (fun k _ => by simp)]
          simp, fun t ht => by
          rw [hI.fv]
          constructor
          · rintro ⟨t', e, _, h2⟩
            obtain rfl := Int.ofNat_inj.1 e
            rw [h2]; simp
          · rintro ⟨_, h2, _⟩
            exact ⟨t, rfl, by omega, List.eq_nil_iff_forall_not_mem.2 (fun k hk => by have := h2 k hk; simp at this)⟩, fun t ht => by simp at ht⟩
      refine .inl ⟨k + 1, r, ?_, h2⟩
      simp only [aAt, comp_ids.l0]
      rw [if_neg (by omega)]
      simpa [idsAt] using h1
  · obtain ⟨hC, hi, hq, hw⟩ := hI
    have hbl := hC.bl
    have hld := hldl i hi
    by_cases hlt : q < (ld i).length
    · have hxm := rd_mem hlt
      have hxr := h.ld_rng hi hxm
      have htk := take_more hlt
      have hn := (List.pairwise_iff_getElem.1 (h.lds i hi).up)
      have hnt : rd (ld i) (q : Int) ∉ (ld i).take q := fun e => by
        obtain ⟨j, hj, e2⟩ := List.mem_iff_getElem.1 e
        rw [List.length_take] at hj
        rw [List.getElem_take] at e2
        have := hn j q (by omega) hlt (by omega)
        simp [rd, List.getD_eq_getElem?_getD, List.getElem?_eq_getElem hlt] at e2
        omega
      generalize hx0 : rd (ld i) (q : Int) = x at hxm hxr htk hnt
      obtain ⟨X, rfl⟩ := Int.eq_ofNat_of_zero_le hxr.1
      have hXm : X < c.length := by omega
      have hbX := hC.bv X hXm
      have hup : (b.getD X [] ++ [(i : Int)]).Pairwise (· < ·) := by
        refine List.pairwise_append.2 ⟨hC.bu X hXm, by simp, fun y hy z hz => ?_⟩
        rw [List.mem_singleton.1 hz]
        obtain ⟨t, rfl, h1 | h1⟩ := (hbX y).1 hy
        · omega
        · exact absurd h1.2 hnt
      have hbl2 : (b.getD X []).length ≤ c.length := nodup_len c.length _ (rising_nodup (hC.bu X hXm)) (fun y hy => by
        obtain ⟨t, rfl, h1 | h1⟩ := (hbX y).1 hy <;> omega)
      refine .inr ⟨.one w (b.set X (b.getD X [] ++ [(i : Int)])) f i (q + 1), ⟨⟨hC.wl, by simpa using hC.bl, hC.il, hC.wv, fun k hk y => ?_, fun k hk => ?_, hC.fv, hC.fu⟩, hi, hlt, hw⟩, by simp only [aM]; omega, fun k r hk hp => ⟨k + 1, ?_, hp⟩⟩
      · rw [getD_setR _ _ _ (by omega)]
        by_cases e : k = X
        · subst e
          rw [if_pos rfl, List.mem_append, hbX, List.mem_singleton, htk]
          constructor
          · rintro (⟨t, rfl, h1 | h1⟩ | rfl)
            · exact ⟨t, rfl, .inl h1⟩
            · exact ⟨t, rfl, .inr ⟨h1.1, List.mem_append_left _ h1.2⟩⟩
            · exact ⟨i, rfl, .inr ⟨rfl, by simp⟩⟩
          · rintro ⟨t, rfl, h1 | ⟨rfl, h1⟩⟩
            · exact .inl ⟨t, rfl, .inl h1⟩
            · exact .inr rfl
        · rw [if_neg e, hC.bv k hk, htk]
          have : ¬ ((k : Int) = (X : Int)) := by omega
          simp [this]
      · rw [getD_setR _ _ _ (by omega)]
        by_cases e : k = X
        · rw [if_pos e]; exact hup
        · rw [if_neg e]; exact hC.bu k hk
      · simp only [aAt] at hk ⊢
        simp only [comp_ids.l1, hx0, hrd]
        rw [if_pos (by omega), if_pos (by omega), if_pos (by omega), if_pos (by omega), if_pos (by omega), Int.toNat_natCast, if_pos (by omega), wrap_nat (by omega)]
        exact hk
    · have hfl : f.length ≤ c.length := nodup_len c.length _ (rising_nodup hC.fu) (fun y hy => by
        obtain ⟨t, rfl, h1, _⟩ := (hC.fv y).1 hy
        omega)
      rw [List.take_of_length_le (by omega)] at hC
      have hbase : ∀ f', (∀ x, x ∈ f' ↔ ∃ t : Nat, x = (t : Int) ∧ t < i + 1 ∧ ld t = []) → f'.Pairwise (· < ·) → AInv c ld (.zero w b f' (i + 1)) := fun f' h1 h2 =>
        ⟨hC.wl, hC.bl, hi, fun t ht => by
          by_cases e : t = i
          · subst e; exact hw
          · exact hC.wv t (by omega), fun k hk x => by
          rw [hC.bv k hk]
          constructor
          · rintro ⟨t, rfl, h1 | ⟨rfl, h1⟩⟩
            · exact ⟨t, rfl, .inl ⟨by omega, h1.2⟩⟩
            · exact ⟨t, rfl, .inl ⟨by omega, h1⟩⟩
          · rintro ⟨t, rfl, h1 | ⟨_, h1⟩⟩
            · by_cases e : t = i
              · subst e; exact ⟨t, rfl, .inr ⟨rfl, h1.2⟩⟩
              · exact ⟨t, rfl, .inl ⟨by omega, h1.2⟩⟩
            · simp at h1, hC.bu, h1, h2⟩
      by_cases h0 : (ld i).length = 0
      · refine .inr ⟨.zero w b (f ++ [(i : Int)]) (i + 1), hbase _ (fun x => ?_) (List.pairwise_append.2 ⟨hC.fu, by simp, fun y hy z hz => ?_⟩), by simp only [aM]; omega, fun k r hk hp => ⟨k + 1, ?_, hp⟩⟩
        · rw [List.mem_append, hC.fv, List.mem_singleton]
          constructor
          · rintro (⟨t, rfl, h1, h2⟩ | rfl)
            · exact ⟨t, rfl, by omega, h2⟩
            · exact ⟨i, rfl, by omega, List.length_eq_zero_iff.1 h0⟩
          · rintro ⟨t, rfl, h1, h2⟩
            by_cases e : t = i
            · subst e; exact .inr rfl
            · exact .inl ⟨t, rfl, by omega, h2⟩
        · rw [List.mem_singleton.1 hz]
          obtain ⟨t, rfl, h1, _⟩ := (hC.fv y).1 hy
          omega
        · simp only [aAt] at hk ⊢
          simp only [comp_ids.l1]
          rw [if_neg (by omega), if_pos (by omega), if_pos (by omega), wrap_nat (by omega)]
          exact hk
      · refine .inr ⟨.zero w b f (i + 1), hbase _ (fun x => ?_) hC.fu, by simp only [aM]; omega, fun k r hk hp => ⟨k + 1, ?_, hp⟩⟩
        · rw [hC.fv]
          constructor
          · rintro ⟨t, rfl, h1, h2⟩
            exact ⟨t, rfl, by omega, h2⟩
          · rintro ⟨t, rfl, h1, h2⟩
            by_cases e : t = i
            · subst e; rw [h2] at h0; simp at h0
            · exact ⟨t, rfl, by omega, h2⟩
        · simp only [aAt] at hk ⊢
          simp only [comp_ids.l1]
          rw [if_neg (by omega), if_neg (by omega), wrap_nat (by omega)]
          exact hk

theorem all_rounds {P : Nat → Nat → Prop} (hup : ∀ t k j, P t k → k ≤ j → P t j) : ∀ m : Nat, (∀ t, t < m → ∃ k, P t k) → ∃ K, ∀ t, t < m → ∀ k, K ≤ k → P t k
  | 0, _ => ⟨0, fun t ht => by omega⟩
  | m + 1, h => by
    obtain ⟨K, hK⟩ := all_rounds hup m (fun t ht => h t (by omega))
    obtain ⟨k0, h0⟩ := h m (by omega)
    refine ⟨max K k0, fun t ht k hk => ?_⟩
    by_cases e : t = m
    · subst e; exact hup _ _ _ h0 (by omega)
    · exact hK t (by omega) k (by omega)

/-- The classes that are found are parts. -/
theorem classes_parts {nx c : List (List Int)} (hN : nx.length < 1048576) (hc : Classes nx c) : Parts nx.length c ∧ (∀ a, a < nx.length → ∃ t, t < c.length ∧ (a : Int) ∈ c.getD t []) ∧ ∀ t, t < c.length → ∃ n, n < nx.length ∧ c.getD t [] = cls nx n := by
  have hget : ∀ t (h : t < c.length), c.getD t [] = c[t] := fun t h => by simp [List.getD_eq_getElem?_getD, List.getElem?_eq_getElem h]
  have hcl : ∀ t, t < c.length → ∃ n, n < nx.length ∧ c.getD t [] = cls nx n := fun t ht => by rw [hget t ht]; exact hc.cl _ (List.getElem_mem _)
  have hout : ∀ t, ¬ t < c.length → c.getD t [] = [] := fun t ht => by rw [List.getD_eq_getElem?_getD, List.getElem?_eq_none (by omega)]; rfl
  have hrng : ∀ i x, x ∈ c.getD i [] → 0 ≤ x ∧ x < (nx.length : Int) := fun i x hx => by
    by_cases h : i < c.length
    · obtain ⟨n, _, e⟩ := hcl i h
      rw [e] at hx
      obtain ⟨b, rfl, hb, _⟩ := mem_cls.1 hx
      omega
    · rw [hout i h] at hx; simp at hx
  have hdis : ∀ i j x, x ∈ c.getD i [] → x ∈ c.getD j [] → i = j := fun i j x hi hj => by
    have hlt : ∀ t, x ∈ c.getD t [] → t < c.length := fun t ht => by
      by_cases h : t < c.length
      · exact h
      · rw [hout t h] at ht; simp at ht
    have hd := List.pairwise_iff_getElem.1 hc.dis
    have h1 := hlt i hi
    have h2 := hlt j hj
    rw [hget i h1] at hi
    rw [hget j h2] at hj
    rcases Nat.lt_trichotomy i j with e | e | e
    · exact absurd hj (hd i j h1 h2 e x hi)
    · exact e
    · exact absurd hi (hd j i h2 h1 e x hj)
  have hrow : ∀ i, (c.getD i []).length ≤ nx.length := fun i => by
    by_cases h : i < c.length
    · obtain ⟨n, _, e⟩ := hcl i h
      exact nodup_len nx.length _ (by rw [e]; exact rising_nodup (cls_sorted nx n)) (fun x hx => hrng i x hx)
    · rw [hout i h]; simp
  refine ⟨⟨?_, fun i => by have := hrow i; omega, hrng, hdis⟩, fun a ha => ?_, hcl⟩
  · -- as many rows as nodes at most: their first nodes are several
    have hfirst : ∀ t, t < c.length → ∃ n : Nat, n < nx.length ∧ (n : Int) ∈ c.getD t [] := fun t ht => by
      obtain ⟨n, hn, e⟩ := hcl t ht
      exact ⟨n, hn, by rw [e]; exact cls_self hn⟩
    have hlen : c.length ≤ nx.length := by
      have key : ∀ m, m ≤ c.length → ∃ l : List Int, l.length = m ∧ l.Nodup ∧ ∀ x ∈ l, 0 ≤ x ∧ x < (nx.length : Int) ∧ ∃ t, t < m ∧ x ∈ c.getD t [] := by
        intro m
        induction m with
        | zero => intro _; exact ⟨[], rfl, .nil, by simp⟩
        | succ m ih =>
          intro hm
          obtain ⟨l, h1, h2, h3⟩ := ih (by omega)
          obtain ⟨n, h4, h5⟩ := hfirst m (by omega)
          refine ⟨(n : Int) :: l, by simp [h1], List.nodup_cons.2 ⟨fun e => ?_, h2⟩, fun x hx => ?_⟩
          · obtain ⟨_, _, t, ht, hx⟩ := h3 _ e
            have := hdis _ _ _ h5 hx
            omega
          · rcases List.mem_cons.1 hx with rfl | hx
            · exact ⟨by omega, by omega, m, by omega, h5⟩
            · obtain ⟨a1, a2, t, ht, a3⟩ := h3 x hx
              exact ⟨a1, a2, t, by omega, a3⟩
      obtain ⟨l, h1, h2, h3⟩ := key c.length (Nat.le_refl _)
      have := nodup_len nx.length l h2 (fun x hx => ⟨(h3 x hx).1, (h3 x hx).2.1⟩)
      omega
    omega
  · obtain ⟨x, hx, hax⟩ := hc.cov a ha
    obtain ⟨t, ht, e⟩ := List.mem_iff_getElem.1 hx
    exact ⟨t, ht, by rw [hget t ht, e]; exact hax⟩

/-- comp.Components: the classes, the least free one first. -/
theorem comps_ev (nx : List (List Int)) (hN : nx.length < 1048576) (hdeg : ∀ a : Nat, (nx.getD a []).length < 1048576) : ∃ k L, comp_Components.f k nx = some L ∧ Seq nx (fun _ => False) L := by
  obtain ⟨c, hf, hc⟩ := found_ok hN (fun a => by have := hdeg a; omega)
  obtain ⟨hp, hcov, hcl⟩ := classes_parts hN hc
  obtain ⟨k1, num, hn, hnum⟩ := numbers_ev hp hN
  have hex : ∀ t, ∃ r, t < c.length → ∃ k, comp_leads.f k nx c num (t : Int) = some r ∧ LeadsIs nx num (c.getD t []) (t : Int) r := fun t => by
    by_cases ht : t < c.length
    · obtain ⟨k, r, h1, h2⟩ := leads_ev hp ht hnum.len hdeg
      exact ⟨r, fun _ => ⟨k, h1, h2⟩⟩
    · exact ⟨[], fun h => absurd h ht⟩
  have hch := Classical.axiomOfChoice hex
  obtain ⟨ld, hld⟩ := hch
  obtain ⟨K, hK⟩ := all_rounds (P := fun t k => comp_leads.f k nx c num (t : Int) = some (ld t)) (fun t k j h hkj => at_rounds (comp_leads.mono nx c num (t : Int)) hkj h) c.length (fun t ht => by
    obtain ⟨k, h1, _⟩ := hld t ht
    exact ⟨k, h1⟩)
  have hI : IdsC nx c num ld := ⟨hN, hp, hcov, hcl, hnum, fun t ht => by obtain ⟨_, _, h2⟩ := hld t ht; exact h2⟩
  have hmany := hp.many
  obtain ⟨k2, r, h1, more, h2, h3, h4, h5⟩ := a_from hI hK (.zero (List.replicate c.length 0) (List.replicate c.length []) [] 0) ⟨by simp, by simp, by simp, by simp, fun k hk x => by
      have : (List.replicate c.length ([] : List Int)).getD k [] = [] := by simp [List.getD_eq_getElem?_getD, hk]
      rw [this]; simp, fun k hk => by
      have : (List.replicate c.length ([] : List Int)).getD k [] = [] := by simp [List.getD_eq_getElem?_getD, hk]
      rw [this]; exact .nil, by simp, .nil⟩
  rw [List.nil_append] at h2
  subst h2
  refine ⟨max k1 k2, r.map fun x => c.getD x.toNat [], ?_, by
    have : Uof c [] = fun _ => False := by funext a; apply propext; simp [Uof]
    rw [← this]; exact h5⟩
  unfold comp_Components.f comp_found.f
  rw [hf]
  simp only [Option.bind_some]
  unfold comp_ids.f
  rw [at_rounds (comp_numbers.mono c (nx.length : Int)) (Nat.le_max_left k1 k2) hn]
  simp only [Option.bind_some]
  rw [if_pos (by omega), if_pos (by omega), if_pos (by omega)]
  have h6 := at_rounds (g := fun j => aAt nx c num ld j (.zero (List.replicate c.length 0) (List.replicate c.length []) [] 0)) (fun j => (comp_ids.mono_l j).1 _ _ _ _ _ _ _ _) (Nat.le_max_right k1 k2) h1
  simp only [aAt] at h6
  rw [Int.toNat_natCast]
  simp only [Int.natCast_zero] at h6
  rw [h6]
  simp only [Option.bind_some]
  rw [if_pos ⟨h3, h4⟩]
  rfl
end Go.Proofs.Ytkgkhakjodlpgaa.C
