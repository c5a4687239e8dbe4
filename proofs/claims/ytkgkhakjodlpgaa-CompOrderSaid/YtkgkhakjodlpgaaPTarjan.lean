/- comp.found as a plain function finds the classes of nodes that reach one another (Tarjan's algorithm). -/
import Derived.Test.YtkgkhakjodlpgaaPFound
namespace Go.Proofs.Ytkgkhakjodlpgaa

/-- An edge of a graph. -/
def Ed (nx : List (List Int)) (a b : Nat) : Prop := a < nx.length ∧ b < nx.length ∧ (b : Int) ∈ nx.getD a []

inductive Rt (nx : List (List Int)) : Nat → Nat → Prop
  | refl (a : Nat) : Rt nx a a
  | step {a b c : Nat} : Rt nx a b → Ed nx b c → Rt nx a c

theorem Rt.edge {nx : List (List Int)} {a b : Nat} (h : Ed nx a b) : Rt nx a b := .step (.refl a) h
theorem Rt.trans {nx : List (List Int)} {a b c : Nat} (h : Rt nx a b) (h2 : Rt nx b c) : Rt nx a c := by
  induction h2 with
  | refl => exact h
  | step _ e ih => exact .step ih e
theorem Rt.closed {nx : List (List Int)} {S : Nat → Prop} {a b : Nat} (hS : ∀ a b, S a → Ed nx a b → S b) (h : Rt nx a b) (ha : S a) : S b := by
  induction h with
  | refl => exact ha
  | step _ e ih => exact hS _ _ ih e
theorem Rt.lt {nx : List (List Int)} {a b : Nat} (h : Rt nx a b) (ha : a < nx.length) : b < nx.length := h.closed (S := fun x => x < nx.length) (fun _ _ _ e => e.2.1) ha

theorem mem_afterL {nx : List (List Int)} {a : Nat} (ha : a < nx.length) {j : Int} : j ∈ afterL nx (a : Int) ↔ ∃ b : Nat, j = (b : Int) ∧ Ed nx a b := by
  unfold afterL
  rw [List.mem_filter, Int.toNat_natCast]
  simp only [Bool.and_eq_true, decide_eq_true_eq]
  constructor
  · rintro ⟨h1, h2, h3⟩
    obtain ⟨b, rfl⟩ := Int.eq_ofNat_of_zero_le h2
    exact ⟨b, rfl, ha, by omega, h1⟩
  · rintro ⟨b, rfl, h1, h2, h3⟩
    exact ⟨h3, by omega, by omega⟩

open Classical in
/-- The class of a node: those that it reaches, and that reach it, rising. -/
noncomputable def cls (nx : List (List Int)) (n : Nat) : List Int := ((List.range nx.length).filter fun b => decide (Rt nx n b ∧ Rt nx b n)).map fun (b : Nat) => (b : Int)

theorem mem_cls {nx : List (List Int)} {n : Nat} {x : Int} : x ∈ cls nx n ↔ ∃ b : Nat, x = (b : Int) ∧ b < nx.length ∧ Rt nx n b ∧ Rt nx b n := by
  unfold cls
  simp only [List.mem_map, List.mem_filter, List.mem_range, decide_eq_true_eq]
  constructor
  · rintro ⟨b, ⟨h1, h2⟩, rfl⟩; exact ⟨b, rfl, h1, h2⟩
  · rintro ⟨b, rfl, h1, h2⟩; exact ⟨b, ⟨h1, h2⟩, rfl⟩

theorem cls_sorted (nx : List (List Int)) (n : Nat) : (cls nx n).Pairwise (· < ·) := by
  unfold cls
  rw [List.pairwise_map]
  exact (List.Pairwise.filter _ List.pairwise_lt_range).imp (fun h => by omega)

/-- Two rising rows of the same numbers are one. -/
theorem rising_eq : ∀ {l m : List Int}, l.Pairwise (· < ·) → m.Pairwise (· < ·) → (∀ x, x ∈ l ↔ x ∈ m) → l = m
  | [], [], _, _, _ => rfl
  | [], y :: m, _, _, h => by have := (h y).2 (by simp); simp at this
  | x :: l, [], _, _, h => by have := (h x).1 (by simp); simp at this
  | x :: l, y :: m, hl, hm, h => by
    rw [List.pairwise_cons] at hl hm
    have e : x = y := by
      have h1 := (h x).1 (by simp)
      have h2 := (h y).2 (by simp)
      rw [List.mem_cons] at h1 h2
      rcases h1 with h1 | h1
      · exact h1
      · rcases h2 with h2 | h2
        · exact h2.symm
        · have := hm.1 x h1; have := hl.1 y h2; omega
    subst e
    congr 1
    refine rising_eq hl.2 hm.2 (fun z => ?_)
    have := h z
    simp only [List.mem_cons] at this
    constructor
    · intro hz
      rcases this.1 (.inr hz) with h1 | h1
      · have := hl.1 z hz; omega
      · exact h1
    · intro hz
      rcases this.2 (.inr hz) with h1 | h1
      · have := hm.1 z hz; omega
      · exact h1

theorem sortL_rising {l : List Int} (h : l.Nodup) : (sortL l).Pairwise (· < ·) := by
  have hp : (sortL l).Perm l := List.mergeSort_perm l _
  have hs : (sortL l).Pairwise (fun a b => decide (a ≤ b) = true) := List.pairwise_mergeSort (fun a b c h1 h2 => by simp at *; omega) (fun a b => by simp; omega) l
  have hn : (sortL l).Nodup := hp.nodup_iff.2 h
  have := hs.and hn
  exact this.imp (fun ⟨h1, h2⟩ => by simp at h1; omega)
theorem mem_sortL {l : List Int} {x : Int} : x ∈ sortL l ↔ x ∈ l := (List.mergeSort_perm l _).mem_iff

theorem getD_set' {α : Type} (l : List α) (i a : Nat) (v d : α) : (l.set i v).getD a d = if i = a ∧ i < l.length then v else l.getD a d := by
  simp only [List.getD_eq_getElem?_getD, List.getElem?_set]
  by_cases e : i = a
  · subst e
    by_cases h : i < l.length
    · simp [h]
    · simp [h]
  · simp [e]

def num (T : TS) (a : Nat) : Int := T.number.getD a 0
def lowv (T : TS) (a : Nat) : Int := T.low.getD a 0

structure Inv (nx : List (List Int)) (gr : List Nat) (T : TS) : Prop where
  ln : T.number.length = nx.length
  ll : T.low.length = nx.length
  lm : T.on.length = nx.length
  num0 : ∀ a, 0 ≤ num T a ∧ num T a ≤ T.count
  inj : ∀ a b, num T a ≠ 0 → num T a = num T b → a = b
  onb : ∀ a, a < nx.length → (T.on.getD a false = true ↔ (a : Int) ∈ T.stack)
  sin : ∀ x ∈ T.stack, ∃ a : Nat, x = (a : Int) ∧ a < nx.length ∧ num T a ≠ 0
  srt : T.stack.Pairwise (fun x y => num T x.toNat < num T y.toNat)
  grs : ∀ g ∈ gr, (g : Int) ∈ T.stack
  gst : ∀ g ∈ gr, ∀ y : Nat, (y : Int) ∈ T.stack → num T g ≤ num T y → Rt nx g y
  wit : ∀ y : Nat, (y : Int) ∈ T.stack → ∃ g ∈ gr, num T g ≤ num T y ∧ Rt nx y g
  blk : ∀ a b, num T a ≠ 0 → a ∉ gr → Ed nx a b → num T b ≠ 0
  don : ∀ a b, num T a ≠ 0 → (a : Int) ∉ T.stack → Ed nx a b → num T b ≠ 0 ∧ (b : Int) ∉ T.stack
  outs : ∀ c ∈ T.out, ∃ m, m < nx.length ∧ num T m ≠ 0 ∧ (m : Int) ∉ T.stack ∧ c = cls nx m
  cov : ∀ a, num T a ≠ 0 → (a : Int) ∉ T.stack → ∃ c ∈ T.out, (a : Int) ∈ c
  dis : T.out.Pairwise (fun c d => ∀ x, x ∈ c → x ∉ d)
  bnd : (T.out.length : Int) + T.stack.length ≤ T.count
  zer : T.count + (T.number.count 0 : Nat) = nx.length

theorem Inv.lt {nx : List (List Int)} {gr : List Nat} {T : TS} (h : Inv nx gr T) {a : Nat} (ha : num T a ≠ 0) : a < nx.length := by
  rcases Nat.lt_or_ge a nx.length with h1 | h1
  · exact h1
  · exfalso; apply ha; unfold num; rw [List.getD_eq_getElem?_getD, List.getElem?_eq_none (by rw [h.ln]; exact h1)]; rfl

theorem Inv.nodup {nx : List (List Int)} {gr : List Nat} {T : TS} (h : Inv nx gr T) : T.stack.Nodup := h.srt.imp (fun {x y} hxy e => by subst e; omega)

/-- What a call has done: n is visited, and all that was before it stands. -/
structure VP (nx : List (List Int)) (gr : List Nat) (T : TS) (n : Nat) (T' : TS) : Prop where
  inv : Inv nx gr T'
  stk : ∃ s, T'.stack = T.stack ++ s ∧ ∀ a : Nat, (a : Int) ∈ s → ∀ y : Nat, (y : Int) ∈ T.stack → Ed nx a y → lowv T' n ≤ num T' y
  fnum : ∀ a, num T a ≠ 0 → num T' a = num T a
  flow : ∀ a, num T a ≠ 0 → lowv T' a = lowv T a
  vis : T.count < num T' n
  cas : lowv T' n = num T' n ∨ (lowv T' n < num T' n ∧ ∃ y : Nat, (y : Int) ∈ T.stack ∧ num T y = lowv T' n ∧ Rt nx n y)
  cnt : T.count ≤ T'.count

/-- In the midst of a call on n: p tells which successors are done. -/
structure LI (nx : List (List Int)) (gr : List Nat) (T : TS) (n : Nat) (p : Nat → Prop) (Tr : TS) : Prop where
  inv : Inv nx (n :: gr) Tr
  stk : ∃ s, Tr.stack = T.stack ++ (n : Int) :: s ∧ ∀ a : Nat, (a : Int) ∈ s → ∀ y : Nat, (y : Int) ∈ T.stack → Ed nx a y → lowv Tr n ≤ num Tr y
  fnum : ∀ a, num T a ≠ 0 → num Tr a = num T a
  flow : ∀ a, num T a ≠ 0 → lowv Tr a = lowv T a
  nn : num Tr n = T.count + 1
  cas : lowv Tr n = num Tr n ∨ (lowv Tr n < num Tr n ∧ ∃ y : Nat, (y : Int) ∈ T.stack ∧ num T y = lowv Tr n ∧ Rt nx n y)
  don : ∀ b, p b → num Tr b ≠ 0 ∧ ((b : Int) ∈ T.stack → lowv Tr n ≤ num Tr b)
  cnt : T.count + 1 ≤ Tr.count

theorem LI.le {nx : List (List Int)} {gr : List Nat} {T Tr : TS} {n : Nat} {p : Nat → Prop} (h : LI nx gr T n p Tr) : lowv Tr n ≤ num Tr n := by
  rcases h.cas with h1 | h1
  · omega
  · omega

theorem num_open {nx : List (List Int)} {gr : List Nat} {T : TS} {n : Nat} (h : Inv nx gr T) (hn : n < nx.length) (a : Nat) : num (openF (n : Int) T) a = if n = a then T.count + 1 else num T a := by
  unfold num openF
  simp only [Int.toNat_natCast, getD_set']
  by_cases e : n = a
  · rw [if_pos ⟨e, by rw [h.ln]; exact hn⟩, if_pos e]
  · rw [if_neg (fun h => e h.1), if_neg e]
theorem low_open {nx : List (List Int)} {gr : List Nat} {T : TS} {n : Nat} (h : Inv nx gr T) (hn : n < nx.length) (a : Nat) : lowv (openF (n : Int) T) a = if n = a then T.count + 1 else lowv T a := by
  unfold lowv openF
  simp only [Int.toNat_natCast, getD_set']
  by_cases e : n = a
  · rw [if_pos ⟨e, by rw [h.ll]; exact hn⟩, if_pos e]
  · rw [if_neg (fun h => e h.1), if_neg e]

theorem count_set_zero {l : List Int} {i : Nat} {v : Int} (hi : i < l.length) (h0 : l.getD i 0 = 0) (hv : v ≠ 0) : (l.set i v).count 0 + 1 = l.count 0 := by
  have h1 : l[i] = 0 := by rw [List.getD_eq_getElem?_getD, List.getElem?_eq_getElem hi] at h0; exact h0
  rw [List.count_set hi, h1]
  have : 0 < l.count 0 := List.count_pos_iff.2 (by rw [← h1]; exact List.getElem_mem hi)
  simp [hv]
  omega

theorem open_ok {nx : List (List Int)} {gr : List Nat} {T : TS} {n : Nat} (h : Inv nx gr T) (hn : n < nx.length) (h0 : num T n = 0) (hr : ∀ g ∈ gr, Rt nx g n) : LI nx gr T n (fun _ => False) (openF (n : Int) T) := by
  have hnum := num_open h hn
  have hlow := low_open h hn
  have hnst : ∀ a : Nat, (a : Int) ∈ T.stack → num T a ≠ 0 ∧ a ≠ n := fun a ha => by
    obtain ⟨b, hb, h1, h2⟩ := h.sin _ ha
    have : a = b := by omega
    subst this
    exact ⟨h2, fun e => by subst e; exact h2 h0⟩
  have hc0 : 0 ≤ T.count := by have := h.num0 0; omega
  have hst : (openF (n : Int) T).stack = T.stack ++ [(n : Int)] := rfl
  have hcn : (openF (n : Int) T).count = T.count + 1 := rfl
  have hout : (openF (n : Int) T).out = T.out := rfl
  have hmem : ∀ x : Int, x ∈ (openF (n : Int) T).stack ↔ x ∈ T.stack ∨ x = (n : Int) := fun x => by rw [hst]; simp
  refine ⟨⟨?_, ?_, ?_, ?_, ?_, ?_, ?_, ?_, ?_, ?_, ?_, ?_, ?_, ?_, ?_, ?_, ?_, ?_⟩, ⟨[], by rw [hst], fun a ha => by simp at ha⟩, ?_, ?_, ?_, ?_, fun _ hf => hf.elim, by rw [hcn]; omega⟩
  · simp [openF, h.ln]
  · simp [openF, h.ll]
  · simp [openF, h.lm]
  · intro a; rw [hnum, hcn]; have := h.num0 a; split <;> omega
  · intro a b; rw [hnum, hnum]
    intro h1 h2
    by_cases e1 : n = a
    · by_cases e2 : n = b
      · omega
      · rw [if_pos e1, if_neg e2] at h2; have := h.num0 b; omega
    · by_cases e2 : n = b
      · rw [if_neg e1, if_pos e2] at h2; have := h.num0 a; omega
      · rw [if_neg e1] at h1 h2; rw [if_neg e2] at h2; exact h.inj a b h1 h2
  · intro a ha
    rw [hmem]
    unfold openF
    simp only [Int.toNat_natCast, getD_set']
    by_cases e : n = a
    · subst e; rw [if_pos ⟨rfl, by rw [h.lm]; exact hn⟩]; simp
    · rw [if_neg (fun h => e h.1), h.onb a ha]
      constructor
      · exact .inl
      · rintro (h1 | h1)
        · exact h1
        · omega
  · intro x hx
    rw [hmem] at hx
    rcases hx with hx | hx
    · obtain ⟨a, rfl, h1, h2⟩ := h.sin x hx
      exact ⟨a, rfl, h1, by rw [hnum, if_neg (fun e => (hnst a hx).2 e.symm)]; exact h2⟩
    · exact ⟨n, hx, hn, by rw [hnum, if_pos rfl]; omega⟩
  · rw [hst, List.pairwise_append]
    refine ⟨h.srt.imp_of_mem (fun {x y} hx hy hxy => ?_), by simp, fun x hx y hy => ?_⟩
    · obtain ⟨a, rfl, _⟩ := h.sin x hx
      obtain ⟨b, rfl, _⟩ := h.sin y hy
      rw [Int.toNat_natCast, Int.toNat_natCast] at *
      rw [hnum, hnum, if_neg (fun e => (hnst a hx).2 e.symm), if_neg (fun e => (hnst b hy).2 e.symm)]; exact hxy
    · have : y = (n : Int) := by simpa using hy
      subst this
      obtain ⟨a, rfl, _⟩ := h.sin x hx
      rw [Int.toNat_natCast, Int.toNat_natCast, hnum, hnum, if_neg (fun e => (hnst a hx).2 e.symm), if_pos rfl]
      have := h.num0 a; omega
  · intro g hg
    rw [hmem]
    rcases List.mem_cons.1 hg with rfl | hg
    · exact .inr rfl
    · exact .inl (h.grs g hg)
  · intro g hg y hy hle
    rw [hmem] at hy
    rw [hnum, hnum] at hle
    rcases List.mem_cons.1 hg with rfl | hgg
    · rcases hy with hy | hy
      · rw [if_pos rfl, if_neg (fun e => (hnst y hy).2 e.symm)] at hle
        have := h.num0 y; omega
      · have : y = g := by omega
        subst this; exact .refl _
    · rcases hy with hy | hy
      · rw [if_neg (fun e => (hnst g (h.grs g hgg)).2 e.symm), if_neg (fun e => (hnst y hy).2 e.symm)] at hle
        exact h.gst g hgg y hy hle
      · have : y = n := by omega
        subst this; exact hr g hgg
  · intro y hy
    rw [hmem] at hy
    rcases hy with hy | hy
    · obtain ⟨g, hg, h1, h2⟩ := h.wit y hy
      exact ⟨g, List.mem_cons_of_mem _ hg, by rw [hnum, hnum, if_neg (fun e => (hnst g (h.grs g hg)).2 e.symm), if_neg (fun e => (hnst y hy).2 e.symm)]; exact h1, h2⟩
    · have : y = n := by omega
      subst this
      exact ⟨y, List.mem_cons_self, by omega, .refl _⟩
  · intro a b ha hng he
    rw [hnum] at ha ⊢
    have hna : n ≠ a := fun e => hng (by rw [e]; exact List.mem_cons_self)
    rw [if_neg hna] at ha
    have := h.blk a b ha (fun hg => hng (List.mem_cons_of_mem _ hg)) he
    split
    · omega
    · exact this
  · intro a b ha hns he
    rw [hnum] at ha
    rw [hmem] at hns
    have hna : n ≠ a := fun e => hns (.inr (by rw [e]))
    rw [if_neg hna] at ha
    obtain ⟨h1, h2⟩ := h.don a b ha (fun hs => hns (.inl hs)) he
    have hnb : n ≠ b := fun e => by subst e; exact h1 h0
    rw [hnum, if_neg hnb, hmem]
    exact ⟨h1, fun hs => hs.elim h2 (fun e => hnb (by omega))⟩
  · intro c hc
    rw [hout] at hc
    obtain ⟨m, h1, h2, h3, h4⟩ := h.outs c hc
    have hnm : n ≠ m := fun e => by subst e; exact h2 h0
    exact ⟨m, h1, by rw [hnum, if_neg hnm]; exact h2, by rw [hmem]; exact fun hs => hs.elim h3 (fun e => hnm (by omega)), h4⟩
  · intro a ha hns
    rw [hnum] at ha
    rw [hmem] at hns
    have hna : n ≠ a := fun e => hns (.inr (by rw [e]))
    rw [if_neg hna] at ha
    rw [hout]
    exact h.cov a ha (fun hs => hns (.inl hs))
  · rw [hout]; exact h.dis
  · rw [hout, hcn, hst]; have := h.bnd; simp; omega
  · rw [hcn]
    have h1 : (openF (n : Int) T).number.count 0 + 1 = T.number.count 0 := by
      unfold openF; simp only [Int.toNat_natCast]
      exact count_set_zero (by rw [h.ln]; exact hn) h0 (by omega)
    have := h.zer
    omega
  · intro a ha; rw [hnum, if_neg (fun e => by subst e; exact ha h0)]
  · intro a ha; rw [hlow, if_neg (fun e => by subst e; exact ha h0)]
  · rw [hnum, if_pos rfl]
  · left; rw [hnum, hlow, if_pos rfl, if_pos rfl]
end Go.Proofs.Ytkgkhakjodlpgaa

/-! Its walk. -/
namespace Go.Proofs.Ytkgkhakjodlpgaa

variable {nx : List (List Int)} {gr : List Nat} {T Tr T4 : TS} {n b : Nat} {p : Nat → Prop}

theorem Inv.lowered (h : Inv nx gr T) (l : List Int) (hl : l.length = nx.length) : Inv nx gr { T with low := l } :=
  ⟨h.ln, hl, h.lm, h.num0, h.inj, h.onb, h.sin, h.srt, h.grs, h.gst, h.wit, h.blk, h.don, h.outs, h.cov, h.dis, h.bnd, h.zer⟩

/-- What lies below n on the stack was there before. -/
theorem LI.under (h : LI nx gr T n p Tr) {y : Nat} (hy : (y : Int) ∈ Tr.stack) (hlt : num Tr y < num Tr n) : (y : Int) ∈ T.stack := by
  obtain ⟨s, hs, _⟩ := h.stk
  have hsrt := h.inv.srt
  rw [hs] at hy hsrt
  rw [List.pairwise_append, List.pairwise_cons] at hsrt
  rcases List.mem_append.1 hy with hy | hy
  · exact hy
  · rcases List.mem_cons.1 hy with hy | hy
    · have : y = n := by omega
      subst this; omega
    · have := hsrt.2.1.1 _ hy
      rw [Int.toNat_natCast, Int.toNat_natCast] at this; omega

theorem LI.above (h : LI nx gr T n p Tr) {y : Nat} (hy : (y : Int) ∈ T.stack) : num Tr y < num Tr n ∧ (y : Int) ∈ Tr.stack := by
  obtain ⟨s, hs, _⟩ := h.stk
  have hsrt := h.inv.srt
  rw [hs] at hsrt ⊢
  rw [List.pairwise_append] at hsrt
  have := hsrt.2.2 _ hy (n : Int) (by simp)
  rw [Int.toNat_natCast, Int.toNat_natCast] at this
  exact ⟨this, List.mem_append_left _ hy⟩

theorem LI.lower (h : LI nx gr T n p Tr) (h0 : num T n = 0) (hn : n < nx.length) (v : Int) (hv : v ≤ lowv Tr n) (hc : v = lowv Tr n ∨ (v < num Tr n ∧ ∃ y : Nat, (y : Int) ∈ T.stack ∧ num T y = v ∧ Rt nx n y))
    (hb : num Tr b ≠ 0 ∧ ((b : Int) ∈ T.stack → v ≤ num Tr b)) : LI nx gr T n (fun x => p x ∨ x = b) { Tr with low := Tr.low.set n v } := by
  have hlow : ∀ a, lowv { Tr with low := Tr.low.set n v } a = if n = a then v else lowv Tr a := fun a => by
    unfold lowv
    simp only [getD_set']
    by_cases e : n = a
    · rw [if_pos ⟨e, by rw [h.inv.ll]; exact hn⟩, if_pos e]
    · rw [if_neg (fun h => e h.1), if_neg e]
  obtain ⟨s, hs, hs2⟩ := h.stk
  refine ⟨h.inv.lowered _ (by rw [List.length_set]; exact h.inv.ll), ⟨s, hs, fun a ha y hy he => ?_⟩, h.fnum, fun a ha => ?_, h.nn, ?_, fun x hx => ?_, h.cnt⟩
  · rw [hlow, if_pos rfl]; exact Int.le_trans hv (hs2 a ha y hy he)
  · rw [hlow, if_neg (fun e => by subst e; exact ha h0)]; exact h.flow a ha
  · rw [hlow, if_pos rfl]
    rcases hc with hc | hc
    · rw [hc]; exact h.cas
    · exact .inr hc
  · rw [hlow, if_pos rfl]
    rcases hx with hx | rfl
    · exact ⟨(h.don x hx).1, fun hm => Int.le_trans hv ((h.don x hx).2 hm)⟩
    · exact hb

theorem LI.visit (h : LI nx gr T n p Tr) (hT : Inv nx gr T) (h0 : num T n = 0) (hn : n < nx.length) (he : Ed nx n b) (hb0 : num Tr b = 0) (hv : VP nx (n :: gr) Tr b T4) :
    LI nx gr T n (fun x => p x ∨ x = b) { T4 with low := T4.low.set n (min (lowv T4 n) (lowv T4 b)) } := by
  have hc0 : 0 ≤ T.count := by have := hT.num0 0; omega
  have hnn : num Tr n ≠ 0 := by rw [h.nn]; omega
  have e1 : num T4 n = num Tr n := hv.fnum n hnn
  have e2 : lowv T4 n = lowv Tr n := hv.flow n hnn
  have hT' : ∀ a, num T a ≠ 0 → num Tr a ≠ 0 := fun a ha => by rw [h.fnum a ha]; exact ha
  obtain ⟨s, hs, hs2⟩ := h.stk
  obtain ⟨s', hs', hs2'⟩ := hv.stk
  have hvis : ∀ y : Nat, (y : Int) ∈ T.stack → num T y ≠ 0 := fun y hy => by
    obtain ⟨z, hz, _, h2⟩ := hT.sin _ hy
    have : y = z := by omega
    subst this; exact h2
  obtain ⟨v, hvv⟩ : ∃ v, min (lowv T4 n) (lowv T4 b) = v := ⟨_, rfl⟩
  rw [hvv]
  have hv1 : v ≤ lowv Tr n := by rw [← e2]; omega
  have hv2 : v ≤ lowv T4 b := by omega
  have hlow : ∀ a, lowv { T4 with low := T4.low.set n v } a = if n = a then v else lowv T4 a := fun a => by
    unfold lowv
    simp only [getD_set']
    by_cases e : n = a
    · rw [if_pos ⟨e, by rw [hv.inv.ll]; exact hn⟩, if_pos e]
    · rw [if_neg (fun h => e h.1), if_neg e]
  have hnum : ∀ a, num { T4 with low := T4.low.set n v } a = num T4 a := fun a => rfl
  refine ⟨hv.inv.lowered _ (by rw [List.length_set]; exact hv.inv.ll), ⟨s ++ s', by rw [hs', hs]; simp, fun a ha y hy hay => ?_⟩, fun a ha => (hv.fnum a (hT' a ha)).trans (h.fnum a ha), fun a ha => ?_, e1.trans h.nn, ?_, fun x hx => ?_, Int.le_trans h.cnt hv.cnt⟩
  · rw [hlow, if_pos rfl, hnum]
    rcases List.mem_append.1 ha with ha | ha
    · rw [hv.fnum y (hT' y (hvis y hy))]; exact Int.le_trans hv1 (hs2 a ha y hy hay)
    · exact Int.le_trans hv2 (hs2' a ha y (h.above hy).2 hay)
  · rw [hlow, if_neg (fun e => by subst e; exact ha h0)]
    exact (hv.flow a (hT' a ha)).trans (h.flow a ha)
  · rw [hlow, if_pos rfl, hnum, e1]
    by_cases hle : lowv T4 n ≤ lowv T4 b
    · have : v = lowv Tr n := by rw [← e2]; omega
      rw [this]; exact h.cas
    · right
      have hvb : v = lowv T4 b := by omega
      have hnl := h.le
      have hcn : num Tr n ≤ Tr.count := (h.inv.num0 n).2
      rcases hv.cas with hc | ⟨_, y, hy, hyn, hyr⟩
      · have := hv.vis; omega
      · have hlt : num Tr y < num Tr n := by omega
        have hyT := h.under hy hlt
        exact ⟨by omega, y, hyT, by rw [← h.fnum y (hvis y hyT)]; omega, (Rt.edge he).trans hyr⟩
  · rw [hlow, if_pos rfl, hnum]
    rcases hx with hx | rfl
    · have h1 := h.don x hx
      rw [hv.fnum x h1.1]
      exact ⟨h1.1, fun hm => Int.le_trans hv1 (h1.2 hm)⟩
    · refine ⟨?_, fun hm => absurd hb0 (hT' x (hvis x hm))⟩
      have := hv.vis; have := (h.inv.num0 n).2; have := h.nn; omega

/-- What one successor does to a call. -/
theorem step_ok (k : Nat) (v : TS → Int → Option TS) (hv : ∀ (Tr : TS) (b : Nat), Inv nx (n :: gr) Tr → b < nx.length → num Tr b = 0 → (∀ g ∈ n :: gr, Rt nx g b) → Tr.number.count 0 ≤ k → ∃ T4, v Tr b = some T4 ∧ VP nx (n :: gr) Tr b T4)
    (h : LI nx gr T n p Tr) (hT : Inv nx gr T) (h0 : num T n = 0) (hn : n < nx.length) (hr : ∀ g ∈ gr, Rt nx g n) (he : Ed nx n b) (hk : Tr.number.count 0 ≤ k) :
    ∃ T3, stepF v nx.length (n : Int) Tr (b : Int) = some T3 ∧ LI nx gr T n (fun x => p x ∨ x = b) T3 ∧ T3.number.count 0 ≤ k := by
  have hbl : b < nx.length := he.2.1
  have zle : ∀ T3 : TS, LI nx gr T n (fun x => p x ∨ x = b) T3 → Tr.count ≤ T3.count → T3.number.count 0 ≤ k := fun T3 h3 hc => by
    have := h3.inv.zer; have := h.inv.zer; omega
  unfold stepF
  rw [if_pos ⟨by omega, by omega⟩]
  simp only [Int.toNat_natCast]
  by_cases hb0 : num Tr b = 0
  · rw [if_pos (show Tr.number.getD b 0 = 0 from hb0)]
    have hrb : ∀ g ∈ n :: gr, Rt nx g b := fun g hg => by
      rcases List.mem_cons.1 hg with rfl | hg
      · exact Rt.edge he
      · exact (hr g hg).trans (Rt.edge he)
    obtain ⟨T4, e4, hv4⟩ := hv Tr b h.inv hbl hb0 hrb hk
    rw [e4]
    have hL := h.visit hT h0 hn he hb0 hv4
    exact ⟨_, rfl, hL, zle _ hL hv4.cnt⟩
  · rw [if_neg (show ¬ Tr.number.getD b 0 = 0 from hb0)]
    by_cases hon : Tr.on.getD b false = true
    · rw [if_pos hon]
      have hst : (b : Int) ∈ Tr.stack := (h.inv.onb b hbl).1 hon
      have hL : LI nx gr T n (fun x => p x ∨ x = b) { Tr with low := Tr.low.set n (min (lowv Tr n) (num Tr b)) } := by
        refine h.lower h0 hn _ (by omega) ?_ ⟨hb0, fun _ => by omega⟩
        by_cases hle : lowv Tr n ≤ num Tr b
        · left; omega
        · right
          have hnl := h.le
          have hbT := h.under hst (by omega)
          obtain ⟨z, hz, _, h2⟩ := hT.sin _ hbT
          have : b = z := by omega
          subst this
          exact ⟨by omega, b, hbT, by rw [← h.fnum b h2]; omega, Rt.edge he⟩
      exact ⟨_, rfl, hL, zle _ hL (Int.le_refl _)⟩
    · rw [if_neg hon]
      have hst : (b : Int) ∉ Tr.stack := fun hs => hon ((h.inv.onb b hbl).2 hs)
      have hL : LI nx gr T n (fun x => p x ∨ x = b) Tr := ⟨h.inv, h.stk, h.fnum, h.flow, h.nn, h.cas, fun x hx => by
        rcases hx with hx | rfl
        · exact h.don x hx
        · exact ⟨hb0, fun hm => absurd (h.above hm).2 hst⟩, h.cnt⟩
      exact ⟨_, rfl, hL, zle _ hL (Int.le_refl _)⟩

theorem each_ok (k : Nat) (v : TS → Int → Option TS) (hv : ∀ (Tr : TS) (b : Nat), Inv nx (n :: gr) Tr → b < nx.length → num Tr b = 0 → (∀ g ∈ n :: gr, Rt nx g b) → Tr.number.count 0 ≤ k → ∃ T4, v Tr b = some T4 ∧ VP nx (n :: gr) Tr b T4)
    (hT : Inv nx gr T) (h0 : num T n = 0) (hn : n < nx.length) (hr : ∀ g ∈ gr, Rt nx g n) : ∀ (js : List Int) (p : Nat → Prop) (Tr : TS), LI nx gr T n p Tr → Tr.number.count 0 ≤ k → (∀ j ∈ js, ∃ b : Nat, j = (b : Int) ∧ Ed nx n b) →
    ∃ T2, eachF v nx.length (n : Int) Tr js = some T2 ∧ LI nx gr T n (fun x => p x ∨ (x : Int) ∈ js) T2
  | [], p, Tr, h, _, _ => ⟨Tr, rfl, ⟨h.inv, h.stk, h.fnum, h.flow, h.nn, h.cas, fun x hx => h.don x (hx.elim id (fun hm => by simp at hm)), h.cnt⟩⟩
  | j :: js, p, Tr, h, hk, hj => by
    obtain ⟨b, rfl, he⟩ := hj j (by simp)
    obtain ⟨T3, e3, h3, hk3⟩ := step_ok k v hv h hT h0 hn hr he hk
    obtain ⟨T2, e2, h2⟩ := each_ok k v hv hT h0 hn hr js _ T3 h3 hk3 (fun j' hj' => hj j' (by simp [hj']))
    refine ⟨T2, by unfold eachF; rw [e3]; exact e2, ⟨h2.inv, h2.stk, h2.fnum, h2.flow, h2.nn, h2.cas, fun x hx => h2.don x ?_, h2.cnt⟩⟩
    rcases hx with hx | hx
    · exact .inl (.inl hx)
    · rcases List.mem_cons.1 hx with hx | hx
      · exact .inl (.inr (by omega))
      · exact .inr hx

theorem off_get : ∀ (c : List Int) (on : List Bool) (a : Nat), (∀ x ∈ c, ∃ b : Nat, x = (b : Int) ∧ b < on.length) → (offF on c).getD a false = (decide ((a : Int) ∉ c) && on.getD a false)
  | [], on, a, _ => by simp [offF]
  | x :: c, on, a, h => by
    obtain ⟨b, rfl, hb⟩ := h x (by simp)
    have ih := off_get c (on.set b false) a (fun y hy => by rw [List.length_set]; exact h y (by simp [hy]))
    have e : offF on ((b : Int) :: c) = offF (on.set b false) c := rfl
    rw [e, ih, getD_set']
    by_cases hab : b = a
    · subst hab; rw [if_pos ⟨rfl, hb⟩]; simp
    · rw [if_neg (fun h => hab h.1)]
      have : ((a : Int) ∉ (b : Int) :: c) ↔ (a : Int) ∉ c := by
        simp only [List.mem_cons, not_or]
        exact ⟨fun h => h.2, fun h => ⟨by omega, h⟩⟩
      rw [decide_eq_decide.2 this]
theorem off_len : ∀ (c : List Int) (on : List Bool), (offF on c).length = on.length
  | [], _ => rfl
  | x :: c, on => by
    have e : offF on (x :: c) = offF (on.set x.toNat false) c := rfl
    rw [e, off_len c, List.length_set]

theorem close_ok {T2 : TS} (h : LI nx gr T n p T2) (hp : ∀ b, Ed nx n b → p b) (hT : Inv nx gr T) (h0 : num T n = 0) (hn : n < nx.length) (hr : ∀ g ∈ gr, Rt nx g n) (hN : nx.length < 1048576) :
    ∃ T', closeF nx.length (n : Int) T2 = some T' ∧ VP nx gr T n T' := by
  have I := h.inv
  have hc0 : 0 ≤ T.count := by have := hT.num0 0; omega
  obtain ⟨s, hs, hs2⟩ := h.stk
  have hvis : ∀ y : Nat, (y : Int) ∈ T.stack → num T y ≠ 0 := fun y hy => by
    obtain ⟨z, hz, _, h2⟩ := hT.sin _ hy
    have : y = z := by omega
    subst this; exact h2
  have hnd := I.nodup
  rw [hs] at hnd
  have hnT : (n : Int) ∉ T.stack := fun hm => hvis n hm h0
  have hnn : num T2 n ≠ 0 := by rw [h.nn]; omega
  have hn2 : (n : Int) ∈ T2.stack := by rw [hs]; simp
  have hgr : ∀ g ∈ gr, g ≠ n := fun g hg e => hnT (by rw [← e]; exact hT.grs g hg)
  -- what a node of n's part leads to
  have hlead : ∀ a b : Nat, (a : Int) ∈ (n : Int) :: s → Ed nx a b → num T2 b ≠ 0 ∧ ((b : Int) ∈ T.stack → lowv T2 n ≤ num T2 b) := fun a b ha he => by
    rcases List.mem_cons.1 ha with ha' | ha'
    · have : a = n := by omega
      subst this; exact h.don b (hp b he)
    · have hav : num T2 a ≠ 0 := by
        obtain ⟨z, hz, _, h2⟩ := I.sin (a : Int) (by rw [hs]; exact List.mem_append_right _ ha)
        have : a = z := by omega
        subst this; exact h2
      have hag : a ∉ n :: gr := fun hm => by
        rw [List.nodup_append] at hnd
        rcases List.mem_cons.1 hm with e | hm
        · subst e
          have := hnd.2.1
          rw [List.nodup_cons] at this
          exact this.1 ha'
        · exact hnd.2.2 _ (hT.grs a hm) _ ha rfl
      exact ⟨I.blk a b hav hag he, fun hb => hs2 a ha' b hb he⟩
  have hblk : ∀ a b, num T2 a ≠ 0 → a ∉ gr → Ed nx a b → num T2 b ≠ 0 := fun a b ha hg he => by
    by_cases e : a = n
    · subst e; exact (hlead a b (by simp) he).1
    · exact I.blk a b ha (fun hm => (List.mem_cons.1 hm).elim e hg) he
  unfold closeF
  simp only [Int.toNat_natCast]
  by_cases hne : lowv T2 n ≠ num T2 n
  · rw [if_pos (show T2.low.getD n 0 ≠ T2.number.getD n 0 from hne)]
    have hcas : lowv T2 n < num T2 n ∧ ∃ y : Nat, (y : Int) ∈ T.stack ∧ num T y = lowv T2 n ∧ Rt nx n y := h.cas.resolve_left hne
    refine ⟨T2, rfl, ⟨⟨I.ln, I.ll, I.lm, I.num0, I.inj, I.onb, I.sin, I.srt, fun g hg => I.grs g (List.mem_cons_of_mem _ hg), fun g hg => I.gst g (List.mem_cons_of_mem _ hg), fun y hy => ?_, hblk, I.don, I.outs, I.cov, I.dis, I.bnd, I.zer⟩, ⟨(n : Int) :: s, hs, fun a ha y hy he => (hlead a y ha he).2 hy⟩, h.fnum, h.flow, by rw [h.nn]; omega, .inr hcas, by have := h.cnt; omega⟩⟩
    obtain ⟨g, hg, g1, g2⟩ := I.wit y hy
    rcases List.mem_cons.1 hg with e | hg
    · subst e
      obtain ⟨hlt, z, hz, hzn, hzr⟩ := hcas
      obtain ⟨g', hg', k1, k2⟩ := hT.wit z hz
      have e1 := h.fnum g' (hvis g' (hT.grs g' hg'))
      exact ⟨g', hg', by omega, (g2.trans hzr).trans k2⟩
    · exact ⟨g, hg, g1, g2⟩
  · rw [if_neg (show ¬ T2.low.getD n 0 ≠ T2.number.getD n 0 from hne)]
    have heq : lowv T2 n = num T2 n := by simpa using hne
    have hix : T2.stack.idxOf (n : Int) = T.stack.length := by
      rw [hs, List.idxOf_append, if_neg hnT, List.idxOf_cons_self]; omega
    have hdr : T2.stack.drop T.stack.length = (n : Int) :: s := by rw [hs, List.drop_left]
    have htk : T2.stack.take T.stack.length = T.stack := by rw [hs, List.take_left]
    have hcin : ∀ x ∈ (n : Int) :: s, ∃ b : Nat, x = (b : Int) ∧ b < nx.length ∧ num T2 b ≠ 0 := fun x hx => I.sin x (by rw [hs]; exact List.mem_append_right _ hx)
    have hbnd := I.bnd
    have hlen : T2.stack.length = T.stack.length + s.length + 1 := by rw [hs]; simp; omega
    have hcl : T2.count ≤ nx.length := by have := I.zer; omega
    rw [hix, hdr, htk, if_pos ⟨hn2, fun j hj => by obtain ⟨b, rfl, hb, _⟩ := hcin j hj; omega, by omega, by omega⟩]
    rw [List.nodup_append] at hnd
    -- nothing that is done, or in n's part, leads out of these
    have hcl2 : ∀ a b, num T2 a ≠ 0 → (a : Int) ∉ T.stack → Ed nx a b → num T2 b ≠ 0 ∧ (b : Int) ∉ T.stack := fun a b ha hns he => by
      by_cases hc : (a : Int) ∈ (n : Int) :: s
      · obtain ⟨h1, h2⟩ := hlead a b hc he
        exact ⟨h1, fun hb => by have := h2 hb; have := (h.above hb).1; omega⟩
      · obtain ⟨h1, h2⟩ := I.don a b ha (fun hm => by rw [hs] at hm; exact (List.mem_append.1 hm).elim hns hc) he
        exact ⟨h1, fun hb => h2 (by rw [hs]; exact List.mem_append_left _ hb)⟩
    have hclass : sortL ((n : Int) :: s) = cls nx n := by
      refine rising_eq (sortL_rising hnd.2.1) (cls_sorted nx n) (fun x => ?_)
      rw [mem_sortL, mem_cls]
      constructor
      · intro hx
        obtain ⟨a, rfl, ha, hav⟩ := hcin x hx
        have hm : (a : Int) ∈ T2.stack := by rw [hs]; exact List.mem_append_right _ hx
        have hle : num T2 n ≤ num T2 a := by
          rcases Int.lt_or_le (num T2 a) (num T2 n) with hlt | hle
          · exact absurd rfl (hnd.2.2 _ (h.under hm hlt) _ hx)
          · exact hle
        refine ⟨a, rfl, ha, I.gst n List.mem_cons_self a hm hle, ?_⟩
        obtain ⟨g, hg, _, g2⟩ := I.wit a hm
        rcases List.mem_cons.1 hg with e | hg
        · subst e; exact g2
        · exact g2.trans (hr g hg)
      · rintro ⟨b, rfl, hb, r1, r2⟩
        have hS : num T2 b ≠ 0 ∧ (b : Int) ∉ T.stack := r1.closed (S := fun x => num T2 x ≠ 0 ∧ (x : Int) ∉ T.stack) (fun a b ha he => hcl2 a b ha.1 ha.2 he) ⟨hnn, hnT⟩
        rcases Classical.em ((b : Int) ∈ (n : Int) :: s) with hc | hc
        · exact hc
        · exfalso
          have hD : num T2 n ≠ 0 ∧ (n : Int) ∉ T2.stack := r2.closed (S := fun x => num T2 x ≠ 0 ∧ (x : Int) ∉ T2.stack) (fun a b ha he => I.don a b ha.1 ha.2 he) ⟨hS.1, fun hm => by rw [hs] at hm; exact (List.mem_append.1 hm).elim hS.2 hc⟩
          exact hD.2 hn2
    refine ⟨_, rfl, ⟨⟨I.ln, I.ll, by rw [off_len]; exact I.lm, I.num0, I.inj, fun a ha => ?_, fun x hx => ?_, ?_, hT.grs, fun g hg y hy => ?_, fun y hy => ?_, hblk, hcl2, fun c hc => ?_, fun a ha hns => ?_, ?_, ?_, I.zer⟩, ⟨[], by simp, fun a ha => by simp at ha⟩, h.fnum, h.flow, by show T.count < num T2 n; rw [h.nn]; omega, .inl heq, by have := h.cnt; show T.count ≤ T2.count; omega⟩⟩
    · show (offF T2.on ((n : Int) :: s)).getD a false = true ↔ (a : Int) ∈ T.stack
      rw [off_get _ _ _ (fun x hx => by obtain ⟨b, e, hb, _⟩ := hcin x hx; exact ⟨b, e, by rw [I.lm]; exact hb⟩)]
      simp only [Bool.and_eq_true, decide_eq_true_eq]
      rw [I.onb a ha, hs, List.mem_append]
      constructor
      · rintro ⟨h1, h2⟩; exact h2.resolve_right h1
      · intro h1; exact ⟨fun h2 => hnd.2.2 _ h1 _ h2 rfl, .inl h1⟩
    · exact I.sin x (by rw [hs]; exact List.mem_append_left _ hx)
    · have := I.srt; rw [hs, List.pairwise_append] at this; exact this.1
    · exact I.gst g (List.mem_cons_of_mem _ hg) y (h.above hy).2
    · obtain ⟨g, hg, g1, g2⟩ := I.wit y (h.above hy).2
      rcases List.mem_cons.1 hg with e | hg
      · subst e; have := (h.above hy).1; omega
      · exact ⟨g, hg, g1, g2⟩
    · rcases List.mem_append.1 hc with hc | hc
      · obtain ⟨m, m1, m2, m3, m4⟩ := I.outs c hc
        exact ⟨m, m1, m2, fun hm => m3 (by rw [hs]; exact List.mem_append_left _ hm), m4⟩
      · have : c = sortL ((n : Int) :: s) := by simpa using hc
        exact ⟨n, hn, hnn, hnT, this.trans hclass⟩
    · by_cases hc : (a : Int) ∈ (n : Int) :: s
      · exact ⟨sortL ((n : Int) :: s), by simp, mem_sortL.2 hc⟩
      · obtain ⟨c, c1, c2⟩ := I.cov a ha (fun hm => by rw [hs] at hm; exact (List.mem_append.1 hm).elim hns hc)
        exact ⟨c, List.mem_append_left _ c1, c2⟩
    · show (T2.out ++ [sortL ((n : Int) :: s)]).Pairwise _
      rw [List.pairwise_append]
      refine ⟨I.dis, by simp, fun c hc d hd x hx hxd => ?_⟩
      have : d = sortL ((n : Int) :: s) := by simpa using hd
      subst this
      obtain ⟨m, m1, m2, m3, m4⟩ := I.outs c hc
      subst m4
      obtain ⟨a, rfl, _, r1, _⟩ := mem_cls.1 hx
      have hD : num T2 a ≠ 0 ∧ (a : Int) ∉ T2.stack := r1.closed (S := fun x => num T2 x ≠ 0 ∧ (x : Int) ∉ T2.stack) (fun a b ha he => I.don a b ha.1 ha.2 he) ⟨m2, m3⟩
      exact hD.2 (by rw [hs]; exact List.mem_append_right _ (mem_sortL.1 hxd))
    · show ((T2.out ++ [sortL ((n : Int) :: s)]).length : Int) + T.stack.length ≤ T2.count
      rw [List.length_append, List.length_singleton]; omega

/-- One call of the closure. -/
theorem visit_ok (hN : nx.length < 1048576) (hrow : ∀ a : Nat, (nx.getD a []).length < 1099511627776) (k : Nat) : ∀ (gr : List Nat) (T : TS) (n : Nat), Inv nx gr T → n < nx.length → num T n = 0 → (∀ g ∈ gr, Rt nx g n) → T.number.count 0 ≤ k →
    ∃ T', visitF nx k T (n : Int) = some T' ∧ VP nx gr T n T' := by
  induction k with
  | zero =>
    intro gr T n hT hn h0 _ hk
    exfalso
    have : 0 < T.number.count 0 := List.count_pos_iff.2 (by
      have hl : n < T.number.length := by rw [hT.ln]; exact hn
      have : T.number[n] = 0 := by unfold num at h0; rw [List.getD_eq_getElem?_getD, List.getElem?_eq_getElem hl] at h0; exact h0
      rw [← this]; exact List.getElem_mem hl)
    omega
  | succ k ih =>
    intro gr T n hT hn h0 hr hk
    have hL := open_ok hT hn h0 hr
    have hz := hT.zer; have hb := hT.bnd; have hc0 := (hT.num0 0)
    have hk2 : (openF (n : Int) T).number.count 0 ≤ k := by have := hL.inv.zer; have := hL.cnt; omega
    obtain ⟨T2, e2, h2⟩ := each_ok k (visitF nx k) (fun Tr b hI hbl hb0 hrb hkb => ih (n :: gr) Tr b hI hbl hb0 hrb hkb) hT h0 hn hr (afterL nx (n : Int)) _ _ hL hk2 (fun j hj => (mem_afterL hn).1 hj)
    obtain ⟨T', e3, h3⟩ := close_ok h2 (fun b he => .inr ((mem_afterL hn).2 ⟨b, rfl, he⟩)) hT h0 hn hr hN
    refine ⟨T', ?_, h3⟩
    unfold visitF
    rw [if_pos ⟨by omega, by omega, by omega, by omega, by omega, by rw [Int.toNat_natCast]; exact hrow n⟩, e2]
    exact e3
end Go.Proofs.Ytkgkhakjodlpgaa

/-! The classes. -/
namespace Go.Proofs.Ytkgkhakjodlpgaa

structure Classes (nx : List (List Int)) (c : List (List Int)) : Prop where
  cl : ∀ x ∈ c, ∃ m, m < nx.length ∧ x = cls nx m
  cov : ∀ a, a < nx.length → ∃ x ∈ c, (a : Int) ∈ x
  dis : c.Pairwise (fun x y => ∀ z, z ∈ x → z ∉ y)

theorem num_start (N a : Nat) : num (startF N) a = 0 := by
  unfold num startF
  simp only [List.getD_eq_getElem?_getD, List.getElem?_replicate]
  split <;> rfl

theorem start_inv (nx : List (List Int)) : Inv nx [] (startF nx.length) := by
  have h0 := num_start nx.length
  refine ⟨by simp [startF], by simp [startF], by simp [startF], fun a => ?_, fun a b h => absurd (h0 a) h, fun a _ => ?_, fun x hx => ?_, by simp [startF], fun g hg => by simp at hg, fun g hg => by simp at hg, fun y hy => ?_, fun a b h => absurd (h0 a) h, fun a b h => absurd (h0 a) h, fun c hc => ?_, fun a h => absurd (h0 a) h, by simp [startF], by simp [startF], by simp [startF]⟩
  · rw [h0]; simp [startF]
  · simp only [startF, List.getD_eq_getElem?_getD, List.getElem?_replicate]
    constructor
    · intro h; split at h <;> simp at h
    · intro h; simp at h
  · simp [startF] at hx
  · simp [startF] at hy
  · simp [startF] at hc

theorem go_ok {nx : List (List Int)} (hN : nx.length < 1048576) (hrow : ∀ a : Nat, (nx.getD a []).length < 1099511627776) : ∀ (l : List Nat) (T : TS), Inv nx [] T → (∀ a ∈ l, a < nx.length) →
    ∃ T', l.foldlM (goF nx (nx.length + 1)) T = some T' ∧ Inv nx [] T' ∧ (∀ a ∈ l, num T' a ≠ 0) ∧ ∀ a, num T a ≠ 0 → num T' a ≠ 0
  | [], T, hT, _ => ⟨T, rfl, hT, fun a ha => by simp at ha, fun _ h => h⟩
  | n :: l, T, hT, hl => by
    have hn := hl n (by simp)
    by_cases h0 : num T n = 0
    · obtain ⟨T1, e1, h1⟩ := visit_ok hN hrow (nx.length + 1) [] T n hT hn h0 (fun g hg => by simp at hg) (by have := hT.zer; have := (hT.num0 0); omega)
      obtain ⟨T', e2, h2, h3, h4⟩ := go_ok hN hrow l T1 h1.inv (fun a ha => hl a (by simp [ha]))
      have hvn : num T1 n ≠ 0 := by have := h1.vis; have := (hT.num0 0); omega
      refine ⟨T', ?_, h2, fun a ha => ?_, fun a ha => h4 a (by rw [h1.fnum a ha]; exact ha)⟩
      · rw [List.foldlM_cons]
        have : goF nx (nx.length + 1) T n = some T1 := by unfold goF; rw [if_pos (show T.number.getD n 0 = 0 from h0)]; exact e1
        rw [this]; exact e2
      · rcases List.mem_cons.1 ha with rfl | ha
        · exact h4 _ hvn
        · exact h3 a ha
    · obtain ⟨T', e2, h2, h3, h4⟩ := go_ok hN hrow l T hT (fun a ha => hl a (by simp [ha]))
      refine ⟨T', ?_, h2, fun a ha => ?_, h4⟩
      · rw [List.foldlM_cons]
        have : goF nx (nx.length + 1) T n = some T := by unfold goF; rw [if_neg (show ¬ T.number.getD n 0 = 0 from h0)]
        rw [this]; exact e2
      · rcases List.mem_cons.1 ha with rfl | ha
        · exact h4 _ h0
        · exact h3 a ha

theorem found_ok {nx : List (List Int)} (hN : nx.length < 1048576) (hrow : ∀ a : Nat, (nx.getD a []).length < 1099511627776) : ∃ c, foundF nx = some c ∧ Classes nx c := by
  obtain ⟨T', e, hI, hall, _⟩ := go_ok hN hrow (List.range nx.length) (startF nx.length) (start_inv nx) (fun a ha => List.mem_range.1 ha)
  have hst : T'.stack = [] := by
    cases hs : T'.stack with
    | nil => rfl
    | cons x l =>
      obtain ⟨a, rfl, _, _⟩ := hI.sin x (by rw [hs]; simp)
      obtain ⟨g, hg, _⟩ := hI.wit a (by rw [hs]; simp)
      simp at hg
  refine ⟨T'.out, by unfold foundF; rw [if_pos hN, e]; rfl, ⟨fun x hx => ?_, fun a ha => ?_, hI.dis⟩⟩
  · obtain ⟨m, h1, _, _, h4⟩ := hI.outs x hx
    exact ⟨m, h1, h4⟩
  · exact hI.cov a (hall a (List.mem_range.2 ha)) (by rw [hst]; simp)
end Go.Proofs.Ytkgkhakjodlpgaa

/-! Their order. -/
namespace Go.Proofs.Ytkgkhakjodlpgaa

theorem cls_self {nx : List (List Int)} {i : Nat} (hi : i < nx.length) : (i : Int) ∈ cls nx i := mem_cls.2 ⟨i, rfl, hi, .refl i, .refl i⟩
theorem cls_mem {nx : List (List Int)} {i b : Nat} : (b : Int) ∈ cls nx i ↔ b < nx.length ∧ Rt nx i b ∧ Rt nx b i := by
  rw [mem_cls]
  constructor
  · rintro ⟨c, h, h1⟩; obtain rfl := Int.ofNat_inj.1 h; exact h1
  · intro h; exact ⟨b, rfl, h⟩
theorem cls_eq {nx : List (List Int)} {i j : Nat} (h1 : Rt nx i j) (h2 : Rt nx j i) : cls nx i = cls nx j := by
  refine rising_eq (cls_sorted nx i) (cls_sorted nx j) (fun x => ?_)
  rw [mem_cls, mem_cls]
  constructor
  · rintro ⟨b, rfl, h3, h4, h5⟩; exact ⟨b, rfl, h3, h2.trans h4, h5.trans h1⟩
  · rintro ⟨b, rfl, h3, h4, h5⟩; exact ⟨b, rfl, h3, h1.trans h4, h5.trans h2⟩

/-- All that a node leads to is used, or leads back. -/
def Free (nx : List (List Int)) (U : Nat → Prop) (i : Nat) : Prop := ∀ b, Rt nx i b → ¬ U b → Rt nx b i

structure NextOf (nx : List (List Int)) (U : Nat → Prop) (i : Nat) : Prop where
  lt : i < nx.length
  new : ¬ U i
  free : Free nx U i
  least : ∀ j, j < i → ¬ U j → ¬ Free nx U j

theorem NextOf.uniq {nx : List (List Int)} {U : Nat → Prop} {i j : Nat} (hi : NextOf nx U i) (hj : NextOf nx U j) : i = j := by
  rcases Nat.lt_trichotomy i j with h | h | h
  · exact absurd hi.free (hj.least i h hi.new)
  · exact h
  · exact absurd hj.free (hi.least j h hj.new)

inductive Seq (nx : List (List Int)) : (Nat → Prop) → List (List Int) → Prop
  | nil {U : Nat → Prop} : (∀ a, a < nx.length → U a) → Seq nx U []
  | cons {U : Nat → Prop} {i : Nat} {l : List (List Int)} : NextOf nx U i → Seq nx (fun a => U a ∨ (a : Int) ∈ cls nx i) l → Seq nx U (cls nx i :: l)

theorem Seq.uniq {nx : List (List Int)} {U : Nat → Prop} {l m : List (List Int)} (h : Seq nx U l) (k : Seq nx U m) : l = m := by
  induction h generalizing m with
  | nil h1 =>
    cases k with
    | nil => rfl
    | cons h2 _ => exact absurd (h1 _ h2.lt) h2.new
  | cons h1 _ ih =>
    cases k with
    | nil h2 => exact absurd (h2 _ h1.lt) h1.new
    | cons h2 h3 =>
      obtain rfl := h1.uniq h2
      rw [ih h3]

open Classical in
/-- How many nodes one reaches. -/
noncomputable def rank (nx : List (List Int)) (a : Nat) : Nat := ((List.range nx.length).filter fun b => decide (Rt nx a b)).length

theorem filter_lt_of {p q : Nat → Bool} (h : ∀ x, p x = true → q x = true) : ∀ (l : List Nat) (x : Nat), x ∈ l → q x = true → p x = false → (l.filter p).length < (l.filter q).length
  | [], x, hx, _, _ => by simp at hx
  | y :: l, x, hx, h1, h2 => by
    have hle : ∀ l : List Nat, (l.filter p).length ≤ (l.filter q).length := by
      intro l
      induction l with
      | nil => simp
      | cons z l ih =>
        by_cases hp : p z = true
        · rw [List.filter_cons_of_pos hp, List.filter_cons_of_pos (h z hp)]; simp; exact ih
        · rw [List.filter_cons_of_neg hp]
          by_cases hq : q z = true
          · rw [List.filter_cons_of_pos hq]; simp; omega
          · rw [List.filter_cons_of_neg hq]; exact ih
    rcases List.mem_cons.1 hx with rfl | hx
    · rw [List.filter_cons_of_neg (by rw [h2]; decide), List.filter_cons_of_pos h1]
      have := hle l
      simp; omega
    · have ih := filter_lt_of h l x hx h1 h2
      by_cases hp : p y = true
      · rw [List.filter_cons_of_pos hp, List.filter_cons_of_pos (h y hp)]; simp; exact ih
      · rw [List.filter_cons_of_neg hp]
        by_cases hq : q y = true
        · rw [List.filter_cons_of_pos hq]; simp; omega
        · rw [List.filter_cons_of_neg hq]; exact ih

theorem rank_lt {nx : List (List Int)} {a b : Nat} (ha : a < nx.length) (h1 : Rt nx a b) (h2 : ¬ Rt nx b a) : rank nx b < rank nx a := by
  unfold rank
  refine filter_lt_of (fun x hx => ?_) _ a (List.mem_range.2 ha) ?_ ?_
  · simp at hx ⊢; exact h1.trans hx
  · simp; exact .refl a
  · simpa using h2

/-- Where some node is not used, one is free. -/
theorem free_ex {nx : List (List Int)} {U : Nat → Prop} : ∀ (r a : Nat), rank nx a ≤ r → a < nx.length → ¬ U a → ∃ i, i < nx.length ∧ ¬ U i ∧ Free nx U i ∧ Rt nx a i := by
  intro r
  induction r with
  | zero =>
    intro a hr ha hu
    refine ⟨a, ha, hu, fun b hb _ => ?_, .refl a⟩
    by_cases h : Rt nx b a
    · exact h
    · have := rank_lt ha hb h; omega
  | succ r ih =>
    intro a hr ha hu
    by_cases hf : Free nx U a
    · exact ⟨a, ha, hu, hf, .refl a⟩
    · unfold Free at hf
      simp only [Classical.not_forall] at hf
      obtain ⟨b, h1, h2, h3⟩ := hf
      have := rank_lt ha h1 h3
      obtain ⟨i, h4, h5, h6, h7⟩ := ih b (by omega) (h1.lt ha) h2
      exact ⟨i, h4, h5, h6, h1.trans h7⟩

theorem next_ex {nx : List (List Int)} {U : Nat → Prop} {i : Nat} (hi : i < nx.length) (h1 : ¬ U i) (h2 : Free nx U i) : ∃ j, NextOf nx U j ∧ j ≤ i := by
  induction i using Nat.strongRecOn with
  | _ i ih =>
    by_cases h : ∃ j, j < i ∧ ¬ U j ∧ Free nx U j
    · obtain ⟨j, h3, h4, h5⟩ := h
      obtain ⟨k, h6, h7⟩ := ih j h3 (by omega) h4 h5
      exact ⟨k, h6, by omega⟩
    · exact ⟨i, ⟨hi, h1, h2, fun j h3 h4 h5 => h ⟨j, h3, h4, h5⟩⟩, Nat.le_refl i⟩
end Go.Proofs.Ytkgkhakjodlpgaa
