/- A region that draws its order: loads taken first although a later store of the same region writes their cells: the condition on the world may look at what has come up. -/
import Derived.Test.YtckpffkofeoinaaDoorBase
import Derived.OrdersHeld
import Derived.Deep.RegionHeld
namespace Go.Proofs.YtckpffkofeoinaaDoor
open Go.RowKit

section
variable {P : Program} {ops : Array Oper} {Q : Exit → Act → World → Prop} {md : Region.Mode} {S : Array Bool → World → Prop}

/-- Whatever order is picked from here on, and S holds behind every operation, of what has come up and of the world. -/
def wpAnyG (P : Program) (md : Region.Mode) (ops : Array Oper) (Q : Exit → Act → World → Prop) (S : Array Bool → World → Prop) : Nat → Array Bool → Act → World → Prop
  | 0, listed, a, w => Region.ready md ops listed = [] ∧ Q .normal a w
  | fuel + 1, listed, a, w =>
    (Region.ready md ops listed = [] → Q .normal a w) ∧
    ∀ i ∈ Region.ready md ops listed, wpOp P ops Q i (fun a' w' => S (listed.setIfInBounds i true) w' ∧ wpAnyG P md ops Q S fuel (listed.setIfInBounds i true) a' w') a w

theorem wpAny_of_G : ∀ (fuel : Nat) (listed : Array Bool) (a : Act) (w : World), wpAnyG P md ops Q S fuel listed a w → wpAny P md ops Q fuel listed a w
  | 0, _, _, _, h => h
  | fuel + 1, _, _, _, h => ⟨h.1, fun i hi => wpOp_mono (fun a' w' h' => wpAny_of_G fuel _ a' w' h'.2) (h.2 i hi)⟩

theorem wpAnyG_first {i : Nat} {oi : Oper} {v : Value} {S0 : World → Prop} {C : Array Bool → Prop} (hi : ops[i]? = some oi) (hsel : ∀ (j : Nat) (o : Oper) cs b, ops[j]? = some o → o.op ≠ .select cs b)
    (hQ : ∀ c a w, Q (.panic c) (a.put oi.dst v) w → Q (.panic c) a w)
    (hC : ∀ listed j, C listed → i ∈ Region.ready md ops listed → j ∈ Region.ready md ops listed → j ≠ i → C (listed.setIfInBounds j true))
    (hS0 : ∀ listed w, C listed → S listed w → S0 w) (hSi : ∀ listed w, S (listed.setIfInBounds i true) w ↔ S listed w) :
    ∀ (fuel : Nat) (listed : Array Bool) (a : Act) (w : World),
      (∀ j oj, ops[j]? = some oj → j ≠ i → listed.getD j true = false → (∀ e ∈ oj.after, Region.binds md e = true → e.on ≠ i) → oi.apart ops oj = true) →
      i ∈ Region.ready md ops listed → C listed → YieldsIf P ops S0 oi v a → S listed w →
      wpAnyG P md ops Q S fuel (listed.setIfInBounds i true) (a.put oi.dst v) w → wpAnyG P md ops Q S (fuel + 1) listed a w := by
  intro fuel
  induction fuel with
  | zero =>
    intro listed a w _ hr hc hy hS H
    refine ⟨fun h => (by rw [h] at hr; cases hr), fun j hj => ?_⟩
    by_cases hji : j = i
    · subst hji; exact hy.wpOp hi (hS0 _ _ hc hS) ⟨(hSi _ _).2 hS, H⟩
    · have := ready_mono hj hji
      rw [H.1] at this
      cases this
  | succ fuel ih =>
    intro listed a w hfree hr hc hy hS H
    refine ⟨fun h => (by rw [h] at hr; cases hr), fun j hj => ?_⟩
    by_cases hji : j = i
    · subst hji; exact hy.wpOp hi (hS0 _ _ hc hS) ⟨(hSi _ _).2 hS, H⟩
    · have h1 := H.2 j (ready_mono hj hji)
      obtain ⟨hjun, oj, hoj, hall⟩ := mem_ready.1 hj
      have hnot : ∀ e ∈ oj.after, Region.binds md e = true → e.on ≠ i := fun e he hb heq => by
        have h1 := hall e he hb
        have h0 := (mem_ready.1 hr).1
        rw [heq] at h1
        rcases Nat.lt_or_ge i listed.size with h' | h'
        · simp [h'] at h0 h1; rw [h0] at h1; cases h1
        · simp [Array.getElem?_eq_none h'] at h1
      have h2 := wpOp_putIf hoj (hfree j oj hoj hji hjun hnot) (fun cs b => hsel i oi cs b hi) (fun cs b => hsel j oj cs b hoj) hQ hy h1
      have hfree' : ∀ k ok, ops[k]? = some ok → k ≠ i → (listed.setIfInBounds j true).getD k true = false →
          (∀ e ∈ ok.after, Region.binds md e = true → e.on ≠ i) → oi.apart ops ok = true := fun k ok hk hki hun hno => by
        refine hfree k ok hk hki ?_ hno
        by_cases hjk : j = k
        · subst hjk; exact hjun
        · rw [getD_set_ne true hjk] at hun; exact hun
      have hcomm : (listed.setIfInBounds i true).setIfInBounds j true = (listed.setIfInBounds j true).setIfInBounds i true := Array.setIfInBounds_comm _ _ (Ne.symm hji)
      refine wpOp_mono (fun a' w' h3 => ?_) h2
      rw [hcomm] at h3
      have hS' := (hSi _ _).1 h3.2.1
      exact ⟨hS', ih (listed.setIfInBounds j true) a' w' hfree' (ready_mono hr (Ne.symm hji)) (hC _ _ hc hr hj hji) h3.1 hS' h3.2.2⟩

/-- Take a pure operation first. -/
theorem G_pure {i : Nat} {oi : Oper} {v : Value} {fuel : Nat} {listed : Array Bool} {a : Act} {w : World} (hi : ops[i]? = some oi)
    (hs : Region.noSelect ops = true) (hf : Region.free md ops listed i = true) (hr : (Region.ready md ops listed).contains i = true)
    (hQ : ∀ c a w, Q (.panic c) (a.put oi.dst v) w → Q (.panic c) a w) (hSi : ∀ listed w, S (listed.setIfInBounds i true) w ↔ S listed w)
    (hy : YieldsIf P ops (fun _ => True) oi v a) (hS : S listed w)
    (h : wpAnyG P md ops Q S fuel (listed.setIfInBounds i true) (a.put oi.dst v) w) : wpAnyG P md ops Q S (fuel + 1) listed a w :=
  wpAnyG_first (S0 := fun _ => True) (C := fun _ => True) hi (Region.noSelect_spec hs) hQ (fun _ _ _ _ _ _ => trivial) (fun _ _ _ _ => trivial) hSi fuel listed a w (Region.free_spec hi hf) (by simpa using hr) trivial hy hS h

/-- Take a load first: operation k waits for it, and till k has come up S tells what it reads. -/
theorem G_load {i : Nat} (k : Nat) {oi : Oper} {v : Value} {fuel : Nat} {listed : Array Bool} {a : Act} {w : World} (S0 : World → Prop) (hi : ops[i]? = some oi)
    (hs : Region.noSelect ops = true) (hf : Region.free md ops listed i = true) (hr : (Region.ready md ops listed).contains i = true)
    (hQ : ∀ c a w, Q (.panic c) (a.put oi.dst v) w → Q (.panic c) a w) (hSi : ∀ listed w, S (listed.setIfInBounds i true) w ↔ S listed w)
    (hk : ((ops[k]?).map fun o => o.after.any fun e => Region.binds md e && e.on == i) = some true) (hlk : listed.getD k true = false)
    (hS0 : ∀ listed w, listed.getD k true = false → S listed w → S0 w)
    (hy : YieldsIf P ops S0 oi v a) (hS : S listed w)
    (h : wpAnyG P md ops Q S fuel (listed.setIfInBounds i true) (a.put oi.dst v) w) : wpAnyG P md ops Q S (fuel + 1) listed a w := by
  refine wpAnyG_first (S0 := S0) (C := fun l => l.getD k true = false) hi (Region.noSelect_spec hs) hQ ?_ hS0 hSi fuel listed a w (Region.free_spec hi hf) (by simpa using hr) hlk hy hS h
  intro l j hl hri hrj hne
  by_cases hjk : j = k
  · exfalso
    subst hjk
    obtain ⟨_, oj, hoj, hall⟩ := mem_ready.1 hrj
    rw [hoj] at hk
    simp only [Option.map_some, Option.some.injEq, Array.any_eq_true', Bool.and_eq_true, beq_iff_eq] at hk
    obtain ⟨e, he, hb, hon⟩ := hk
    have h1 := hall e he hb
    have h0 := (mem_ready.1 hri).1
    rw [hon] at h1
    rcases Nat.lt_or_ge i l.size with h' | h'
    · simp [h'] at h0 h1; rw [h0] at h1; cases h1
    · simp [Array.getElem?_eq_none h'] at h1
  · rw [getD_set_ne true hjk]; exact hl

/-- Each of the operations comes up next. -/
def AllG (P : Program) (md : Region.Mode) (ops : Array Oper) (Q : Exit → Act → World → Prop) (S : Array Bool → World → Prop) (fuel : Nat) (listed : Array Bool) (a : Act) (w : World) (rs : List Nat) : Prop :=
  ∀ i ∈ rs, wpOp P ops Q i (fun a' w' => S (listed.setIfInBounds i true) w' ∧ wpAnyG P md ops Q S fuel (listed.setIfInBounds i true) a' w') a w

theorem AllG.nil {fuel : Nat} {listed : Array Bool} {a : Act} {w : World} : AllG P md ops Q S fuel listed a w [] := fun _ h => by cases h

theorem AllG.cons {fuel : Nat} {listed : Array Bool} {a : Act} {w : World} {i : Nat} {o : Oper} {rs : List Nat} (ho : ops[i]? = some o)
    (h : ∀ K' : Act → World → Prop, Shut (∀ a w, S (listed.setIfInBounds i true) w → wpAnyG P md ops Q S fuel (listed.setIfInBounds i true) a w → K' a w) → if Region.wanted o (yielded ops a.tmps) = true then Oper.wp P o a w K' Q else K' (a.put o.dst undef) w)
    (hs : AllG P md ops Q S fuel listed a w rs) : AllG P md ops Q S fuel listed a w (i :: rs) := fun j hj => by
  rcases List.mem_cons.1 hj with rfl | hj
  · exact wpOp_step ho (fun K' hK => h K' (fun a w hS hW => hK a w ⟨hS, hW⟩))
  · exact hs j hj

theorem G_ready (rs : List Nat) {fuel : Nat} {listed : Array Bool} {a : Act} {w : World} (hr : Region.ready md ops listed = rs) (hne : rs ≠ [])
    (h : AllG P md ops Q S fuel listed a w rs) : wpAnyG P md ops Q S (fuel + 1) listed a w := ⟨fun h0 => absurd (hr ▸ h0) hne, hr ▸ h⟩

theorem G_done {listed : Array Bool} {a : Act} {w : World} (hr : Region.ready md ops listed = []) (h : Q .normal a w) :
    ∀ fuel, wpAnyG P md ops Q S fuel listed a w
  | 0 => ⟨hr, h⟩
  | _ + 1 => ⟨fun _ => h, by rw [hr]; simp⟩

theorem wp_region_G (S : Array Bool → World → Prop) {id : Nat} {a : Act} {w : World} (hm : P.follows .mixedOrders = true)
    (h : wpAnyG P .any ops Q S ops.size (Array.replicate ops.size false) a w.drew) : (Code.region id ops true).wp P Q a w :=
  wp_region_any hm (wpAny_of_G _ _ _ _ h)
end
end Go.Proofs.YtckpffkofeoinaaDoor
