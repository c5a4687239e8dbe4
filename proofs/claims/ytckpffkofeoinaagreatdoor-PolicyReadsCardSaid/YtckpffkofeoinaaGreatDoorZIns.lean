/- A slice with one element put in: the law of the appends, and what the channels are behind it. -/
import Derived.Test.YtckpffkofeoinaaGreatDoorZReader
import Derived.Laws.OwnMore
import Derived.Maps.AppendAt
import Derived.Deep.AppendLies
namespace Go.Proofs.YtckpffkofeoinaaGreatDoor
open Go.RowKit Go.Maps Go.Proofs.YtckpffkofeoinaaGreatDoor.Lr

/-- What an append takes: cells behind an address, or nil. -/
def SrcIs (w : World) (vs : Value) (m : Nat) (news : List Value) : Prop :=
  (∃ ad c, vs = .slice (some ad) m c ∧ news.length = m ∧ ∀ (j : Nat) u, news[j]? = some u → w.cell? (ad.add j) = some u) ∨ (vs = .slice none 0 0 ∧ m = 0 ∧ news = [])

theorem step_append_ins {P : Program} (w : World) {ops : Array Oper} {o : Oper} {a : Act} {K : Act → World → Prop} {Q : Exit → Act → World → Prop} {E : Prop} (hgd : o.guard = none) (s x : Operand) (t : TypeId)
    (ho : o.op = .call { callee := .builtin .append, args := #[s, x], argTypes := #[t, t] })
    (H : Nat) (e : TypeId) (i : TypeInfo) (z : Value) (bytes : Nat) (ht : P.underlying t = some (.slice e)) (hi : P.info? e = some i) (hz : i.zero = some z)
    (hsize : i.size = 1) (hby : i.bytes = bytes) (hzs : z.cells.size = 1)
    (v : Value) (n : Nat) (xs : List Value) (hs : a.eval s = v) (hown : w.ownsRow H e 1 v n xs)
    (vs : Value) (m : Nat) (news : List Value) (hx : a.eval x = vs) (hsrc : SrcIs w vs m news) (h1 : ∀ u ∈ news, u.oneCell' = true)
    (h63 : n + m ≤ maxLen) (hbytes : (n + m) * bytes ≤ 140737488355328) (hbase : H ≤ w.heap.size)
    (h : ∀ v' w', w'.ownsRow H e 1 v' (n + m) (xs ++ news) → w.grownBy w' v.ownBlock → K (a.put o.dst v') w') :
    if Region.wanted o (yielded ops a.tmps) = true then Oper.wp P o a w K Q else E := by
  have hw : Region.wanted o (yielded ops a.tmps) = true := by simp [Region.wanted, hgd]
  rw [if_pos hw]
  rcases hsrc with ⟨ad, c, rfl, hl, hc⟩ | ⟨rfl, rfl, rfl⟩
  · obtain ⟨v', w', hr, h2, h3, _, _⟩ := run_append_own_at (P := P) w H t o.type e i z 1 bytes ht hi hz hsize hby hzs (by omega) v n xs hown ad m c news (by omega) hc h1 h63 hbytes hbase
    unfold Oper.wp execOp
    simp only [ho, resolve, invoke, builtin, Sem.run_bind, Sem.run_pure, Result.andThen_ok, List.map_toArray, List.map_cons, List.map_nil, hs, hx, hr]
    exact h v' w' h2 h3
  · have hrun := run_append_owned_none (P := P) (w := w) H t o.type e i 1 ht hi v n xs hown
    unfold Oper.wp
    simp [execOp, ho, resolve, invoke, builtin, hs, hx, hrun, Result.andThen]
    refine h v w ?_ ⟨rfl, rfl, rfl, Nat.le_refl _, fun _ _ _ => rfl⟩
    simpa using hown

/-! ### the channels, one more -/
theorem leB_tr (a b c : List UInt8) (h1 : Go.leB a b = true) (h2 : Go.leB b c = true) : Go.leB a c = true := by
  simp only [Go.leB, decide_eq_true_eq] at *; exact List.le_trans h1 h2
theorem leB_tot (a b : List UInt8) : (Go.leB a b || Go.leB b a) = true := by
  simp only [Go.leB, Bool.or_eq_true, decide_eq_true_eq]; exact List.le_total a b

theorem insert_sorted {B : List (List UInt8)} {x : List UInt8} {k : Nat} (hs : B.Pairwise (fun a b => Go.leB a b = true)) (hlow : ∀ y ∈ B.take k, Go.leB y x = true) (hhi : ∀ y ∈ B.drop k, Go.leB x y = true) :
    (B.take k ++ ([x] ++ B.drop k)).Pairwise (fun a b => Go.leB a b = true) := by
  have hB : (B.take k ++ B.drop k).Pairwise (fun a b => Go.leB a b = true) := by rw [List.take_append_drop]; exact hs
  rw [List.pairwise_append] at hB ⊢
  refine ⟨hB.1, ?_, ?_⟩
  · rw [List.singleton_append, List.pairwise_cons]
    exact ⟨hhi, hB.2.1⟩
  · intro a ha b hb
    rw [List.singleton_append, List.mem_cons] at hb
    rcases hb with rfl | hb
    · exact hlow a ha
    · exact hB.2.2 a ha b hb

theorem insert_perm {α : Type} (B : List α) (x : α) (k : Nat) : (B.take k ++ ([x] ++ B.drop k)).Perm (x :: B) := by
  have h : (B.take k ++ ([x] ++ B.drop k)).Perm (x :: (B.take k ++ B.drop k)) := by
    rw [List.singleton_append]; exact List.perm_middle
  rwa [List.take_append_drop] at h

theorem chansB_add {r : RS} {x : ByteArray} {i k : Nat} (hlow : ∀ y ∈ (chansB r).take k, y < x.data.toList) (hhi : ∀ y ∈ (chansB r)[k]?, ¬ y < x.data.toList) :
    chansB { r with of := (x, i) :: r.of } = (chansB r).take k ++ ([x.data.toList] ++ (chansB r).drop k) := by
  have hs : (chansB r).Pairwise (fun a b => Go.leB a b = true) := by unfold chansB; exact List.pairwise_mergeSort leB_tr leB_tot _
  have hsort := insert_sorted (x := x.data.toList) (k := k) hs (fun y hy => by simp only [Go.leB, decide_eq_true_eq]; exact List.le_of_lt (hlow y hy)) (fun y hy => by
    obtain ⟨j, hj, rfl⟩ := List.mem_iff_getElem.1 hy
    rw [List.getElem_drop]
    rw [List.length_drop] at hj
    have hk : k < (chansB r).length := by omega
    have h0 : Go.leB x.data.toList (chansB r)[k] = true := by
      simp only [Go.leB, decide_eq_true_eq]
      exact List.not_lt.1 (hhi _ (by rw [List.getElem?_eq_getElem hk]; rfl))
    rcases Nat.eq_zero_or_pos j with rfl | hj0
    · simpa using h0
    · exact leB_tr _ _ _ h0 (List.pairwise_iff_getElem.1 hs k (k + j) hk (by omega) (by omega)))
  have hp : ((x.data.toList) :: (r.of.map (·.1.data.toList))).Perm ((chansB r).take k ++ ([x.data.toList] ++ (chansB r).drop k)) :=
    ((List.Perm.cons _ (List.mergeSort_perm _ Go.leB).symm)).trans (insert_perm _ _ _).symm
  rw [show chansB { r with of := (x, i) :: r.of } = ((x.data.toList) :: (r.of.map (·.1.data.toList))).mergeSort Go.leB from rfl, mergeSort_of_perm hp]
  exact List.mergeSort_of_pairwise hsort

theorem chansL_add {r : RS} {x : ByteArray} {i k : Nat} (hlow : ∀ y ∈ (chansB r).take k, y < x.data.toList) (hhi : ∀ y ∈ (chansB r)[k]?, ¬ y < x.data.toList) :
    chansL { r with of := (x, i) :: r.of } = (chansL r).take k ++ ([x] ++ (chansL r).drop k) := by
  unfold chansL
  rw [chansB_add hlow hhi, List.map_append, List.map_append, List.map_take, List.map_drop, List.map_singleton, mkB_data]

theorem levsL_add {r : RS} {x : ByteArray} {i k : Nat} (hlow : ∀ y ∈ (chansB r).take k, y < x.data.toList) (hhi : ∀ y ∈ (chansB r)[k]?, ¬ y < x.data.toList) (hx : (ofAt r.of x).isSome = false) :
    levsL { r with of := (x, i) :: r.of } = (levsL r).take k ++ ([.int .i64 (i : Int)] ++ (levsL r).drop k) := by
  have hold : ∀ c ∈ chansL r, Value.int .i64 (levelN { r with of := (x, i) :: r.of } c : Int) = .int .i64 (levelN r c : Int) := fun c hc => by
    have hne : ¬ x = c := fun e => by
      have := ofAt_isSome.2 (mem_chansL.1 hc)
      rw [← e, hx] at this; cases this
    have e : levelN { r with of := (x, i) :: r.of } c = levelN r c := by
      unfold levelN
      show ((ofAt ((x, i) :: r.of) c).getD 0) = _
      unfold ofAt
      rw [if_neg (show ¬ (x, i).1 = c from hne)]
      cases r.of <;> rfl
    rw [e]
  have hnew : levelN { r with of := (x, i) :: r.of } x = i := by
    unfold levelN
    show ((ofAt ((x, i) :: r.of) x).getD 0) = _
    unfold ofAt
    rw [if_pos rfl]; rfl
  unfold levsL
  rw [chansL_add hlow hhi, List.map_append, List.map_append, ← List.map_take, ← List.map_drop]
  congr 1
  · exact List.map_congr_left fun c hc => hold c (List.mem_of_mem_take hc)
  · congr 1
    · simp [hnew]
    · exact List.map_congr_left fun c hc => hold c (List.mem_of_mem_drop hc)

theorem chan_bytes {r : RS} {j : Nat} (h : j < (chansL r).length) : ((chansL r)[j]).toList = (chansB r)[j]'(by simpa [chansL] using h) := by
  have e : (chansL r)[j] = mkB ((chansB r)[j]'(by simpa [chansL] using h)) := List.getElem_map mkB
  rw [e, Lib.toList_data, data_mkB]

theorem chan_low {r : RS} {x : ByteArray} {k : Nat} (h : ∀ j, j < k → ∀ hj : j < (chansL r).length, Op.bytesLess ((chansL r)[j]).toList x.toList = true) : ∀ y ∈ (chansB r).take k, y < x.data.toList := fun y hy => by
  obtain ⟨j, hj, rfl⟩ := List.mem_iff_getElem.1 hy
  rw [List.length_take] at hj
  have h1 := h j (by omega) (by unfold chansL; simp; omega)
  rw [chan_bytes, bytesLess_eq, decide_eq_true_eq, Lib.toList_data] at h1
  simpa using h1

theorem chan_hi {r : RS} {x : ByteArray} {k : Nat} (h : ∀ hj : k < (chansL r).length, Op.bytesLess ((chansL r)[k]).toList x.toList = false) : ∀ y ∈ (chansB r)[k]?, ¬ y < x.data.toList := fun y hy => by
  obtain ⟨hk, rfl⟩ := List.getElem?_eq_some_iff.1 hy
  have h1 := h (by unfold chansL; simpa using hk)
  rw [chan_bytes, bytesLess_eq, decide_eq_false_iff_not, Lib.toList_data] at h1
  exact h1
end Go.Proofs.YtckpffkofeoinaaGreatDoor
