/- A line more, of a channel; channels rise: the plain part of PolicyChannels. -/
import Derived.Test.YtckpffkofeoinaaDoorSameTexts
import Derived.Laws.Cover1
import Derived.Sort.Walk0
namespace Go.Proofs.YtckpffkofeoinaaDoor

/-- The text with a line more. -/
def moreT (s name lv : ByteArray) : ByteArray := s ++ ⟨#[10, 99, 104, 97, 110, 110, 101, 108, 32]⟩ ++ name ++ ⟨#[32]⟩ ++ lv

theorem moreT_eq (s name lv : ByteArray) : moreT s name lv = s ++ ⟨#[10]⟩ ++ mkB (txt3 bChannel name lv) := by
  apply data_inj
  unfold moreT txt3
  simp [mkB, bChannel]

theorem moreT_size (s name lv : ByteArray) : (moreT s name lv).size = s.size + 9 + name.size + 1 + lv.size := by
  unfold moreT
  rw [ByteArray.size_append, ByteArray.size_append, ByteArray.size_append, ByteArray.size_append]; rfl

theorem lines_one {l : List UInt8} (h : ∀ c ∈ l, c ≠ 10) : linesF (mkB l) = [mkB l] := by
  rw [linesF_eq, data_mkB, linesL_none h]; rfl

theorem more_line {r : RS} (hE : newE r.names r.below = 0) {name : ByteArray} (hid : identOk name.data.toList = true) {i : Nat} (hi : i < r.names.length) :
    lineF r [bChannel, name, nameAt r i] = if (ofAt r.of name).isSome = true then (4, r) else (0, { r with of := (name, i) :: r.of }) := by
  have hc := (newE_zero hE).1
  have hp : Lib.idxOfS r.names (nameAt r i) = (i : Int) := by
    have hg : nameAt r i = r.names[i] := by unfold nameAt; rw [List.getD_eq_getElem?_getD, List.getElem?_eq_getElem hi]; rfl
    rw [hg]; exact placeI_get hc hi
  unfold lineF
  rw [if_neg (by simp), if_pos (show [bChannel, name, nameAt r i].length = 3 from rfl), if_neg (show ¬ w0 [bChannel, name, nameAt r i] = bBelow from by show ¬ bChannel = bBelow; decide), if_pos (show w0 [bChannel, name, nameAt r i] = bChannel from rfl)]
  unfold chanF
  have e1 : w1 [bChannel, name, nameAt r i] = name := rfl
  have e2 : w2 [bChannel, name, nameAt r i] = nameAt r i := rfl
  rw [e1, e2, hid, hp, if_neg (by simp), if_neg (by omega)]
  rfl

theorem more_read {s name : ByteArray} (h0 : (parseE s).1 = 0) (hs : s.size ≤ 20000) (hid : identOk name.data.toList = true) {i : Nat} (hi : i < (readF s).2.2.names.length) :
    ∃ k, readF (moreT s name (nameAt (readF s).2.2 i)) = if (ofAt (readF s).2.2.of name).isSome = true then (4, k, (readF s).2.2) else (0, k, { (readF s).2.2 with of := (name, i) :: (readF s).2.2.of }) := by
  have hG := readF_good s
  have hE := (parse_zero h0).2
  have hr0 : (readF s).1 = 0 := by
    have h1 := parseE_short hs
    rw [h1] at h0
    by_cases h2 : (readF s).1 = 0
    · exact h2
    · rw [if_pos h2] at h0; exact h0
  have hok := (nameAt_ok hG hi).1
  have hcl : ∀ c ∈ txt3 bChannel name (nameAt (readF s).2.2 i), c ≠ 10 := clean3_10 bChannel_clean (ident_clean hid) (ok_clean hok)
  have hw := words_txt3 bChannel_clean (ident_clean hid) (ok_clean hok)
  have hl := more_line hE hid hi
  have e : readF s = (0, (readF s).2.1, (readF s).2.2) := by rw [← hr0]
  have e2 : linesTo RS.none 0 (linesF s) = (0, (readF s).2.1, (readF s).2.2) := e
  generalize (readF s).2.2 = r at *
  by_cases hx : (ofAt r.of name).isSome = true
  · rw [if_pos hx] at hl
    refine ⟨(readF s).2.1, ?_⟩
    rw [if_pos hx, moreT_eq]
    unfold readF
    rw [lines_more, linesTo_then e2, lines_one hcl, linesTo, hw, if_neg (by simp), hl, if_neg (show ¬ (4 : Int) = 0 by decide)]
    rfl
  · rw [if_neg hx] at hl
    refine ⟨(readF s).2.1 + ((mkB (txt3 bChannel name (nameAt r i))).size + 1), ?_⟩
    rw [if_neg hx, moreT_eq]
    unfold readF
    rw [lines_more, linesTo_then e2, lines_one hcl, linesTo, hw, if_neg (by simp), hl, if_pos rfl, linesTo]
    rfl

/-- A line more: of a channel that is there, or of one that is not. -/
theorem more_law {s name : ByteArray} (h0 : (parseE s).1 = 0) (hs : s.size ≤ 1500) (hid : identOk name.data.toList = true) {i : Nat} (hi : i < (readF s).2.2.names.length) :
    ((ofAt (readF s).2.2.of name).isSome = true → (parseE (moreT s name (nameAt (readF s).2.2 i))).1 = 4) ∧
    ((ofAt (readF s).2.2.of name).isSome = false → (parseE (moreT s name (nameAt (readF s).2.2 i))).1 = 0 ∧ (readF (moreT s name (nameAt (readF s).2.2 i))).2.2 = { (readF s).2.2 with of := (name, i) :: (readF s).2.2.of }) := by
  have hG := readF_good s
  have hE := (parse_zero h0).2
  have hl1 := ident_len hid
  have hl2 := ok_len (nameAt_ok hG hi).1
  have hn : name.data.toList.length = name.size := by simp
  have hz : (moreT s name (nameAt (readF s).2.2 i)).size ≤ 20000 := by rw [moreT_size]; omega
  obtain ⟨k, hk⟩ := more_read h0 (by omega) hid hi
  have hp := parseE_short hz
  constructor
  · intro hx
    rw [if_pos hx] at hk
    rw [hp, hk, if_pos (show (4 : Int) ≠ 0 by decide)]
  · intro hx
    rw [if_neg (by rw [hx]; simp)] at hk
    rw [hp, hk]
    refine ⟨?_, rfl⟩
    rw [if_neg (by simp)]
    simp only
    rw [if_neg (by simpa using hE)]

theorem level_more {r : RS} {name : ByteArray} {i : Nat} (c : ByteArray) : levelI { r with of := (name, i) :: r.of } c = if name = c then (i : Int) else levelI r c := by
  unfold levelI
  have e : ofAt ((name, i) :: r.of) c = if name = c then some i else ofAt r.of c := rfl
  show (match ofAt ((name, i) :: r.of) c with | some n => (n : Int) | none => -1) = _
  rw [e]
  by_cases h : name = c
  · rw [if_pos h, if_pos h]
  · rw [if_neg h, if_neg h]
    cases ofAt r.of c <;> rfl

theorem level_some {r : RS} (hG : r.Good) {c : ByteArray} (hc : c ∈ chansL r) : levelI r c = (levelN r c : Int) ∧ levelN r c < r.names.length := by
  have h := levelN_of hc
  refine ⟨by unfold levelI; rw [h], (levelN_lt hG hc).1⟩

theorem chans_rise {r : RS} (hG : r.Good) {i : Nat} (h : i + 1 < (chansL r).length) :
    Op.bytesLess ((chansL r)[i + 1]).toList ((chansL r)[i]'(by omega)).toList = false ∧ (((chansL r)[i + 1]).toList == ((chansL r)[i]'(by omega)).toList) = false := by
  have hlen : (chansL r).length = (chansB r).length := by unfold chansL; simp
  have tr : ∀ a b c : List UInt8, Go.leB a b = true → Go.leB b c = true → Go.leB a c = true := fun a b c h1 h2 => by simp only [Go.leB, decide_eq_true_eq] at *; exact List.le_trans h1 h2
  have tot : ∀ a b : List UInt8, (Go.leB a b || Go.leB b a) = true := fun a b => by simp only [Go.leB, Bool.or_eq_true, decide_eq_true_eq]; exact List.le_total a b
  have hs : (chansB r).Pairwise (fun a b => Go.leB a b = true) := by unfold chansB; exact List.pairwise_mergeSort tr tot _
  have hle := List.pairwise_iff_getElem.1 hs i (i + 1) (by omega) (by omega) (by omega)
  have hat : ∀ (k : Nat) (h1 : k < (chansL r).length) (h2 : k < (chansB r).length), ((chansL r)[k]).toList = (chansB r)[k] := fun k h1 h2 => by
    rw [ByteArray.toList_eq, show (chansL r)[k] = mkB (chansB r)[k] from List.getElem_map mkB, data_mkB]
  have e1 : ((chansL r)[i + 1]).toList = (chansB r)[i + 1]'(by omega) := hat _ _ _
  have e0 : ((chansL r)[i]'(by omega)).toList = (chansB r)[i]'(by omega) := hat _ _ _
  have hne : (chansL r)[i + 1] ≠ (chansL r)[i]'(by omega) := fun e => by
    have := (List.getElem_inj (chans_nodup hG)).1 e; omega
  have hne2 : ((chansL r)[i + 1]).toList ≠ ((chansL r)[i]'(by omega)).toList := fun e => hne (data_inj (by rw [ByteArray.toList_eq, ByteArray.toList_eq] at e; exact e))
  refine ⟨?_, by simpa using hne2⟩
  rw [e1, e0, bytesLess_eq]
  simp only [Go.leB, decide_eq_true_eq] at hle
  exact decide_eq_false hle
end Go.Proofs.YtckpffkofeoinaaDoor
