/- comp.found as plain functions: a state, and what its closure does to it. -/
namespace Go.Proofs.Ytkgkhakjodlpgaa

structure TS where
  count : Int
  number : List Int
  low : List Int
  on : List Bool
  stack : List Int
  out : List (List Int)

/-- The nodes after one. -/
def afterL (nx : List (List Int)) (n : Int) : List Int := (nx.getD n.toNat []).filter fun j => decide (0 ≤ j) && decide (j < (nx.length : Int))

def sortL (l : List Int) : List Int := l.mergeSort fun x y => decide (x ≤ y)

def stepF (v : TS → Int → Option TS) (N : Nat) (n : Int) (T : TS) (j : Int) : Option TS :=
  if 0 ≤ j ∧ j < (N : Int) then
    if T.number.getD j.toNat 0 = 0 then (v T j).bind fun T' => some { T' with low := T'.low.set n.toNat (min (T'.low.getD n.toNat 0) (T'.low.getD j.toNat 0)) }
    else if T.on.getD j.toNat false = true then some { T with low := T.low.set n.toNat (min (T.low.getD n.toNat 0) (T.number.getD j.toNat 0)) }
    else some T
  else none

def eachF (v : TS → Int → Option TS) (N : Nat) (n : Int) : TS → List Int → Option TS
  | T, [] => some T
  | T, j :: js => (stepF v N n T j).bind fun T' => eachF v N n T' js

/-- The marks of some nodes are taken away. -/
def offF (on : List Bool) (c : List Int) : List Bool := c.foldl (fun o j => o.set j.toNat false) on

def closeF (N : Nat) (n : Int) (T : TS) : Option TS :=
  if T.low.getD n.toNat 0 ≠ T.number.getD n.toNat 0 then some T
  else if n ∈ T.stack ∧ (∀ j ∈ T.stack.drop (T.stack.idxOf n), 0 ≤ j ∧ j < (N : Int)) ∧ T.out.length < 1099511627776 ∧ T.stack.length < 1099511627776 then
    some { T with on := offF T.on (T.stack.drop (T.stack.idxOf n)), stack := T.stack.take (T.stack.idxOf n), out := T.out ++ [sortL (T.stack.drop (T.stack.idxOf n))] }
  else none

def openF (n : Int) (T : TS) : TS :=
  { T with count := T.count + 1, number := T.number.set n.toNat (T.count + 1), low := T.low.set n.toNat (T.count + 1), stack := T.stack ++ [n], on := T.on.set n.toNat true }

def visitF (nx : List (List Int)) : Nat → TS → Int → Option TS
  | 0, _, _ => none
  | k + 1, T, n =>
    if 0 ≤ n ∧ n < (nx.length : Int) ∧ 0 ≤ T.count ∧ T.count < 1099511627776 ∧ T.stack.length < 1099511627776 ∧ (nx.getD n.toNat []).length < 1099511627776 then
      (eachF (visitF nx k) nx.length n (openF n T) (afterL nx n)).bind fun T' => closeF nx.length n T'
    else none

def startF (N : Nat) : TS := ⟨0, List.replicate N 0, List.replicate N 0, List.replicate N false, [], []⟩

def goF (nx : List (List Int)) (k : Nat) (T : TS) (n : Nat) : Option TS := if T.number.getD n 0 = 0 then visitF nx k T n else some T

/-- The components, in the order in which they are found; none: the bounds of this telling are passed. -/
def foundF (nx : List (List Int)) : Option (List (List Int)) :=
  if nx.length < 1048576 then ((List.range nx.length).foldlM (goF nx (nx.length + 1)) (startF nx.length)).map TS.out else none
end Go.Proofs.Ytkgkhakjodlpgaa
