/- The plain facts of LevelsRows: rows of names, and sets of up to four things. -/
import Derived.Test.YtkgkhakjodlpgaaShown
import Derived.KernelRfl
namespace Go.Proofs.Ytkgkhakjodlpgaa

def lets : List ByteArray := [⟨#[97]⟩, ⟨#[98]⟩, ⟨#[99]⟩, ⟨#[100]⟩, ⟨#[101]⟩, ⟨#[102]⟩, ⟨#[103]⟩, ⟨#[104]⟩, ⟨#[105]⟩, ⟨#[106]⟩, ⟨#[107]⟩, ⟨#[108]⟩, ⟨#[109]⟩, ⟨#[110]⟩, ⟨#[111]⟩, ⟨#[112]⟩]
def rowP (i : Nat) : List (ByteArray × ByteArray) := (List.range i).map fun j => (lets.getD j ByteArray.empty, lets.getD (j + 1) ByteArray.empty)
def setRow (i j : Nat) : List (ByteArray × ByteArray) := ((List.range j).filter fun b => i / 2 ^ b % 2 == 0).map fun b => (lets.getD i ByteArray.empty, lets.getD (i + 2 ^ b) ByteArray.empty)
def setsP (k i : Nat) : List (ByteArray × ByteArray) := (List.range i).flatMap fun a => setRow a k

/-- What a lattice answers, of all pairs of places. -/
def rowAns (n : Nat) (L : LatD) : Bool := (List.range n).all fun a => (List.range n).all fun b => joinI L (a : Int) (b : Int) == ((max a b : Nat) : Int) && meetI L (a : Int) (b : Int) == ((min a b : Nat) : Int)
def setAns (n : Nat) (L : LatD) : Bool := (List.range n).all fun a => (List.range n).all fun b => joinI L (a : Int) (b : Int) == ((a ||| b : Nat) : Int) && meetI L (a : Int) (b : Int) == ((a &&& b : Nat) : Int) && belowB L (a : Int) (b : Int) == (a &&& b == a)

structure RowsF (k : Nat) : Prop where
  e1 : newE (lets.take (2 ^ k)) (rowP (2 ^ k - 1)) = 0
  e2 : newE (lets.take (2 ^ k)) (setsP k (2 ^ k)) = 0
  a1 : rowAns (2 ^ k) (newL (lets.take (2 ^ k)) (rowP (2 ^ k - 1))) = true
  a2 : setAns (2 ^ k) (newL (lets.take (2 ^ k)) (setsP k (2 ^ k))) = true
  t : topI (newL (lets.take (2 ^ k)) (rowP (2 ^ k - 1))) = ((2 ^ k - 1 : Nat) : Int)
  b : bottomI (newL (lets.take (2 ^ k)) (setsP k (2 ^ k))) = 0

def rL1 : LatD := ⟨[⟨#[97]⟩, ⟨#[98]⟩], [3, 2], [1, 3]⟩
theorem rL1_eq : newL (lets.take 2) (rowP 1) = rL1 := by kernel_rfl
theorem rL1_ok : newE (lets.take 2) (rowP 1) = 0 := by kernel_rfl
def sL1 : LatD := ⟨[⟨#[97]⟩, ⟨#[98]⟩], [3, 2], [1, 3]⟩
theorem sL1_eq : newL (lets.take 2) (setsP 1 2) = sL1 := by kernel_rfl
theorem sL1_ok : newE (lets.take 2) (setsP 1 2) = 0 := by kernel_rfl
theorem rowsF1 : RowsF 1 := ⟨rL1_ok, sL1_ok, by rw [show (2 : Nat) ^ 1 = 2 from rfl, show 2 - 1 = 1 from rfl, rL1_eq]; kernel_rfl, by rw [show (2 : Nat) ^ 1 = 2 from rfl, sL1_eq]; kernel_rfl, by rw [show (2 : Nat) ^ 1 = 2 from rfl, show 2 - 1 = 1 from rfl, rL1_eq]; kernel_rfl, by rw [show (2 : Nat) ^ 1 = 2 from rfl, sL1_eq]; kernel_rfl⟩

def rL2 : LatD := ⟨[⟨#[97]⟩, ⟨#[98]⟩, ⟨#[99]⟩, ⟨#[100]⟩], [15, 14, 12, 8], [1, 3, 7, 15]⟩
theorem rL2_eq : newL (lets.take 4) (rowP 3) = rL2 := by kernel_rfl
theorem rL2_ok : newE (lets.take 4) (rowP 3) = 0 := by kernel_rfl
def sL2 : LatD := ⟨[⟨#[97]⟩, ⟨#[98]⟩, ⟨#[99]⟩, ⟨#[100]⟩], [15, 10, 12, 8], [1, 3, 5, 15]⟩
theorem sL2_eq : newL (lets.take 4) (setsP 2 4) = sL2 := by kernel_rfl
theorem sL2_ok : newE (lets.take 4) (setsP 2 4) = 0 := by kernel_rfl
theorem rowsF2 : RowsF 2 := ⟨rL2_ok, sL2_ok, by rw [show (2 : Nat) ^ 2 = 4 from rfl, show 4 - 1 = 3 from rfl, rL2_eq]; kernel_rfl, by rw [show (2 : Nat) ^ 2 = 4 from rfl, sL2_eq]; kernel_rfl, by rw [show (2 : Nat) ^ 2 = 4 from rfl, show 4 - 1 = 3 from rfl, rL2_eq]; kernel_rfl, by rw [show (2 : Nat) ^ 2 = 4 from rfl, sL2_eq]; kernel_rfl⟩

def rL3 : LatD := ⟨[⟨#[97]⟩, ⟨#[98]⟩, ⟨#[99]⟩, ⟨#[100]⟩, ⟨#[101]⟩, ⟨#[102]⟩, ⟨#[103]⟩, ⟨#[104]⟩], [255, 254, 252, 248, 240, 224, 192, 128], [1, 3, 7, 15, 31, 63, 127, 255]⟩
theorem rL3_eq : newL (lets.take 8) (rowP 7) = rL3 := by kernel_rfl
theorem rL3_ok : newE (lets.take 8) (rowP 7) = 0 := by kernel_rfl
def sL3 : LatD := ⟨[⟨#[97]⟩, ⟨#[98]⟩, ⟨#[99]⟩, ⟨#[100]⟩, ⟨#[101]⟩, ⟨#[102]⟩, ⟨#[103]⟩, ⟨#[104]⟩], [255, 170, 204, 136, 240, 160, 192, 128], [1, 3, 5, 15, 17, 51, 85, 255]⟩
theorem sL3_eq : newL (lets.take 8) (setsP 3 8) = sL3 := by kernel_rfl
theorem sL3_ok : newE (lets.take 8) (setsP 3 8) = 0 := by kernel_rfl
theorem rowsF3 : RowsF 3 := ⟨rL3_ok, sL3_ok, by rw [show (2 : Nat) ^ 3 = 8 from rfl, show 8 - 1 = 7 from rfl, rL3_eq]; kernel_rfl, by rw [show (2 : Nat) ^ 3 = 8 from rfl, sL3_eq]; kernel_rfl, by rw [show (2 : Nat) ^ 3 = 8 from rfl, show 8 - 1 = 7 from rfl, rL3_eq]; kernel_rfl, by rw [show (2 : Nat) ^ 3 = 8 from rfl, sL3_eq]; kernel_rfl⟩

def rL4 : LatD := ⟨[⟨#[97]⟩, ⟨#[98]⟩, ⟨#[99]⟩, ⟨#[100]⟩, ⟨#[101]⟩, ⟨#[102]⟩, ⟨#[103]⟩, ⟨#[104]⟩, ⟨#[105]⟩, ⟨#[106]⟩, ⟨#[107]⟩, ⟨#[108]⟩, ⟨#[109]⟩, ⟨#[110]⟩, ⟨#[111]⟩, ⟨#[112]⟩], [65535, 65534, 65532, 65528, 65520, 65504, 65472, 65408, 65280, 65024, 64512, 63488, 61440, 57344, 49152, 32768], [1, 3, 7, 15, 31, 63, 127, 255, 511, 1023, 2047, 4095, 8191, 16383, 32767, 65535]⟩
theorem rL4_eq : newL (lets.take 16) (rowP 15) = rL4 := by kernel_rfl
theorem rL4_ok : newE (lets.take 16) (rowP 15) = 0 := by kernel_rfl
def sL4 : LatD := ⟨[⟨#[97]⟩, ⟨#[98]⟩, ⟨#[99]⟩, ⟨#[100]⟩, ⟨#[101]⟩, ⟨#[102]⟩, ⟨#[103]⟩, ⟨#[104]⟩, ⟨#[105]⟩, ⟨#[106]⟩, ⟨#[107]⟩, ⟨#[108]⟩, ⟨#[109]⟩, ⟨#[110]⟩, ⟨#[111]⟩, ⟨#[112]⟩], [65535, 43690, 52428, 34952, 61680, 41120, 49344, 32896, 65280, 43520, 52224, 34816, 61440, 40960, 49152, 32768], [1, 3, 5, 15, 17, 51, 85, 255, 257, 771, 1285, 3855, 4369, 13107, 21845, 65535]⟩
theorem sL4_eq : newL (lets.take 16) (setsP 4 16) = sL4 := by kernel_rfl
theorem sL4_ok : newE (lets.take 16) (setsP 4 16) = 0 := by kernel_rfl
theorem rowsF4 : RowsF 4 := ⟨rL4_ok, sL4_ok, by rw [show (2 : Nat) ^ 4 = 16 from rfl, show 16 - 1 = 15 from rfl, rL4_eq]; kernel_rfl, by rw [show (2 : Nat) ^ 4 = 16 from rfl, sL4_eq]; kernel_rfl, by rw [show (2 : Nat) ^ 4 = 16 from rfl, show 16 - 1 = 15 from rfl, rL4_eq]; kernel_rfl, by rw [show (2 : Nat) ^ 4 = 16 from rfl, sL4_eq]; kernel_rfl⟩

theorem rowsF_all {k : Nat} (h1 : 1 ≤ k) (h4 : k ≤ 4) : RowsF k := by
  match k, h1, h4 with
  | 1, _, _ => exact rowsF1
  | 2, _, _ => exact rowsF2
  | 3, _, _ => exact rowsF3
  | 4, _, _ => exact rowsF4

theorem RowsF.row {k : Nat} (F : RowsF k) {a b : Nat} (ha : a < 2 ^ k) (hb : b < 2 ^ k) : joinI (newL (lets.take (2 ^ k)) (rowP (2 ^ k - 1))) (a : Int) (b : Int) = ((max a b : Nat) : Int) ∧ meetI (newL (lets.take (2 ^ k)) (rowP (2 ^ k - 1))) (a : Int) (b : Int) = ((min a b : Nat) : Int) := by
  have h := List.all_eq_true.1 (List.all_eq_true.1 F.a1 a (List.mem_range.2 ha)) b (List.mem_range.2 hb)
  simp only [Bool.and_eq_true, beq_iff_eq] at h
  exact h
theorem RowsF.set {k : Nat} (F : RowsF k) {a b : Nat} (ha : a < 2 ^ k) (hb : b < 2 ^ k) : joinI (newL (lets.take (2 ^ k)) (setsP k (2 ^ k))) (a : Int) (b : Int) = ((a ||| b : Nat) : Int) ∧ meetI (newL (lets.take (2 ^ k)) (setsP k (2 ^ k))) (a : Int) (b : Int) = ((a &&& b : Nat) : Int) ∧ belowB (newL (lets.take (2 ^ k)) (setsP k (2 ^ k))) (a : Int) (b : Int) = (a &&& b == a) := by
  have h := List.all_eq_true.1 (List.all_eq_true.1 F.a2 a (List.mem_range.2 ha)) b (List.mem_range.2 hb)
  simp only [Bool.and_eq_true, beq_iff_eq] at h
  exact ⟨h.1.1, h.1.2, h.2⟩
theorem set_chk : ((List.range 5).all fun k => (List.range 16).all fun i => (List.range 5).all fun j => !(decide (i < 2 ^ k) && decide (j < k) && (i / 2 ^ j % 2 == 0)) || decide (i + 2 ^ j < 16)) = true := by kernel_rfl
theorem set_in {k i j : Nat} (hk : k < 5) (hi : i < 16) (h1 : i < 2 ^ k) (h2 : j < k) (h3 : i / 2 ^ j % 2 = 0) : i + 2 ^ j < 16 := by
  have h := List.all_eq_true.1 (List.all_eq_true.1 (List.all_eq_true.1 set_chk k (List.mem_range.2 hk)) i (List.mem_range.2 hi)) j (List.mem_range.2 (by omega))
  rw [decide_eq_true h1, decide_eq_true h2, h3] at h
  simpa using h
end Go.Proofs.Ytkgkhakjodlpgaa
