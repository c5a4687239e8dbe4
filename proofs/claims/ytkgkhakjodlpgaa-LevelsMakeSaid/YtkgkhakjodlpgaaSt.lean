/- A lattice carried along by a law: each call leaves it as it was. -/
import Derived.Test.YtkgkhakjodlpgaaSmall
import Derived.Test.YtkgkhakjodlpgaaPLaws
namespace Go.Proofs.Ytkgkhakjodlpgaa
open Go.RowKit

/-- The lattice L lies at p, and of what was there in the world w0 nothing has turned. -/
def St (w0 : World) (p : Nat) (L : LatD) (w : World) : Prop := Lat w p L ∧ Below w0.heap.size w0 w ∧ w0.heap.size ≤ p

theorem St.below {w0 w : World} {p : Nat} {L : LatD} (h : St w0 p L w) : Below w0.heap.size w0 w := h.2.1

theorem St.grown {w0 w w' : World} {p : Nat} {L : LatD} (h : St w0 p L w) (h1 : Lat w' p L ∧ w.grownBy w' (some p)) : St w0 p L w' :=
  ⟨h1.1, h.2.1.grown h1.2 h.2.1.size (fun k hk => by injection hk with hk; have := h.2.2; omega), h.2.2⟩

theorem join_st {w0 w : World} (p : Nat) (L : LatD) (a b : Int) (h : St w0 p L w) :
    Calls Try.prog 17 #[.pointer (some ⟨p, 0, none⟩), .int .i64 a, .int .i64 b] w fun e w' => e = .returned (.int .i64 (joinI L a b)) ∧ St w0 p L w' :=
  (join_any p L a b w h.1).mono fun _ _ h1 => ⟨h1.1, h.grown h1.2.out⟩
theorem meet_st {w0 w : World} (p : Nat) (L : LatD) (a b : Int) (h : St w0 p L w) :
    Calls Try.prog 18 #[.pointer (some ⟨p, 0, none⟩), .int .i64 a, .int .i64 b] w fun e w' => e = .returned (.int .i64 (meetI L a b)) ∧ St w0 p L w' :=
  (meet_any p L a b w h.1).mono fun _ _ h1 => ⟨h1.1, h.grown h1.2.out⟩
theorem below_st {w0 w : World} (p : Nat) (L : LatD) (a b : Int) (h : St w0 p L w) :
    Calls Try.prog 19 #[.pointer (some ⟨p, 0, none⟩), .int .i64 a, .int .i64 b] w fun e w' => e = .returned (.bool (belowB L a b)) ∧ w = w' :=
  below_any p L a b w h.1
theorem bottom_st {w0 w : World} (p : Nat) (L : LatD) (h : St w0 p L w) :
    Calls Try.prog 21 #[.pointer (some ⟨p, 0, none⟩)] w fun e w' => e = .returned (.int .i64 (bottomI L)) ∧ St w0 p L w' :=
  (bottom_any p L w h.1).mono fun _ _ h1 => ⟨h1.1, by obtain ⟨n, hn⟩ := h1.2; rw [hn]; exact ⟨h.1.drewN n, below_drewN h.2.1 n, h.2.2⟩⟩
theorem top_st {w0 w : World} (p : Nat) (L : LatD) (h : St w0 p L w) :
    Calls Try.prog 20 #[.pointer (some ⟨p, 0, none⟩)] w fun e w' => e = .returned (.int .i64 (topI L)) ∧ St w0 p L w' :=
  (top_any p L w h.1).mono fun _ _ h1 => ⟨h1.1, by obtain ⟨n, hn⟩ := h1.2; rw [hn]; exact ⟨h.1.drewN n, below_drewN h.2.1 n, h.2.2⟩⟩
theorem len_st {w0 w : World} (p : Nat) (L : LatD) (h : St w0 p L w) :
    Calls Try.prog 23 #[.pointer (some ⟨p, 0, none⟩)] w fun e w' => e = .returned (.int .i64 L.names.length) ∧ w = w' :=
  len_any p L w h.1

theorem smallB_yes {names : List ByteArray} {pairs : List (ByteArray × ByteArray)} (h : smallB names pairs = true) : names.length ≤ 20 ∧ pairs.length ≤ 300 ∧ (∀ s ∈ names, s.size ≤ 100) ∧ pairs.all shortP = true := by
  simp only [smallB, Bool.and_eq_true, decide_eq_true_eq] at h
  exact ⟨h.1, h.2.1, fun s hs => by simpa using List.all_eq_true.1 h.2.2.1 s hs, h.2.2.2⟩
end Go.Proofs.Ytkgkhakjodlpgaa
