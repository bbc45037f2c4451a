/- The walks of marigoldref02 and marigoldref06. -/
import Derived.Test.YtkccakaaklemdaaTreeW
import Derived.Laws.BitsAllLaws
namespace Go.Proofs.Ytkccakaaklemdaa
open Go.RowKit
/-- A word. -/
def U64 (x : Int) : Prop := 0 ≤ x ∧ x ≤ 18446744073709551615
theorem compl_u64 {x : Int} (h : U64 x) : bits BinOp.xor IntKind.u64 IntKind.u64.max x = 18446744073709551615 - x := by
  obtain ⟨h0, h1⟩ := h
  obtain ⟨n, rfl⟩ : ∃ n : Nat, x = n := ⟨x.toNat, by omega⟩
  have hm : IntKind.u64.max = ((18446744073709551615 : Nat) : Int) := by decide
  rw [hm, u64_xor_nat _ _ (by omega) (by omega)]
  have : 18446744073709551615 ^^^ n = 18446744073709551615 - n := by
    have hn : n < 2 ^ 64 := by omega
    have h2 : (18446744073709551615 : Nat) = 2 ^ 64 - 1 := by decide
    rw [h2]
    apply Nat.eq_of_testBit_eq
    intro i
    rw [Nat.testBit_xor, Nat.testBit_two_pow_sub_one, show 2 ^ 64 - 1 - n = 2 ^ 64 - (n + 1) by omega, Nat.testBit_two_pow_sub_succ hn]
    by_cases hi : i < 64
    · simp [hi]
    · simp [hi]
      exact Nat.testBit_lt_two_pow (Nat.lt_of_lt_of_le hn (Nat.pow_le_pow_right (by omega) (by omega)))
  rw [this]
  omega
/-- A block whose numbers are of their kinds. -/
structure Blk.Ok (b : Blk) : Prop where
  slot : -9223372036854775808 ≤ b.slot ∧ b.slot ≤ 9223372036854775807
  frm : -9223372036854775808 ≤ b.frm ∧ b.frm ≤ 9223372036854775807
  hi : U64 b.par.hi
  lo : U64 b.par.lo
  salt : U64 b.salt
theorem wrap_u64 (x : Int) : U64 (IntKind.u64.wrap x) := by
  have : IntKind.u64.wrap x = x % 18446744073709551616 := by simp [IntKind.wrap, IntKind.bits, IntKind.signed]
  rw [this]
  unfold U64
  omega
def names (l : List Blk) : List ID := l.map nameOf
end Go.Proofs.Ytkccakaaklemdaa
