/- Small words on votes in memory. -/
import Derived.Test.YtlhndhgkoacilaaRead
namespace Go.Proofs.Ytlhndhgkoacilaa
open Go.RowKit
theorem infoV : (Try.prog.info? 38).map (fun i => (i.zero, i.size, i.bytes)) = some (some (.agg #[.int .i64 0, .int .i64 0, .int .u64 0, .int .u64 0]), 4, 32) := by kernel_rfl
theorem encVote_one (x : Vote) : ∀ u ∈ encVote x, u.oneCell' = true := by intro u hu; simp [encVote] at hu; rcases hu with rfl | rfl | rfl | rfl <;> rfl
theorem infoB : (Try.prog.info? 45).map (fun i => (i.zero, i.size, i.bytes)) = some (some (.agg #[.int .i64 0, .int .i64 0, .int .u64 0, .int .u64 0, .int .u64 0]), 5, 40) := by kernel_rfl
theorem encBlk_one (x : Blk) : ∀ u ∈ encBlk x, u.oneCell' = true := by intro u hu; simp [encBlk] at hu; rcases hu with rfl | rfl | rfl | rfl | rfl <;> rfl
theorem blk4 {w : World} {b : Nat} {x0 x1 x2 x3 : Value} {T : TypeId} (h : w.heap[b]? = some (.cells #[x0, x1, x2, x3] T (0, 0))) : w.cell? ⟨b, 0, none⟩ = some x0 ∧ w.cell? ⟨b, 1, none⟩ = some x1 ∧ w.cell? ⟨b, 2, none⟩ = some x2 ∧ w.cell? ⟨b, 3, none⟩ = some x3 :=
  ⟨blk_cell h 0, blk_cell h 1, blk_cell h 2, blk_cell h 3⟩
theorem at_held {w : World} {B1 B2 B3 : Nat} {x0 x1 x2 x3 x4 y0 y1 y2 y3 z0 z1 : Value} {T U V : TypeId} (h1 : w.heap[B1]? = some (.cells #[x0, x1, x2, x3, x4] T (0, 0))) (h2 : w.heap[B2]? = some (.cells #[y0, y1, y2, y3] U (0, 0))) (h3 : w.heap[B3]? = some (.cells #[z0, z1] V (0, 0))) :
    (w.cell? ⟨B1, 0, none⟩ = some x0 ∧ w.cell? ⟨B1, 1, none⟩ = some x1 ∧ w.cell? ⟨B1, 2, none⟩ = some x2 ∧ w.cell? ⟨B1, 3, none⟩ = some x3 ∧ w.cell? ⟨B1, 4, none⟩ = some x4) ∧
    (w.cell? ⟨B2, 0, none⟩ = some y0 ∧ w.cell? ⟨B2, 1, none⟩ = some y1 ∧ w.cell? ⟨B2, 2, none⟩ = some y2 ∧ w.cell? ⟨B2, 3, none⟩ = some y3) ∧ w.cell? ⟨B3, 0, none⟩ = some z0 ∧ w.cell? ⟨B3, 1, none⟩ = some z1 :=
  ⟨blk5 h1, blk4 h2, (blk2 h3).1, (blk2 h3).2.1⟩
end Go.Proofs.Ytlhndhgkoacilaa
