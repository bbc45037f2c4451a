/- Small words on blocks and votes in memory. -/
import Derived.Test.YtkccakaaklemdaaBase
namespace Go.Proofs.Ytkccakaaklemdaa
open Go.RowKit
theorem Rd_flat {α : Type} {k : Nat} {enc : α → List Value} (hk : ∀ x, (enc x).length = k) {w : World} {g : Nat} {cs : Array Value} {T : TypeId} {fr : Nat × Nat} {xs : List α} (hl : xs.length ≤ 9223372036854775807) (h : w.heap[g]? = some (.cells cs T fr)) (hcs : cs = (xs.flatMap enc).toArray) : Rd k enc w (some ⟨g, 0, none⟩) xs :=
  Rd_blk hl h (fun i x hx j u hu => by subst hcs; simpa using flatMap_get hk xs i x hx j u hu)
theorem encBlk_len (b : Blk) : (encBlk b).length = 5 := rfl
theorem encVote_len (b : Vote) : (encVote b).length = 4 := rfl
theorem blk5 {w : World} {b : Nat} {x0 x1 x2 x3 x4 : Value} {T : TypeId} (h : w.heap[b]? = some (.cells #[x0, x1, x2, x3, x4] T (0, 0))) : w.cell? ⟨b, 0, none⟩ = some x0 ∧ w.cell? ⟨b, 1, none⟩ = some x1 ∧ w.cell? ⟨b, 2, none⟩ = some x2 ∧ w.cell? ⟨b, 3, none⟩ = some x3 ∧ w.cell? ⟨b, 4, none⟩ = some x4 :=
  ⟨blk_cell h 0, blk_cell h 1, blk_cell h 2, blk_cell h 3, blk_cell h 4⟩
theorem infoV : (Try.prog.info? 38).map (fun i => (i.zero, i.size, i.bytes)) = some (some (.agg #[.int .i64 0, .int .i64 0, .int .u64 0, .int .u64 0]), 4, 32) := by kernel_rfl
theorem encVote_one (x : Vote) : ∀ u ∈ encVote x, u.oneCell' = true := by intro u hu; simp [encVote] at hu; rcases hu with rfl | rfl | rfl | rfl <;> rfl
theorem infoB : (Try.prog.info? 49).map (fun i => (i.zero, i.size, i.bytes)) = some (some (.agg #[.int .i64 0, .int .i64 0, .int .u64 0, .int .u64 0, .int .u64 0]), 5, 40) := by kernel_rfl
theorem encBlk_one (x : Blk) : ∀ u ∈ encBlk x, u.oneCell' = true := by intro u hu; simp [encBlk] at hu; rcases hu with rfl | rfl | rfl | rfl | rfl <;> rfl
theorem blk4 {w : World} {b : Nat} {x0 x1 x2 x3 : Value} {T : TypeId} (h : w.heap[b]? = some (.cells #[x0, x1, x2, x3] T (0, 0))) : w.cell? ⟨b, 0, none⟩ = some x0 ∧ w.cell? ⟨b, 1, none⟩ = some x1 ∧ w.cell? ⟨b, 2, none⟩ = some x2 ∧ w.cell? ⟨b, 3, none⟩ = some x3 :=
  ⟨blk_cell h 0, blk_cell h 1, blk_cell h 2, blk_cell h 3⟩
theorem infoI : (Try.prog.info? 3).map (fun i => (i.zero, i.size, i.bytes)) = some (some (.int .i64 0), 1, 8) := by kernel_rfl
theorem encI_len (x : Int) : (encI x).length = 1 := rfl
theorem encI_one (x : Int) : ∀ u ∈ encI x, u.oneCell' = true := by intro u hu; simp [encI] at hu; subst hu; rfl
def votev (v : Vote) : Value := .agg #[.int .i64 v.frm, .int .i64 v.slot, .int .u64 v.head.hi, .int .u64 v.head.lo]
end Go.Proofs.Ytkccakaaklemdaa
