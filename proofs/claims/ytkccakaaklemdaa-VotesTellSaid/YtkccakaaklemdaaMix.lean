/- The walks of the packages mix and marigoldref02: what each function computes. -/
import Derived.Test.YtkccakaaklemdaaProg
import Derived.WalkKit
import Derived.WalkSpells
import Derived.WalkLawsBesides
import Derived.Deep.QuietTactic
import Derived.BigQuiet
import Derived.Test.YtkccakaaklemdaaBase
import Derived.Deep.RegionHeld3
import Derived.StillTailTactics
namespace Go.Proofs.Ytkccakaaklemdaa
open Go.RowKit
def mixWord (a : Int) : Int :=
  let x := IntKind.u64.wrap (bits BinOp.xor IntKind.u64 a (a / 1073741824) * 13787848793156543929)
  let y := IntKind.u64.wrap (bits BinOp.xor IntKind.u64 x (x / 134217728) * 10723151780598845931)
  bits BinOp.xor IntKind.u64 y (y / 2147483648)
def mixStep (h x : Int) : Int := mixWord (IntKind.u64.wrap (bits BinOp.xor IntKind.u64 h x + 11400714819323198485))
set_option maxHeartbeats 400000 in
theorem word_any (a : Int) (w : World) :
    Calls Try.prog 75 #[.int .u64 a] w fun e w' => e = .returned (.int .u64 (mixWord a)) ∧ w' = w := by
  go_enter Try.func75, Try.ntmps75
  go_wp2
  go_ret
  exact ⟨rfl, rfl⟩
set_option maxHeartbeats 400000 in
theorem step_any (h x : Int) (w : World) :
    Calls Try.prog 59 #[.int .u64 h, .int .u64 x] w fun e w' => e = .returned (.int .u64 (mixStep h x)) ∧ w' = w := by
  go_enter Try.func59, Try.ntmps59
  go_wp2_with (go_at_call 75; refine (word_any _ _).mono ?_; rintro e w' ⟨rfl, rfl⟩)
  go_ret
  exact ⟨rfl, rfl⟩
set_option maxRecDepth 100000 in
set_option maxHeartbeats 400000 in
theorem of1_any (x a b : Int) (B : Nat) (w : World) (h0 : w.cell? ⟨B, 0, none⟩ = some (.int .u64 a)) (h1 : w.cell? ⟨B, 1, none⟩ = some (.int .u64 b)) (hf0 : w.frozen? ⟨B, 0, none⟩ = false) (hf1 : w.frozen? ⟨B, 1, none⟩ = false) :
    Calls Try.prog 58 #[.int .u64 x, .pointer (some ⟨B, 0, none⟩)] w fun e w' => e = .returned (.tuple #[]) ∧ ∃ n, w' = ((w.setCell ⟨B, 0, none⟩ (.int .u64 (mixStep a x))).setCell ⟨B, 1, none⟩ (.int .u64 (mixStep b (bits BinOp.xor IntKind.u64 IntKind.u64.max x)))).drewN n := by
  go_enter Try.func58, Try.ntmps58
  refine wp_region_still_tail 10 (by kernel_rfl) (by kernel_rfl) ?_
  simp only [List.take_succ_cons, List.take_zero, List.drop_succ_cons, List.drop_zero]
  repeat (first | still_step | still_call (step_any _ _ _))
  refine wpStill_nil ?_
  change wpList _ _ _ _ _ w.drew
  go_wp2
  go_end0
  exact ⟨rfl, 1, rfl⟩
/-- The same, by the block. -/
theorem of1_blk (x a b : Int) (B T : Nat) (w : World) (h : w.heap[B]? = some (.cells #[.int .u64 a, .int .u64 b] T (0, 0))) :
    Calls Try.prog 58 #[.int .u64 x, .pointer (some ⟨B, 0, none⟩)] w fun e w' => e = .returned (.tuple #[]) ∧
      w'.heap[B]? = some (.cells #[.int .u64 (mixStep a x), .int .u64 (mixStep b (bits BinOp.xor IntKind.u64 IntKind.u64.max x))] T (0, 0)) ∧ w.grownBy w' (some B) := by
  refine (of1_any x a b B w (by simp [World.cell?, h]) (by simp [World.cell?, h]) (by simp [World.frozen?, h]) (by simp [World.frozen?, h])).mono ?_
  rintro e w' ⟨rfl, n, rfl⟩
  refine ⟨rfl, ?_, ⟨rfl, rfl, rfl, by simp [World.setCell], fun k hk hne => ?_⟩⟩
  · show ((w.setCell _ _).setCell _ _).heap[B]? = _
    rw [heap_setCell_same _ _ _ _ _ _ (heap_setCell_same _ _ _ _ _ _ h)]
    rfl
  · show ((w.setCell _ _).setCell _ _).heap[k]? = _
    have hne' : k ≠ B := fun e => hne (by rw [e])
    rw [heap_setCell_other _ _ _ _ hne', heap_setCell_other _ _ _ _ hne']
/-- What the words come to: one pair. -/
def mixFold : ID → List Int → ID
  | p, [] => p
  | p, x :: l => mixFold ⟨mixStep p.1 x, mixStep p.2 (bits BinOp.xor IntKind.u64 IntKind.u64.max x)⟩ l
theorem mixFold_snoc (p : ID) (l : List Int) (x : Int) : mixFold p (l ++ [x]) = ⟨mixStep (mixFold p l).1 x, mixStep (mixFold p l).2 (bits BinOp.xor IntKind.u64 IntKind.u64.max x)⟩ := by
  induction l generalizing p with
  | nil => rfl
  | cons y l ih => exact ih _
def mixOf (l : List Int) : ID := mixFold ⟨1, 2⟩ (l ++ [(l.length : Int)])
set_option maxRecDepth 100000 in
set_option maxHeartbeats 1000000 in
theorem of_any (l : List Int) (A : Option Addr) (c : Nat) (w : World) (hr : Rd 1 encU w A l) :
    Calls Try.prog 46 #[.slice A l.length c] w fun e w' => e = .returned (.agg #[.int .u64 (mixOf l).1, .int .u64 (mixOf l).2]) ∧ Below w.heap.size w w' := by
  go_enter Try.func46, Try.ntmps46
  go_wp2_with fail
  have hm := hr.1
  go_loopw [6, 11] (fun x i wr => ∃ k : Nat, k ≤ l.length ∧ i = .int .i64 k ∧ wr.heap[w.heap.size + 1]? = some (.cells #[.int .u64 (mixFold ⟨1, 2⟩ (l.take k)).1, .int .u64 (mixFold ⟨1, 2⟩ (l.take k)).2] 29 (0, 0)) ∧ wr.heap[w.heap.size]? = some (.cells #[.int .u64 0, .int .u64 0] 29 (0, 0)) ∧ Below w.heap.size w wr) (fun _ i _ => l.length - (intOf i).toNat)
  case atStart =>
    exact ⟨0, Nat.zero_le _, rfl, by rw [heap_alloc_get, if_pos (by simp)]; rfl, by rw [heap_alloc_get, if_neg (by simp), heap_alloc_get, if_pos rfl], ((Below.refl _ w).alloc (Nat.le_refl _) _).alloc (by simp) _⟩
  case round =>
    obtain ⟨k, hk, rfl, hb1, hb0, hB⟩ := hrel
    by_cases hlt : k < l.length
    · obtain ⟨b, o, rfl, hbo, hc⟩ := (hr.below hB).atU hlt
      go_wp2_with (go_at_call 58; refine (of1_blk _ _ _ _ _ _ hb1).mono ?_; rintro e w' ⟨rfl, hb1', hg⟩)
      go_roundw
      case rel => exact ⟨k + 1, hlt, by go_num, by rw [hb1', ← List.take_append_getElem hlt, mixFold_snoc], grown_own hg hb0 (by simp), below_step hB hB.size hg (by simp)⟩
      case measure => simp [intOf]; omega
    · obtain rfl : k = l.length := by omega
      have hz0 := blk_free hb0
      have hlt0 := lt_of_block hb0
      go_wp2_with (go_at_call 58; refine (of1_blk _ _ _ _ _ _ hb1).mono ?_; rintro e w' ⟨rfl, hb1', hg⟩; obtain ⟨c0, c1, f0, f1⟩ := blk2 hb1'; obtain ⟨d0, d1, g0, g1⟩ := blk2 (grown_own hg hb0 (by simp)))
      refine bodyPost_ret (v := .agg #[.int .u64 (mixOf l).1, .int .u64 (mixOf l).2]) ?_ rfl ⟨rfl, ?_⟩
      · simp [results, Try.results46, go_sem, d0, d1, mixOf, mixFold_snoc]
      · exact ((below_step hB hB.size hg (by simp)).setCell (p := ⟨w.heap.size, 0, none⟩) (Nat.le_refl _) _).setCell (p := ⟨w.heap.size, 1, none⟩) (Nat.le_refl _) _
end Go.Proofs.Ytkccakaaklemdaa
