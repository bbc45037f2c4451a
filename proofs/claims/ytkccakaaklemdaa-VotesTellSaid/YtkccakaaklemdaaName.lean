/- The walks of tree.Name and slices.Index, slices.Contains of IDs. -/
import Derived.Test.YtkccakaaklemdaaMix
import Derived.Test.YtkccakaaklemdaaKeys
import Derived.Lib.Hide
namespace Go.Proofs.Ytkccakaaklemdaa
open Go.RowKit
def nameOf (b : Blk) : ID := mixOf [1, IntKind.u64.wrap b.slot, IntKind.u64.wrap b.frm, b.par.1, b.par.2, b.salt]
set_option maxRecDepth 100000 in
set_option maxHeartbeats 1000000 in
theorem name_any (b : Blk) (w : World) :
    Calls Try.prog 29 #[.agg #[.int .i64 b.slot, .int .i64 b.frm, .int .u64 b.par.1, .int .u64 b.par.2, .int .u64 b.salt]] w fun e w' => e = .returned (idv (nameOf b)) ∧ Below w.heap.size w w' := by
  go_enter Try.func29, Try.ntmps29
  go_wp2_with fail
  refine (of_any [1, IntKind.u64.wrap b.slot, IntKind.u64.wrap b.frm, b.par.1, b.par.2, b.salt] _ _ _ (Rd_newU (by simp) rfl (by simp))).mono ?_
  rintro e w1 ⟨rfl, hb⟩
  have hr : w1.heap[w.heap.size + 1]? = some (.cells #[.int .u64 0, .int .u64 0] 29 (0, 0)) := bl_own hb (ha_lt (ha_at (by simp)))
  obtain ⟨d0, d1, g0, g1⟩ := blk2 hr
  go_wp2
  refine bodyPost_ret (v := idv (nameOf b)) ?_ rfl ⟨rfl, ?_⟩
  · simp [results, Try.results29, go_sem, d0, d1, idv, nameOf]
  · exact ((below_call ((((Below.refl _ w).alloc (Nat.le_refl _) _).alloc (by simp <;> omega) _).alloc (by simp <;> omega) _) (by simp <;> omega) hb).setCell (p := ⟨w.heap.size + 1, 0, none⟩) (by simp) _).setCell (p := ⟨w.heap.size + 1, 1, none⟩) (by simp) _

/-- Where x is; -1: nowhere. -/
def idxI {α : Type} [DecidableEq α] (xs : List α) (x : α) : Int := match xs.findIdx? fun y => decide (y = x) with | some i => (i : Int) | none => -1
theorem idx_hit {α : Type} [DecidableEq α] {xs : List α} {x : α} {k : Nat} (hlt : k < xs.length) (hno : x ∉ xs.take k) (h : x = xs[k]) : idxI xs x = (k : Int) := by
  have : xs.findIdx? (fun y => decide (y = x)) = some k := by
    rw [List.findIdx?_eq_some_iff_getElem]
    refine ⟨hlt, by simp [h], fun j hj => ?_⟩
    have : xs[j] ≠ x := fun e => hno (by rw [← e]; exact List.mem_take_iff_getElem.2 ⟨j, by omega, rfl⟩)
    simpa using this
  unfold idxI
  rw [this]
theorem idx_miss {α : Type} [DecidableEq α] {xs : List α} {x : α} (hno : x ∉ xs) : idxI xs x = -1 := by
  have : xs.findIdx? (fun y => decide (y = x)) = none := by
    rw [List.findIdx?_eq_none_iff]
    intro y hy
    have : y ≠ x := fun e => hno (e ▸ hy)
    simpa using this
  unfold idxI
  rw [this]
theorem idx_mem {α : Type} [DecidableEq α] (xs : List α) (x : α) : decide (0 ≤ idxI xs x) = decide (x ∈ xs) := by
  by_cases h : x ∈ xs
  · obtain ⟨i, hi⟩ : ∃ i, xs.findIdx? (fun y => decide (y = x)) = some i := by
      cases hf : xs.findIdx? (fun y => decide (y = x)) with
      | some i => exact ⟨i, rfl⟩
      | none =>
        rw [List.findIdx?_eq_none_iff] at hf
        have := hf x h
        simp at this
    have : idxI xs x = (i : Int) := by unfold idxI; rw [hi]
    rw [this]
    simp [h]
  · rw [idx_miss h]
    simp [h]
theorem idx_low {α : Type} [DecidableEq α] (xs : List α) (x : α) : -1 ≤ idxI xs x := by
  unfold idxI
  cases xs.findIdx? (fun y => decide (y = x)) with
  | none => exact Int.le_refl _
  | some i => simp only; omega
theorem not_mem_step {α : Type} {xs : List α} {x : α} {k : Nat} (hlt : k < xs.length) (hno : x ∉ xs.take k) (h : ¬ x = xs[k]) : x ∉ xs.take (k + 1) := by
  rw [← List.take_append_getElem hlt]
  simp only [List.mem_append, List.mem_singleton]
  exact fun e => e.elim hno h
set_option maxRecDepth 100000 in
set_option maxHeartbeats 1000000 in
theorem index_any (x : ID) (xs : List ID) (A : Option Addr) (c : Nat) (w : World) (hr : Rd 2 encID w A xs) :
    Calls Try.prog 51 #[.slice A xs.length c, idv x] w fun e w' => e = .returned (.int .i64 (idxI xs x)) ∧ Below w.heap.size w w' := by
  unfold idv
  go_enter Try.func51, Try.ntmps51
  go_wp2_with fail
  have hm := hr.1
  go_loopw [5, 8] (fun x' i wr => ∃ k : Nat, k ≤ xs.length ∧ i = .int .i64 k ∧ x ∉ xs.take k ∧ wr.heap[w.heap.size]? = some (.cells #[.int .u64 x.1, .int .u64 x.2] 29 (0, 0)) ∧ Below w.heap.size w wr) (fun _ i _ => xs.length - (intOf i).toNat)
  case atStart => exact ⟨0, Nat.zero_le _, rfl, by simp, ha_at rfl, (Below.refl _ w).alloc (Nat.le_refl _) _⟩
  case round =>
    obtain ⟨k, hk, rfl, hno, hb, hB⟩ := hrel
    obtain ⟨c0, c1, f0, f1⟩ := blk2 hb
    by_cases hlt : k < xs.length
    · obtain ⟨b, o, rfl, hbo, d0, d1⟩ := (hr.below hB).atID hlt
      have heq := eql_id x xs[k]
      unfold idv at heq
      by_cases hx : x = xs[k]
      · have hd : decide (x = xs[k]) = true := by simpa using hx
        rw [hd] at heq
        have hi := Lib.hid (idx_hit hlt hno hx)
        clear hd hx
        go_wp2_with fail
        go_quiet (fail)
        go_wp2
        go_ret
        exact ⟨ret_int hi.out.symm, pw_below_drewN hB _⟩
      · have hd : decide (x = xs[k]) = false := by simpa using hx
        rw [hd] at heq
        have hn := not_mem_step hlt hno hx
        clear hd hx
        go_wp2_with fail
        go_quiet (fail)
        go_wp2
        go_roundw
        case rel => exact ⟨k + 1, hlt, by go_num, hn, hb, pw_below_drewN hB _⟩
        case measure => simp [intOf]; omega
    · obtain rfl : k = xs.length := by omega
      have hi := Lib.hid (idx_miss (by simpa using hno : x ∉ xs))
      go_wp2_with fail
      go_ret
      exact ⟨ret_int hi.out.symm, hB⟩
set_option maxRecDepth 100000 in
set_option maxHeartbeats 1000000 in
theorem contains_any (x : ID) (xs : List ID) (A : Option Addr) (c : Nat) (w : World) (hr : Rd 2 encID w A xs) :
    Calls Try.prog 35 #[.slice A xs.length c, idv x] w fun e w' => e = .returned (.bool (decide (x ∈ xs))) ∧ Below w.heap.size w w' := by
  have hi := Lib.hid (idx_mem xs x)
  have ht := index_any x xs A c (w.alloc (.cells #[.int .u64 x.1, .int .u64 x.2] 29)) (hr.below ((Below.refl _ w).alloc (Nat.le_refl _) _))
  unfold idv at *
  go_enter Try.func35, Try.ntmps35
  go_wp2_with (go_at_call 51; refine ht.mono ?_; clear ht; rintro e w' ⟨rfl, hb⟩)
  go_ret
  exact ⟨ret_bool hi.out, below_call ((Below.refl _ w).alloc (Nat.le_refl _) _) (by simp <;> omega) hb⟩
end Go.Proofs.Ytkccakaaklemdaa
