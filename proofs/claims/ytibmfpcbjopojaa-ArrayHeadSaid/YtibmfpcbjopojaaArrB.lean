/- Items in memory, and which one is better, walked. -/
import Derived.Test.YtibmfpcbjopojaaGE
namespace Go.Proofs.Ytibmfpcbjopojaa
open Go.RowKit
def itemv (x : Item) : Value := .agg #[.int .u64 x.id.hi, .int .u64 x.id.lo, .int .i64 x.par, .int .i64 x.own, .int .i64 x.w, .int .i64 x.best, .int .i64 x.head]
theorem encItem_len (x : Item) : (encItem x).length = 7 := rfl
theorem encItem_one (x : Item) : ∀ u ∈ encItem x, u.oneCell' = true := by intro u hu; simp [encItem] at hu; rcases hu with rfl | rfl | rfl | rfl | rfl | rfl | rfl <;> rfl
theorem infoIt : (Try.prog.info? 103).map (fun i => (i.zero, i.size, i.bytes)) = some (some (.agg #[.int .u64 0, .int .u64 0, .int .i64 0, .int .i64 0, .int .i64 0, .int .i64 0, .int .i64 0]), 7, 56) := by kernel_rfl
theorem Rd.atItem {w : World} {A : Option Addr} {xs : List Item} (h : Rd 7 encItem w A xs) {i : Nat} (hi : i < xs.length) :
    ∃ b o, A = some ⟨b, o, none⟩ ∧ b < w.heap.size ∧ w.cell? ⟨b, o + i * 7, none⟩ = some (.int .u64 (itm xs i).id.hi) ∧ w.cell? ⟨b, o + i * 7 + 1, none⟩ = some (.int .u64 (itm xs i).id.lo) ∧
      w.cell? ⟨b, o + i * 7 + 2, none⟩ = some (.int .i64 (itm xs i).par) ∧ w.cell? ⟨b, o + i * 7 + 3, none⟩ = some (.int .i64 (itm xs i).own) ∧ w.cell? ⟨b, o + i * 7 + 4, none⟩ = some (.int .i64 (itm xs i).w) ∧
      w.cell? ⟨b, o + i * 7 + 5, none⟩ = some (.int .i64 (itm xs i).best) ∧ w.cell? ⟨b, o + i * 7 + 6, none⟩ = some (.int .i64 (itm xs i).head) := by
  obtain ⟨b, o, hA, hlt, hc⟩ := h.at hi
  rw [itm_lt hi]
  exact ⟨b, o, hA, hlt, hc 0 _ rfl, hc 1 _ rfl, hc 2 _ rfl, hc 3 _ rfl, hc 4 _ rfl, hc 5 _ rfl, hc 6 _ rfl⟩
theorem blk7 {w : World} {b : Nat} {x0 x1 x2 x3 x4 x5 x6 : Value} {T : TypeId} (h : w.heap[b]? = some (.cells #[x0, x1, x2, x3, x4, x5, x6] T (0, 0))) :
    w.cell? ⟨b, 0, none⟩ = some x0 ∧ w.cell? ⟨b, 1, none⟩ = some x1 ∧ w.cell? ⟨b, 2, none⟩ = some x2 ∧ w.cell? ⟨b, 3, none⟩ = some x3 ∧ w.cell? ⟨b, 4, none⟩ = some x4 ∧ w.cell? ⟨b, 5, none⟩ = some x5 ∧ w.cell? ⟨b, 6, none⟩ = some x6 :=
  ⟨blk_cell h 0, blk_cell h 1, blk_cell h 2, blk_cell h 3, blk_cell h 4, blk_cell h 5, blk_cell h 6⟩
theorem better_dec (x y : Item) : better x y = decide (y.w < x.w ∨ x.w = y.w ∧ idLess y.id x.id = true) := by
  unfold better
  rw [Bool.eq_iff_iff]
  simp
set_option maxRecDepth 100000 in
set_option maxHeartbeats 1000000 in
theorem better_any (a : List Item) (i k : Nat) (hi : i < a.length) (hk : k < a.length) (A : Option Addr) (c : Nat) (w : World) (hr : Rd 7 encItem w A a) :
    Calls Try.prog 89 #[.slice A a.length c, .int .i64 i, .int .i64 k] w fun e w' => e = .returned (.bool (better (itm a i) (itm a k))) ∧ Below w.heap.size w w' := by
  have hm := hr.1
  obtain ⟨b, o, rfl, hb, c0, c1, c2, c3, c4, c5, c6⟩ := hr.atItem hi
  obtain ⟨b', o', he, _, d0, d1, d2, d3, d4, d5, d6⟩ := hr.atItem hk
  cases he
  rw [better_dec]
  obtain ⟨x, hx⟩ : ∃ x, itm a i = x := ⟨_, rfl⟩
  obtain ⟨y, hy⟩ : ∃ y, itm a k = y := ⟨_, rfl⟩
  rw [hx] at c0 c1 c2 c3 c4 c5 c6 ⊢
  rw [hy] at d0 d1 d2 d3 d4 d5 d6 ⊢
  clear hx hy
  have hless := fun V => mless_any y.id x.id V
  obtain ⟨q, hq⟩ : ∃ q, idLess y.id x.id = q := ⟨_, rfl⟩
  rw [hq] at hless ⊢
  clear hq
  unfold idv at *
  go_enter Try.func89, Try.ntmps89
  go_wp2_with fail
  go_region
  all_goals
    first
      | (obtain ⟨V, hV⟩ : ∃ V, ((w.alloc (.cells #[.int .u64 x.id.hi, .int .u64 x.id.lo, .int .i64 x.par, .int .i64 x.own, .int .i64 x.w, .int .i64 x.best, .int .i64 x.head] 103)).alloc (.cells #[.int .u64 y.id.hi, .int .u64 y.id.lo, .int .i64 y.par, .int .i64 y.own, .int .i64 y.w, .int .i64 y.best, .int .i64 y.head] 103)).drew = V := ⟨_, rfl⟩
         rw [hV]
         have hB : Below w.heap.size w V := by subst hV; exact (((Below.refl _ w).alloc (Nat.le_refl _) _).alloc (by simp) _).drew
         have b0 : V.heap[w.heap.size]? = some (.cells #[.int .u64 x.id.hi, .int .u64 x.id.lo, .int .i64 x.par, .int .i64 x.own, .int .i64 x.w, .int .i64 x.best, .int .i64 x.head] 103 (0, 0)) := by subst hV; exact ha_lt (ha_at rfl)
         have b1 : V.heap[w.heap.size + 1]? = some (.cells #[.int .u64 y.id.hi, .int .u64 y.id.lo, .int .i64 y.par, .int .i64 y.own, .int .i64 y.w, .int .i64 y.best, .int .i64 y.head] 103 (0, 0)) := by subst hV; exact ha_at (by simp))
      | (obtain ⟨V, hV⟩ : ∃ V, ((w.alloc (.cells #[.int .u64 y.id.hi, .int .u64 y.id.lo, .int .i64 y.par, .int .i64 y.own, .int .i64 y.w, .int .i64 y.best, .int .i64 y.head] 103)).alloc (.cells #[.int .u64 x.id.hi, .int .u64 x.id.lo, .int .i64 x.par, .int .i64 x.own, .int .i64 x.w, .int .i64 x.best, .int .i64 x.head] 103)).drew = V := ⟨_, rfl⟩
         rw [hV]
         have hB : Below w.heap.size w V := by subst hV; exact (((Below.refl _ w).alloc (Nat.le_refl _) _).alloc (by simp) _).drew
         have b0 : V.heap[w.heap.size + 1]? = some (.cells #[.int .u64 x.id.hi, .int .u64 x.id.lo, .int .i64 x.par, .int .i64 x.own, .int .i64 x.w, .int .i64 x.best, .int .i64 x.head] 103 (0, 0)) := by subst hV; exact ha_at (by simp)
         have b1 : V.heap[w.heap.size]? = some (.cells #[.int .u64 y.id.hi, .int .u64 y.id.lo, .int .i64 y.par, .int .i64 y.own, .int .i64 y.w, .int .i64 y.best, .int .i64 y.head] 103 (0, 0)) := by subst hV; exact ha_lt (ha_at rfl))
    clear hV c0 c1 c2 c3 c4 c5 c6 d0 d1 d2 d3 d4 d5 d6
    obtain ⟨c0, c1, c2, c3, c4, c5, c6⟩ := blk7 b0
    obtain ⟨d0, d1, d2, d3, d4, d5, d6⟩ := blk7 b1
    go_wp2_with (go_at_call 41; with_reducible refine (hless _).mono ?_; clear hless; rintro e w1 ⟨rfl, hb1⟩; have hB1 := below_call hB hB.size hb1)
    all_goals
      go_ret
      first
        | (refine ⟨ret_bool ?_, hB1⟩; cases q <;> simp <;> omega)
        | (refine ⟨ret_bool ?_, hB⟩; simp <;> omega)
end Go.Proofs.Ytibmfpcbjopojaa
