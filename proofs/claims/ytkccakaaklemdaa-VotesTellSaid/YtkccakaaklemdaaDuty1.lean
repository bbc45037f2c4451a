/- The walks of slices.Min, slices.Max, duty.May, and marigoldref05's May, Has, Weight. -/
import Derived.Test.YtkccakaaklemdaaRefUnder
namespace Go.Proofs.Ytkccakaaklemdaa
open Go.RowKit
structure Cfg where
  W : List Int
  seed : Int
  epoch : Int
  num : Int
  den : Int
def cfgv (A : Option Addr) (k : Nat) (c : Cfg) : Value := .agg #[.slice A c.W.length k, .int .u64 c.seed, .int .i64 c.epoch, .int .i64 c.num, .int .i64 c.den]
/-- A conf that may be. -/
def MayC (c : Cfg) : Prop := (1 ≤ c.W.length ∧ c.W.length ≤ 12 ∧ (∀ x ∈ c.W, 0 ≤ x ∧ x ≤ 1099511627776)) ∧ 1 ≤ c.epoch ∧ c.epoch ≤ 8 ∧ 0 ≤ c.num ∧ c.num ≤ c.den ∧ 1 ≤ c.den ∧ c.den ≤ 1000
instance (c : Cfg) : Decidable (MayC c) := by unfold MayC; exact inferInstance
set_option maxRecDepth 100000 in
set_option maxHeartbeats 1000000 in
theorem min_any (l : List Int) (A : Option Addr) (c : Nat) (w : World) (hr : Rd 1 encI w A l) (hne : 0 < l.length) :
    Calls Try.prog 62 #[.slice A l.length c] w fun e w' => ∃ m, e = .returned (.int .i64 m) ∧ m ∈ l ∧ (∀ x ∈ l, m ≤ x) ∧ Below w.heap.size w w' := by
  have hm := hr.1
  obtain ⟨b0, o0, rfl, hbo0, d0⟩ := hr.atI hne
  have hn1 : ¬ (l.length : Int) < 1 := by omega
  have hn2 : ¬ l.length < 1 := by omega
  go_enter Try.func62, Try.ntmps62
  rw [Nat.add_zero] at d0
  go_wp2_with fail
  go_loopw [3, 4] (fun v i wr => ∃ (k : Nat) (m : Int), 1 ≤ k ∧ k ≤ l.length ∧ i = .int .i64 k ∧ v = .int .i64 m ∧ m ∈ l ∧ (∀ x ∈ l.take k, m ≤ x) ∧ wr = w) (fun _ i _ => l.length - (intOf i).toNat)
  case atStart => exact ⟨1, l[0], Nat.le_refl _, hne, rfl, rfl, List.getElem_mem _, by rw [show (1 : Nat) = 0 + 1 from rfl, ← List.take_append_getElem hne]; simp, rfl⟩
  case round =>
    obtain ⟨k, m, hk1, hk, rfl, rfl, hmem, hall, rfl⟩ := hrel
    have hall' := Lib.hid hall
    clear hall
    by_cases hlt : k < l.length
    · obtain ⟨b, o, he, _, d⟩ := hr.atI hlt
      cases he
      obtain ⟨x, hx⟩ : ∃ x, l[k] = x := ⟨_, rfl⟩
      have hxm : x ∈ l := by rw [← hx]; exact List.getElem_mem hlt
      have hst : ∀ z, (z ≤ m ∧ z ≤ x) → ∀ y ∈ l.take (k + 1), z ≤ y := by
        intro z hz y hy
        rw [← List.take_append_getElem hlt, hx] at hy
        rcases List.mem_append.1 hy with h | h
        · have := hall'.out y h; omega
        · simp only [List.mem_singleton] at h; omega
      rw [hx] at d
      have hst' := Lib.hid hst
      clear hx hst
      go_wp2_with fail
      go_roundw
      case rel => exact ⟨k + 1, if x < m then x else m, by omega, hlt, by go_num, rfl, by split <;> assumption, hst'.out _ (by split <;> omega), trivial⟩
      case measure => simp [intOf]; omega
    · obtain rfl : k = l.length := by omega
      rw [List.take_length] at hall'
      go_wp2_with fail
      go_ret
      exact ⟨m, rfl, hmem, hall'.out, Below.refl _ _⟩
set_option maxRecDepth 100000 in
set_option maxHeartbeats 1000000 in
theorem max_any (l : List Int) (A : Option Addr) (c : Nat) (w : World) (hr : Rd 1 encI w A l) (hne : 0 < l.length) :
    Calls Try.prog 63 #[.slice A l.length c] w fun e w' => ∃ m, e = .returned (.int .i64 m) ∧ m ∈ l ∧ (∀ x ∈ l, x ≤ m) ∧ Below w.heap.size w w' := by
  have hm := hr.1
  obtain ⟨b0, o0, rfl, hbo0, d0⟩ := hr.atI hne
  have hn1 : ¬ (l.length : Int) < 1 := by omega
  have hn2 : ¬ l.length < 1 := by omega
  go_enter Try.func63, Try.ntmps63
  rw [Nat.add_zero] at d0
  go_wp2_with fail
  go_loopw [3, 4] (fun v i wr => ∃ (k : Nat) (m : Int), 1 ≤ k ∧ k ≤ l.length ∧ i = .int .i64 k ∧ v = .int .i64 m ∧ m ∈ l ∧ (∀ x ∈ l.take k, x ≤ m) ∧ wr = w) (fun _ i _ => l.length - (intOf i).toNat)
  case atStart => exact ⟨1, l[0], Nat.le_refl _, hne, rfl, rfl, List.getElem_mem _, by rw [show (1 : Nat) = 0 + 1 from rfl, ← List.take_append_getElem hne]; simp, rfl⟩
  case round =>
    obtain ⟨k, m, hk1, hk, rfl, rfl, hmem, hall, rfl⟩ := hrel
    have hall' := Lib.hid hall
    clear hall
    by_cases hlt : k < l.length
    · obtain ⟨b, o, he, _, d⟩ := hr.atI hlt
      cases he
      obtain ⟨x, hx⟩ : ∃ x, l[k] = x := ⟨_, rfl⟩
      have hxm : x ∈ l := by rw [← hx]; exact List.getElem_mem hlt
      have hst : ∀ z, (m ≤ z ∧ x ≤ z) → ∀ y ∈ l.take (k + 1), y ≤ z := by
        intro z hz y hy
        rw [← List.take_append_getElem hlt, hx] at hy
        rcases List.mem_append.1 hy with h | h
        · have := hall'.out y h; omega
        · simp only [List.mem_singleton] at h; omega
      rw [hx] at d
      have hst' := Lib.hid hst
      clear hx hst
      go_wp2_with fail
      go_roundw
      case rel => exact ⟨k + 1, if m < x then x else m, by omega, hlt, by go_num, rfl, by split <;> assumption, hst'.out _ (by split <;> omega), trivial⟩
      case measure => simp [intOf]; omega
    · obtain rfl : k = l.length := by omega
      rw [List.take_length] at hall'
      go_wp2_with fail
      go_ret
      exact ⟨m, rfl, hmem, hall'.out, Below.refl _ _⟩
def CfgOk (c : Cfg) : Prop := c.W.length ≤ 9223372036854775807
theorem mayC_W {c : Cfg} (h1 : 1 ≤ c.W.length) (h2 : c.W.length ≤ 12) {lo hi : Int} (hlo : lo ∈ c.W ∧ ∀ x ∈ c.W, lo ≤ x) (hhi : hi ∈ c.W ∧ ∀ x ∈ c.W, x ≤ hi) :
    decide (MayC c) = (decide (0 ≤ lo) && decide (hi ≤ 1099511627776) && decide (1 ≤ c.epoch ∧ c.epoch ≤ 8 ∧ 0 ≤ c.num ∧ c.num ≤ c.den ∧ 1 ≤ c.den ∧ c.den ≤ 1000)) := by
  rw [Bool.eq_iff_iff]
  simp only [Bool.and_eq_true, decide_eq_true_eq]
  constructor
  · rintro ⟨⟨_, _, h⟩, hr⟩
    exact ⟨⟨(h lo hlo.1).1, (h hi hhi.1).2⟩, hr⟩
  · rintro ⟨⟨h3, h4⟩, hr⟩
    exact ⟨⟨h1, h2, fun x hx => ⟨by have := hlo.2 x hx; omega, by have := hhi.2 x hx; omega⟩⟩, hr⟩
set_option maxRecDepth 100000 in
set_option maxHeartbeats 2000000 in
theorem dmay_any (c : Cfg) (A : Option Addr) (k : Nat) (w : World) (hr : Rd 1 encI w A c.W) :
    Calls Try.prog 52 #[cfgv A k c] w fun e w' => e = .returned (.bool (decide (MayC c))) ∧ Below w.heap.size w w' := by
  have hm := hr.1
  unfold cfgv
  have hW : ∃ W, w.alloc (.cells #[.slice A c.W.length k, .int .u64 c.seed, .int .i64 c.epoch, .int .i64 c.num, .int .i64 c.den] 25) = W := ⟨_, rfl⟩
  obtain ⟨W, hW⟩ := hW
  have hB : Below w.heap.size w W := by subst hW; exact (Below.refl _ w).alloc (Nat.le_refl _) _
  have hb : W.heap[w.heap.size]? = some (.cells #[.slice A c.W.length k, .int .u64 c.seed, .int .i64 c.epoch, .int .i64 c.num, .int .i64 c.den] 25 (0, 0)) := by subst hW; exact ha_at rfl
  have c0 := blk_cell hb 0
  by_cases h1 : 1 ≤ c.W.length ∧ c.W.length ≤ 12
  · obtain ⟨h1, h2⟩ := h1
    have hmw := fun lo hi => mayC_W (c := c) (lo := lo) (hi := hi) h1 h2
    obtain ⟨r, hrr⟩ : ∃ r, decide (MayC c) = r := ⟨_, rfl⟩
    have hneg : ∀ lo, lo ∈ c.W → lo < 0 → decide (MayC c) = false := fun lo hm hl => by
      simp only [decide_eq_false_iff_not]
      rintro ⟨⟨_, _, h⟩, _⟩
      have := (h lo hm).1
      omega
    rw [hrr]
    simp only [hrr] at hmw hneg
    have hneg' := Lib.hid hneg
    clear hneg
    have hmw' := Lib.hid hmw
    clear hmw hrr
    have hmin := fun W (hW : Below w.heap.size w W) => min_any c.W A k W (hr.below hW) h1
    have hmax := fun W (hW : Below w.heap.size w W) => max_any c.W A k W (hr.below hW) h1
    have h3 : ((c.W.length : Int) == 0) = false := by simp; intro e; rw [e] at h1; simp at h1
    have h4 : ¬ (12 : Int) < (c.W.length : Int) := by omega
    go_enter Try.func52, Try.ntmps52
    go_wp2_with (first | (go_at_call 62; refine (hmin _ hB).mono ?_; rintro e w1 ⟨lo, rfl, hlo1, hlo2, hb1⟩; have hB1 := below_call hB hB.size hb1; have hbb1 := bl_own hb1 hb; have e0 := blk_cell hbb1 0; have e2 := blk_cell hbb1 2; have e3 := blk_cell hbb1 3; have e4 := blk_cell hbb1 4; have hlo := Lib.hid (And.intro hlo1 hlo2); clear hlo1 hlo2) | (go_at_call 63; refine (hmax _ hB1).mono ?_; rintro e w2 ⟨hi, rfl, hhi1, hhi2, hb2⟩; have hB2 := below_call hB1 hB1.size hb2; have hbb2 := bl_own hb2 hbb1; have f0 := blk_cell hbb2 0; have f2 := blk_cell hbb2 2; have f3 := blk_cell hbb2 3; have f4 := blk_cell hbb2 4; have hhi := Lib.hid (And.intro hhi1 hhi2); clear hhi1 hhi2))
    all_goals go_ret
    all_goals
      first
        | (refine ⟨ret_bool ?_, hB2⟩
           rw [hmw'.out _ _ hlo.out hhi.out, Bool.eq_iff_iff]
           simp only [Bool.and_eq_true, decide_eq_true_eq, Bool.false_eq_true, false_iff]
           omega)
        | (refine ⟨ret_bool (Eq.symm (hneg'.out lo hlo.out.1 (by assumption))), hB1⟩)
  · have hres : decide (MayC c) = false := by
      simp only [decide_eq_false_iff_not]
      rintro ⟨⟨h2, h3, _⟩, _⟩
      exact h1 ⟨h2, h3⟩
    have hres' := Lib.hid hres
    clear hres
    rcases Nat.lt_or_ge 12 c.W.length with h2 | h2
    · clear h1
      go_enter Try.func52, Try.ntmps52
      go_wp2_with fail
      all_goals (go_ret; exact ⟨ret_bool hres'.out.symm, hB⟩)
    · obtain h3 : c.W.length = 0 := by omega
      clear h1 h2
      rw [h3] at c0 hW hb ⊢
      have h3' := Lib.hid h3
      clear h3
      go_enter Try.func52, Try.ntmps52
      go_wp2_with fail
      go_ret
      exact ⟨ret_bool hres'.out.symm, hB⟩
end Go.Proofs.Ytkccakaaklemdaa
