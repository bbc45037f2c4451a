/- GC: several texts in one. -/
import Derived.Test.YtaohkcdfjjiggaaGreatGB
import Derived.RangeFuncNested
import Derived.RangeFuncBound
import Derived.RangeFuncCalls
import Derived.RangeFuncLeaves
import Derived.Shelf.Abstract
import Derived.Shelf.RegionOpen
import Derived.WalkKit
import Derived.OwnWalkIn
import Derived.TacticsInMore
import Derived.LoopNIn
import Derived.LoopIn
import Derived.Test.YtaohkcdfjjiggaaGreatGA
/-! The walks of slices.Min, slices.Max, duty.May, and marigoldref05's May, Has, Weight. -/
namespace Go.Proofs.YtaohkcdfjjiggaaGreat
open Go.RowKit
structure Cfg where
  W : List Int
  seed : Int
  epoch : Int
  num : Int
  den : Int
def cfgv (A : Option Addr) (k : Nat) (c : Cfg) : Value := .agg #[.slice A c.W.length k, .int .u64 c.seed, .int .i64 c.epoch, .int .i64 c.num, .int .i64 c.den]
/-- A conf that may be. -/
def MayC (c : Cfg) : Prop := (1 ≤ c.W.length ∧ c.W.length ≤ 12 ∧ (∀ x ∈ c.W, 0 ≤ x ∧ x ≤ 1099511627776)) ∧ 1 ≤ c.epoch ∧ c.epoch ≤ 8 ∧ 0 ≤ c.num ∧ c.num ≤ c.den ∧ 1 ≤ c.den ∧ c.den ≤ 1000
instance (c : Cfg) : Decidable (MayC c) := by unfold MayC; exact inferInstance
set_option maxRecDepth 100000 in
set_option maxHeartbeats 1000000 in
theorem min_any (l : List Int) (A : Option Addr) (c : Nat) (w : World) (hr : Rd 1 encI w A l) (hne : 0 < l.length) :
    Calls Tryz.prog 49 #[.slice A l.length c] w fun e w' => ∃ m, e = .returned (.int .i64 m) ∧ m ∈ l ∧ (∀ x ∈ l, m ≤ x) ∧ Below w.heap.size w w' := by
  have hm := hr.1
  obtain ⟨b0, o0, rfl, hbo0, d0⟩ := hr.atI hne
  have hn1 : ¬ (l.length : Int) < 1 := by omega
  have hn2 : ¬ l.length < 1 := by omega
  go_enter Tryz.func49, Tryz.ntmps49
  rw [Nat.add_zero] at d0
  go_wp2_with fail
  go_loopw [3, 4] (fun v i wr => ∃ (k : Nat) (m : Int), 1 ≤ k ∧ k ≤ l.length ∧ i = .int .i64 k ∧ v = .int .i64 m ∧ m ∈ l ∧ (∀ x ∈ l.take k, m ≤ x) ∧ wr = w) (fun _ i _ => l.length - (intOf i).toNat)
  case atStart => exact ⟨1, l[0], Nat.le_refl _, hne, rfl, rfl, List.getElem_mem _, by rw [show (1 : Nat) = 0 + 1 from rfl, ← List.take_append_getElem hne]; simp, rfl⟩
  case round =>
    obtain ⟨k, m, hk1, hk, rfl, rfl, hmem, hall, rfl⟩ := hrel
    have hall' := Lib.hid hall
    clear hall
    by_cases hlt : k < l.length
    · obtain ⟨b, o, he, _, d⟩ := hr.atI hlt
      cases he
      obtain ⟨x, hx⟩ : ∃ x, l[k] = x := ⟨_, rfl⟩
      have hxm : x ∈ l := by rw [← hx]; exact List.getElem_mem hlt
      have hst : ∀ z, (z ≤ m ∧ z ≤ x) → ∀ y ∈ l.take (k + 1), z ≤ y := by
        intro z hz y hy
        rw [← List.take_append_getElem hlt, hx] at hy
        rcases List.mem_append.1 hy with h | h
        · have := hall'.out y h; omega
        · simp only [List.mem_singleton] at h; omega
      rw [hx] at d
      have hst' := Lib.hid hst
      clear hx hst
      go_wp2_with fail
      go_roundw
      case rel => exact ⟨k + 1, if x < m then x else m, by omega, hlt, by go_num, rfl, by split <;> assumption, hst'.out _ (by split <;> omega), trivial⟩
      case measure => simp [intOf]; omega
    · obtain rfl : k = l.length := by omega
      rw [List.take_length] at hall'
      go_wp2_with fail
      go_ret
      exact ⟨m, rfl, hmem, hall'.out, Below.refl _ _⟩
set_option maxRecDepth 100000 in
set_option maxHeartbeats 1000000 in
theorem max_any (l : List Int) (A : Option Addr) (c : Nat) (w : World) (hr : Rd 1 encI w A l) (hne : 0 < l.length) :
    Calls Tryz.prog 50 #[.slice A l.length c] w fun e w' => ∃ m, e = .returned (.int .i64 m) ∧ m ∈ l ∧ (∀ x ∈ l, x ≤ m) ∧ Below w.heap.size w w' := by
  have hm := hr.1
  obtain ⟨b0, o0, rfl, hbo0, d0⟩ := hr.atI hne
  have hn1 : ¬ (l.length : Int) < 1 := by omega
  have hn2 : ¬ l.length < 1 := by omega
  go_enter Tryz.func50, Tryz.ntmps50
  rw [Nat.add_zero] at d0
  go_wp2_with fail
  go_loopw [3, 4] (fun v i wr => ∃ (k : Nat) (m : Int), 1 ≤ k ∧ k ≤ l.length ∧ i = .int .i64 k ∧ v = .int .i64 m ∧ m ∈ l ∧ (∀ x ∈ l.take k, x ≤ m) ∧ wr = w) (fun _ i _ => l.length - (intOf i).toNat)
  case atStart => exact ⟨1, l[0], Nat.le_refl _, hne, rfl, rfl, List.getElem_mem _, by rw [show (1 : Nat) = 0 + 1 from rfl, ← List.take_append_getElem hne]; simp, rfl⟩
  case round =>
    obtain ⟨k, m, hk1, hk, rfl, rfl, hmem, hall, rfl⟩ := hrel
    have hall' := Lib.hid hall
    clear hall
    by_cases hlt : k < l.length
    · obtain ⟨b, o, he, _, d⟩ := hr.atI hlt
      cases he
      obtain ⟨x, hx⟩ : ∃ x, l[k] = x := ⟨_, rfl⟩
      have hxm : x ∈ l := by rw [← hx]; exact List.getElem_mem hlt
      have hst : ∀ z, (m ≤ z ∧ x ≤ z) → ∀ y ∈ l.take (k + 1), y ≤ z := by
        intro z hz y hy
        rw [← List.take_append_getElem hlt, hx] at hy
        rcases List.mem_append.1 hy with h | h
        · have := hall'.out y h; omega
        · simp only [List.mem_singleton] at h; omega
      rw [hx] at d
      have hst' := Lib.hid hst
      clear hx hst
      go_wp2_with fail
      go_roundw
      case rel => exact ⟨k + 1, if m < x then x else m, by omega, hlt, by go_num, rfl, by split <;> assumption, hst'.out _ (by split <;> omega), trivial⟩
      case measure => simp [intOf]; omega
    · obtain rfl : k = l.length := by omega
      rw [List.take_length] at hall'
      go_wp2_with fail
      go_ret
      exact ⟨m, rfl, hmem, hall'.out, Below.refl _ _⟩
def CfgOk (c : Cfg) : Prop := c.W.length ≤ 9223372036854775807
theorem mayC_W {c : Cfg} (h1 : 1 ≤ c.W.length) (h2 : c.W.length ≤ 12) {lo hi : Int} (hlo : lo ∈ c.W ∧ ∀ x ∈ c.W, lo ≤ x) (hhi : hi ∈ c.W ∧ ∀ x ∈ c.W, x ≤ hi) :
    decide (MayC c) = (decide (0 ≤ lo) && decide (hi ≤ 1099511627776) && decide (1 ≤ c.epoch ∧ c.epoch ≤ 8 ∧ 0 ≤ c.num ∧ c.num ≤ c.den ∧ 1 ≤ c.den ∧ c.den ≤ 1000)) := by
  rw [Bool.eq_iff_iff]
  simp only [Bool.and_eq_true, decide_eq_true_eq]
  constructor
  · rintro ⟨⟨_, _, h⟩, hr⟩
    exact ⟨⟨(h lo hlo.1).1, (h hi hhi.1).2⟩, hr⟩
  · rintro ⟨⟨h3, h4⟩, hr⟩
    exact ⟨⟨h1, h2, fun x hx => ⟨by have := hlo.2 x hx; omega, by have := hhi.2 x hx; omega⟩⟩, hr⟩
set_option maxRecDepth 100000 in
set_option maxHeartbeats 2000000 in
theorem dmay_any (c : Cfg) (A : Option Addr) (k : Nat) (w : World) (hr : Rd 1 encI w A c.W) :
    Calls Tryz.prog 23 #[cfgv A k c] w fun e w' => e = .returned (.bool (decide (MayC c))) ∧ Below w.heap.size w w' := by
  have hm := hr.1
  unfold cfgv
  have hW : ∃ W, w.alloc (.cells #[.slice A c.W.length k, .int .u64 c.seed, .int .i64 c.epoch, .int .i64 c.num, .int .i64 c.den] 25) = W := ⟨_, rfl⟩
  obtain ⟨W, hW⟩ := hW
  have hB : Below w.heap.size w W := by subst hW; exact (Below.refl _ w).alloc (Nat.le_refl _) _
  have hb : W.heap[w.heap.size]? = some (.cells #[.slice A c.W.length k, .int .u64 c.seed, .int .i64 c.epoch, .int .i64 c.num, .int .i64 c.den] 25 (0, 0)) := by subst hW; exact ha_at rfl
  have c0 := blk_cell hb 0
  by_cases h1 : 1 ≤ c.W.length ∧ c.W.length ≤ 12
  · obtain ⟨h1, h2⟩ := h1
    have hmw := fun lo hi => mayC_W (c := c) (lo := lo) (hi := hi) h1 h2
    obtain ⟨r, hrr⟩ : ∃ r, decide (MayC c) = r := ⟨_, rfl⟩
    have hneg : ∀ lo, lo ∈ c.W → lo < 0 → decide (MayC c) = false := fun lo hm hl => by
      simp only [decide_eq_false_iff_not]
      rintro ⟨⟨_, _, h⟩, _⟩
      have := (h lo hm).1
      omega
    rw [hrr]
    simp only [hrr] at hmw hneg
    have hneg' := Lib.hid hneg
    clear hneg
    have hmw' := Lib.hid hmw
    clear hmw hrr
    have hmin := fun W (hW : Below w.heap.size w W) => min_any c.W A k W (hr.below hW) h1
    have hmax := fun W (hW : Below w.heap.size w W) => max_any c.W A k W (hr.below hW) h1
    have h3 : ((c.W.length : Int) == 0) = false := by simp; intro e; rw [e] at h1; simp at h1
    have h4 : ¬ (12 : Int) < (c.W.length : Int) := by omega
    go_enter Tryz.func23, Tryz.ntmps23
    go_wp2_with (first | (go_at_call 49; refine (hmin _ hB).mono ?_; rintro e w1 ⟨lo, rfl, hlo1, hlo2, hb1⟩; have hB1 := below_call hB hB.size hb1; have hbb1 := bl_own hb1 hb; have e0 := blk_cell hbb1 0; have e2 := blk_cell hbb1 2; have e3 := blk_cell hbb1 3; have e4 := blk_cell hbb1 4; have hlo := Lib.hid (And.intro hlo1 hlo2); clear hlo1 hlo2) | (go_at_call 50; refine (hmax _ hB1).mono ?_; rintro e w2 ⟨hi, rfl, hhi1, hhi2, hb2⟩; have hB2 := below_call hB1 hB1.size hb2; have hbb2 := bl_own hb2 hbb1; have f0 := blk_cell hbb2 0; have f2 := blk_cell hbb2 2; have f3 := blk_cell hbb2 3; have f4 := blk_cell hbb2 4; have hhi := Lib.hid (And.intro hhi1 hhi2); clear hhi1 hhi2))
    all_goals go_ret
    all_goals
      first
        | (refine ⟨ret_bool ?_, hB2⟩
           rw [hmw'.out _ _ hlo.out hhi.out, Bool.eq_iff_iff]
           simp only [Bool.and_eq_true, decide_eq_true_eq, Bool.false_eq_true, false_iff]
           omega)
        | (refine ⟨ret_bool (Eq.symm (hneg'.out lo hlo.out.1 (by assumption))), hB1⟩)
  · have hres : decide (MayC c) = false := by
      simp only [decide_eq_false_iff_not]
      rintro ⟨⟨h2, h3, _⟩, _⟩
      exact h1 ⟨h2, h3⟩
    have hres' := Lib.hid hres
    clear hres
    rcases Nat.lt_or_ge 12 c.W.length with h2 | h2
    · clear h1
      go_enter Tryz.func23, Tryz.ntmps23
      go_wp2_with fail
      all_goals (go_ret; exact ⟨ret_bool hres'.out.symm, hB⟩)
    · obtain h3 : c.W.length = 0 := by omega
      clear h1 h2
      rw [h3] at c0 hW hb ⊢
      have h3' := Lib.hid h3
      clear h3
      go_enter Tryz.func23, Tryz.ntmps23
      go_wp2_with fail
      go_ret
      exact ⟨ret_bool hres'.out.symm, hB⟩
set_option maxRecDepth 100000 in
set_option maxHeartbeats 2000000 in
theorem rcmay_any (c : Cfg) (A : Option Addr) (k : Nat) (w : World) (hr : Rd 1 encI w A c.W) :
    Calls Tryz.prog 79 #[cfgv A k c] w fun e w' => e = .returned (.bool (decide (MayC c))) ∧ Below w.heap.size w w' := by
  have hm := hr.1
  unfold cfgv
  have hW : ∃ W, w.alloc (.cells #[.slice A c.W.length k, .int .u64 c.seed, .int .i64 c.epoch, .int .i64 c.num, .int .i64 c.den] 25) = W := ⟨_, rfl⟩
  obtain ⟨W, hW⟩ := hW
  have hB : Below w.heap.size w W := by subst hW; exact (Below.refl _ w).alloc (Nat.le_refl _) _
  have hb : W.heap[w.heap.size]? = some (.cells #[.slice A c.W.length k, .int .u64 c.seed, .int .i64 c.epoch, .int .i64 c.num, .int .i64 c.den] 25 (0, 0)) := by subst hW; exact ha_at rfl
  have c0 := blk_cell hb 0
  have c2 := blk_cell hb 2
  have c3 := blk_cell hb 3
  have c4 := blk_cell hb 4
  have hneg : ∀ x, x ∈ c.W → ¬ (0 ≤ x ∧ x ≤ 1099511627776) → decide (MayC c) = false := fun x hm hl => by
    simp only [decide_eq_false_iff_not]
    rintro ⟨⟨_, _, h⟩, _⟩
    exact hl (h x hm)
  have hfin : (∀ x ∈ c.W, 0 ≤ x ∧ x ≤ 1099511627776) → decide (MayC c) = decide ((1 ≤ c.W.length ∧ c.W.length ≤ 12) ∧ 1 ≤ c.epoch ∧ c.epoch ≤ 8 ∧ 0 ≤ c.num ∧ c.num ≤ c.den ∧ 1 ≤ c.den ∧ c.den ≤ 1000) := fun h => by
    rw [Bool.eq_iff_iff]
    simp only [decide_eq_true_eq]
    exact ⟨fun ⟨⟨h1, h2, _⟩, h3⟩ => ⟨⟨h1, h2⟩, h3⟩, fun ⟨⟨h1, h2⟩, h3⟩ => ⟨⟨h1, h2, h⟩, h3⟩⟩
  obtain ⟨r, hrr⟩ : ∃ r, decide (MayC c) = r := ⟨_, rfl⟩
  rw [hrr]
  simp only [hrr] at hneg hfin
  have hneg' := Lib.hid hneg
  have hfin' := Lib.hid hfin
  clear hneg hfin hrr
  go_enter Tryz.func79, Tryz.ntmps79
  go_wp2_with fail
  go_loop [4] (fun i => ∃ i0 : Nat, i0 ≤ c.W.length ∧ i = .int .i64 i0 ∧ Hid (∀ x ∈ c.W.take i0, 0 ≤ x ∧ x ≤ 1099511627776)) (fun i => c.W.length - (intOf i).toNat)
  case atStart => exact ⟨0, Nat.zero_le _, rfl, Lib.hid (by simp)⟩
  case round =>
    obtain ⟨i, hi, rfl, hall⟩ := hrel
    by_cases hlt : i < c.W.length
    · obtain ⟨b, o, rfl, hbo, d⟩ := (hr.below hB).atI hlt
      have hmem := List.getElem_mem hlt
      have hst : (0 ≤ c.W[i] ∧ c.W[i] ≤ 1099511627776) → ∀ x ∈ c.W.take (i + 1), 0 ≤ x ∧ x ≤ 1099511627776 := fun hx y hy => by
        rw [← List.take_append_getElem hlt] at hy
        rcases List.mem_append.1 hy with h | h
        · exact hall.out y h
        · simp only [List.mem_singleton] at h; subst h; exact hx
      obtain ⟨x, hx⟩ : ∃ x, c.W[i] = x := ⟨_, rfl⟩
      rw [hx] at d hst hmem
      have hst' := Lib.hid hst
      have hmem' := Lib.hid hmem
      clear hst hx hmem
      go_wp2_with fail
      all_goals
        first
          | (go_ret; exact ⟨ret_bool (Eq.symm (hneg'.out x hmem'.out (by omega))), hB⟩)
          | (go_round; (case rel => exact ⟨i + 1, hlt, by go_num, Lib.hid (hst'.out (by omega))⟩); (case measure => simp [intOf]; omega))
    · obtain rfl : i = c.W.length := by omega
      rw [List.take_length] at hall
      go_wp2_with fail
      all_goals
        go_ret
        refine ⟨ret_bool ?_, hB⟩
        rw [hfin'.out hall.out, Bool.eq_iff_iff]
        simp only [decide_eq_true_eq, Bool.false_eq_true, false_iff]
        omega
set_option maxRecDepth 100000 in
set_option maxHeartbeats 1000000 in
theorem rhas_any (x : Int) (xs : List Int) (A : Option Addr) (c : Nat) (w : World) (hr : Rd 1 encI w A xs) :
    Calls Tryz.prog 42 #[.slice A xs.length c, .int .i64 x] w fun e w' => e = .returned (.bool (decide (x ∈ xs))) ∧ w' = w := by
  go_enter Tryz.func42, Tryz.ntmps42
  go_wp2_with fail
  have hm := hr.1
  go_loop [5] (fun i => ∃ k : Nat, k ≤ xs.length ∧ i = .int .i64 k ∧ Hid (x ∉ xs.take k)) (fun i => xs.length - (intOf i).toNat)
  case atStart => exact ⟨0, Nat.zero_le _, rfl, Lib.hid (by simp)⟩
  case round =>
    obtain ⟨k, hk, rfl, hno⟩ := hrel
    by_cases hlt : k < xs.length
    · obtain ⟨b, o, rfl, hbo, d⟩ := hr.atI hlt
      have hmem := List.getElem_mem hlt
      have hst := fun h : ¬ x = xs[k] => not_mem_step hlt hno.out h
      obtain ⟨y, hy⟩ : ∃ y, xs[k] = y := ⟨_, rfl⟩
      rw [hy] at d hst hmem
      by_cases hx : x = y
      · have hd : decide (x ∈ xs) = true := by rw [hx]; simpa using hmem
        have hd' := Lib.hid hd
        have he : (y == x) = true := by simp [hx]
        clear hst hx hmem hd hy
        go_wp2_with fail
        go_ret
        exact ⟨ret_bool hd'.out.symm, rfl⟩
      · have hst' := Lib.hid (hst hx)
        have he : (y == x) = false := by simpa using fun e => hx e.symm
        clear hst hx hmem hy
        go_wp2_with fail
        go_round
        case rel => exact ⟨k + 1, hlt, by go_num, hst'⟩
        case measure => simp [intOf]; omega
    · obtain rfl : k = xs.length := by omega
      have hd' := Lib.hid (show decide (x ∈ xs) = false by simpa using hno.out)
      go_wp2_with fail
      go_ret
      exact ⟨ret_bool hd'.out.symm, rfl⟩
end Go.Proofs.YtaohkcdfjjiggaaGreat
/-! What some weigh: marigoldref05.Weight. -/
namespace Go.Proofs.YtaohkcdfjjiggaaGreat
open Go.RowKit
/-- What those below k weigh of which p is so. -/
def wsumTo (W : List Int) (p : Nat → Bool) : Nat → Int
  | 0 => 0
  | k + 1 => wsumTo W p k + (if p k then W[k]?.getD 0 else 0)
def weightC (c : Cfg) (who : List Int) : Int := if MayC c then wsumTo c.W (fun i => decide ((i : Int) ∈ who)) c.W.length else 0
def totalC (c : Cfg) : Int := if MayC c then wsumTo c.W (fun _ => true) c.W.length else 0
theorem wsumTo_bd {W : List Int} (h : ∀ x ∈ W, 0 ≤ x ∧ x ≤ 1099511627776) (p : Nat → Bool) (k : Nat) : 0 ≤ wsumTo W p k ∧ wsumTo W p k ≤ k * 1099511627776 := by
  induction k with
  | zero => simp [wsumTo]
  | succ k ih =>
    simp only [wsumTo]
    have hx : 0 ≤ W[k]?.getD 0 ∧ W[k]?.getD 0 ≤ 1099511627776 := by
      cases hk : W[k]? with
      | none => simp
      | some x => exact h x (List.mem_of_getElem? hk)
    split <;> omega
theorem MayC.W {c : Cfg} (h : MayC c) : ∀ x ∈ c.W, 0 ≤ x ∧ x ≤ 1099511627776 := h.1.2.2
theorem MayC.len {c : Cfg} (h : MayC c) : c.W.length ≤ 12 := h.1.2.1
set_option maxRecDepth 100000 in
set_option maxHeartbeats 2000000 in
theorem rweight_any (c : Cfg) (who : List Int) (A B : Option Addr) (k kb : Nat) (w : World) (hr : Rd 1 encI w A c.W) (hr2 : Rd 1 encI w B who) :
    Calls Tryz.prog 68 #[cfgv A k c, .slice B who.length kb] w fun e w' => e = .returned (.int .i64 (weightC c who)) ∧ Below w.heap.size w w' := by
  have hm := hr.1
  have hmay := fun W (hW : Below w.heap.size w W) => rcmay_any c A k W (hr.below hW)
  unfold cfgv at *
  have hW : ∃ W, w.alloc (.cells #[.slice A c.W.length k, .int .u64 c.seed, .int .i64 c.epoch, .int .i64 c.num, .int .i64 c.den] 25) = W := ⟨_, rfl⟩
  obtain ⟨W, hW⟩ := hW
  have hB : Below w.heap.size w W := by subst hW; exact (Below.refl _ w).alloc (Nat.le_refl _) _
  have hb : W.heap[w.heap.size]? = some (.cells #[.slice A c.W.length k, .int .u64 c.seed, .int .i64 c.epoch, .int .i64 c.num, .int .i64 c.den] 25 (0, 0)) := by subst hW; exact ha_at rfl
  have c0 := blk_cell hb 0
  have c1 := blk_cell hb 1
  have c2 := blk_cell hb 2
  have c3 := blk_cell hb 3
  have c4 := blk_cell hb 4
  by_cases hmc : MayC c
  · have hd : decide (MayC c) = true := by simpa using hmc
    rw [hd] at hmay
    have hres := Lib.hid (show weightC c who = wsumTo c.W (fun i => decide ((i : Int) ∈ who)) c.W.length by simp [weightC, hmc])
    have hbd := wsumTo_bd hmc.W (fun i => decide ((i : Int) ∈ who))
    have hlen := hmc.len
    have hWx := hmc.W
    obtain ⟨p, hp⟩ : ∃ p : Nat → Bool, (fun i : Nat => decide ((i : Int) ∈ who)) = p := ⟨_, rfl⟩
    rw [hp] at hres hbd
    have hpk : ∀ i : Nat, decide ((i : Int) ∈ who) = p i := fun i => by rw [← hp]
    clear hmc hd hp
    have hbd' := Lib.hid hbd
    have hWx' := Lib.hid hWx
    have hpk' := Lib.hid hpk
    clear hbd hWx hpk
    go_enter Tryz.func68, Tryz.ntmps68
    go_wp2_with (go_at_call 79; refine (hmay _ hB).mono ?_; rintro e w1 ⟨rfl, hb1⟩)
    have hB1 := below_call hB hB.size hb1
    have hbb := bl_own hb1 hb
    have e0 := blk_cell hbb 0
    clear hmay hb1 c0 c1 c2 c3 c4
    go_loop [5, 7, 8] (fun n i _x => ∃ i0 : Nat, i0 ≤ c.W.length ∧ i = .int .i64 i0 ∧ n = .int .i64 (wsumTo c.W p i0)) (fun _ i _ => c.W.length - (intOf i).toNat)
    case atStart => exact ⟨0, Nat.zero_le _, rfl, rfl⟩
    case round =>
      obtain ⟨i, hi, rfl, rfl⟩ := hrel
      have hbi := hbd'.out i
      obtain ⟨s, hs⟩ : ∃ s, wsumTo c.W p i = s := ⟨_, rfl⟩
      rw [hs] at hbi ⊢
      have hs' := Lib.hid hs
      clear hs
      obtain ⟨hb1, hb2⟩ := hbi
      have hb3 : s ≤ 13194139533312 := by omega
      by_cases hlt : i < c.W.length
      · obtain ⟨b, o, rfl, hbo, d⟩ := (hr.below hB1).atI hlt
        have hst : wsumTo c.W p (i + 1) = s + (if p i then c.W[i] else 0) := by simp [wsumTo, hs'.out, hlt]
        obtain ⟨hx0, hx1⟩ := hWx'.out _ (List.getElem_mem hlt)
        obtain ⟨x, hx⟩ : ∃ x, c.W[i] = x := ⟨_, rfl⟩
        rw [hx] at d hst hx0 hx1
        have hhas := rhas_any i who B kb w1 (hr2.below hB1)
        rw [hpk'.out i] at hhas
        clear hx
        cases hpi : p i with
        | true =>
          rw [hpi] at hhas hst
          have hst' := Lib.hid hst
          clear hst hpi
          go_wp2_with (go_at_call 42; refine hhas.mono ?_; clear hhas; rintro e w' ⟨rfl, rfl⟩)
          go_round
          case rel => exact ⟨i + 1, hlt, by go_num, by rw [hst'.out]; go_num⟩
          case measure => simp [intOf]; omega
        | false =>
          rw [hpi] at hhas hst
          have hst' := Lib.hid hst
          clear hst hpi
          go_wp2_with (go_at_call 42; refine hhas.mono ?_; clear hhas; rintro e w' ⟨rfl, rfl⟩)
          go_round
          case rel => exact ⟨i + 1, hlt, by go_num, by rw [hst'.out]; simp⟩
          case measure => simp [intOf]; omega
      · obtain rfl : i = c.W.length := by omega
        go_wp2_with fail
        go_ret
        exact ⟨ret_int (by rw [hres.out, hs'.out]), hB1⟩
  · have hd : decide (MayC c) = false := by simpa using hmc
    rw [hd] at hmay
    have hres := Lib.hid (show weightC c who = 0 by simp [weightC, hmc])
    clear hmc hd
    go_enter Tryz.func68, Tryz.ntmps68
    go_wp2_with (go_at_call 79; refine (hmay _ hB).mono ?_; rintro e w1 ⟨rfl, hb1⟩)
    have hB1 := below_call hB hB.size hb1
    have hbb := bl_own hb1 hb
    have e0 := blk_cell hbb 0
    clear hmay hb1 c0 c1 c2 c3 c4
    refine wp_loop_rounds 1 ?_
    rw [rounds_succ]
    go_wp2_with fail
    all_goals (go_ret; exact ⟨ret_int hres.out.symm, hB1⟩)
end Go.Proofs.YtaohkcdfjjiggaaGreat
/-! The walks of duty.those's iterator, and of duty.sum over it. -/
namespace Go.Proofs.YtaohkcdfjjiggaaGreat
open Go.RowKit Go.Shelf
attribute [local go_sem] Oper.semAt_some
/-- Those below k, of m, of which p is so. -/
def those (m : Nat) (p : Nat → Bool) : Nat → List (Fin m)
  | 0 => []
  | k + 1 => if h : k < m then (if p k then those m p k ++ [⟨k, h⟩] else those m p k) else those m p k
theorem those_len (m : Nat) (p : Nat → Bool) (k : Nat) : (those m p k).length ≤ k := by
  induction k with
  | zero => simp [those]
  | succ k ih => simp only [those]; split <;> (try split) <;> (try simp only [List.length_append, List.length_singleton]) <;> omega
theorem those_yes {m k : Nat} {p : Nat → Bool} (h : k < m) (hp : p k = true) : those m p (k + 1) = those m p k ++ [⟨k, h⟩] := by simp [those, h, hp]
theorem those_no {m k : Nat} {p : Nat → Bool} (hp : p k = false) : those m p (k + 1) = those m p k := by simp [those, hp]
/-- What some weigh. -/
def sumF (W : List Int) (l : List (Fin W.length)) : Int := l.foldl (fun s i => s + W[i]) 0
theorem sumF_snoc (W : List Int) (l : List (Fin W.length)) (i : Fin W.length) : sumF W (l ++ [i]) = sumF W l + W[i] := by simp [sumF]
theorem sumF_those (W : List Int) (p : Nat → Bool) (k : Nat) (hk : k ≤ W.length) : sumF W (those W.length p k) = wsumTo W p k := by
  induction k with
  | zero => rfl
  | succ k ih =>
    have h : k < W.length := hk
    have ih := ih (by omega)
    cases hp : p k with
    | true => rw [those_yes h hp, sumF_snoc, ih]; simp [wsumTo, hp, h]
    | false => rw [those_no hp, ih]; simp [wsumTo, hp]
theorem sumF_bd {W : List Int} (h : ∀ x ∈ W, 0 ≤ x ∧ x ≤ 1099511627776) (l : List (Fin W.length)) : 0 ≤ sumF W l ∧ sumF W l ≤ l.length * 1099511627776 := by
  suffices H : ∀ (l : List (Fin W.length)) (s : Int), s ≤ l.foldl (fun s i => s + W[i]) s ∧ l.foldl (fun s i => s + W[i]) s ≤ s + l.length * 1099511627776 by
    have := H l 0; simpa [sumF] using this
  intro l
  induction l with
  | nil => intro s; simp
  | cons i l ih =>
    intro s
    have := ih (s + W[i])
    have hx := h W[i] (List.getElem_mem _)
    simp only [List.foldl_cons, List.length_cons]
    omega
/-- A conf lies in a block. -/
def ConfAt (w : World) (B : Nat) (A : Option Addr) (k : Nat) (c : Cfg) : Prop := w.heap[B]? = some (.cells #[.slice A c.W.length k, .int .u64 c.seed, .int .i64 c.epoch, .int .i64 c.num, .int .i64 c.den] 25 (0, 0))
theorem ConfAt.own {w w' : World} {B : Nat} {A : Option Addr} {k : Nat} {c : Cfg} (h : ConfAt w B A k c) (hb : Below w.heap.size w w') : ConfAt w' B A k c := bl_own hb h
set_option maxRecDepth 100000 in
set_option maxHeartbeats 2000000 in
/-- duty.those's closure, where what is asked of each is whether a map has it. -/
theorem those1_wt (F : Fence) (n : Nat) (h47 : F.fn 97) (hpf : F.fn 66) (hro : F.round = none) (hn : 1 ≤ n) (l Bc Bf n₀ : Nat) (c : Cfg) (A : Option Addr) (kc : Nat) (Bm : Nat) (p : Nat → Bool) (J Jx : List (Fin c.W.length) → World → Prop)
    (W : World) (hA : Rd 1 encI W A c.W) (hc : ConfAt W Bc A kc c) (hf : W.heap[Bf]? = some (.cells #[.func (.func 66) #[] #[.pointer (some ⟨Bm, 0, none⟩)]] 86 (0, 0))) (_ : n₀ ≤ W.heap.size) (_ : Bc < n₀) (hfn : Bf < n₀)
    (hP : ∀ (i : Nat) W', i < c.W.length → Below n₀ W W' → CallsIn F (n - 1) Tryz.prog 66 #[.int .i64 (i : Int), .pointer (some ⟨Bm, 0, none⟩)] W' fun e w' => e = .returned (.bool (p i)) ∧ w' = W')
    (hY : ∀ pre (x : Fin c.W.length) W, J pre W → pre.length < c.W.length → YieldAt F (n - 1) Tryz.prog l #[.int .i64 (x.val : Int)] W fun e W' =>
      (e = .returned (.bool true) ∧ J (pre ++ [x]) W' ∧ Below n₀ W W') ∨ (e = .returned (.bool false) ∧ Jx (pre ++ [x]) W')) (h0 : J [] W) :
    CallsIn F n Tryz.prog 97 #[.func (.yield l) #[] #[], .pointer (some ⟨Bc, 0, none⟩), .pointer (some ⟨Bf, 0, none⟩)] W fun e W' => (∃ v, e = .returned v) ∧
      ((∃ ys, ys = those c.W.length p c.W.length ∧ J ys W') ∨ (∃ pre, (∃ k, k < c.W.length ∧ p k = true ∧ pre = those c.W.length p (k + 1)) ∧ Jx pre W')) := by
  have hm := hA.1
  have c0 := blk_cell hc 0
  have hf0 := blk_cell hf 0
  refine callsIn_of_wp Tryz.func97 rfl h47 ?_ hro
  simp only [Tryz.ntmps97, List.size_toArray, List.length_cons, List.length_nil, Nat.reduceAdd, Nat.reduceSub, Array.replicate_succ, Array.replicate_zero, List.push_toArray, List.append_toArray, List.nil_append, List.cons_append]
  gi_wp2
  gi_loopw [8, 4] (fun i _x wr => ∃ k : Nat, k ≤ c.W.length ∧ i = .int .i64 k ∧ J (those c.W.length p k) wr ∧ Below n₀ W wr)
    (fun i _ _ => c.W.length - (intOf i).toNat)
  case atStart => exact ⟨0, Nat.zero_le _, rfl, h0, Below.refl _ _⟩
  case round =>
    obtain ⟨k, hk, rfl, hJs, hnx⟩ := hrel
    have hfx : wr.heap[Bf]? = some (.cells #[.func (.func 66) #[] #[.pointer (some ⟨Bm, 0, none⟩)]] 86 (0, 0)) := bl_blk hnx hf hfn
    have e0 := blk_cell hfx 0
    by_cases hlt : k < c.W.length
    · have hPk := hP k wr hlt hnx
      have hlen := those_len c.W.length p k
      cases hpk : p k with
      | true =>
        rw [hpk] at hPk
        obtain ⟨fn, tmps, assign, body, hy, hR⟩ := hY _ ⟨k, hlt⟩ wr hJs (Nat.lt_of_le_of_lt hlen hlt)
        dsimp only at hy
        have hth := Lib.hid (those_yes hlt hpk)
        have hpk' := Lib.hid hpk
        clear hpk hlen
        gi_wp2_with (gi_at_call 66; refine hPk.mono ?_; clear hPk; rintro e w' ⟨rfl, rfl⟩)
        refine hR.mono ?_
        rintro e W3 (⟨rfl, hJ3, hk3⟩ | ⟨rfl, hJx3⟩)
        · gi_wp2
          go_roundw
          case rel => exact ⟨k + 1, hlt, by go_num, by rw [hth.out]; exact hJ3, hnx.trans hk3⟩
          case measure => simp [intOf]; omega
        · gi_wp2
          refine bodyPost_ret (results_none rfl _ _ _) rfl ?_
          exact ⟨⟨_, rfl⟩, .inr ⟨_, ⟨k, hlt, hpk'.out, hth.out.symm⟩, hJx3⟩⟩
      | false =>
        rw [hpk] at hPk
        have hth := Lib.hid (those_no (m := c.W.length) hpk)
        clear hpk hlen
        gi_wp2_with (gi_at_call 66; refine hPk.mono ?_; clear hPk; rintro e w' ⟨rfl, rfl⟩)
        refine ⟨fun _ h => (by cases h), ?_⟩
        gi_wp2
        go_roundw
        case rel => exact ⟨k + 1, hlt, by go_num, by rw [hth.out]; exact hJs, hnx⟩
        case measure => simp [intOf]; omega
    · obtain rfl : k = c.W.length := by omega
      gi_wp2
      go_end0
      exact ⟨⟨_, rfl⟩, .inl ⟨_, rfl, hJs⟩⟩
end Go.Proofs.YtaohkcdfjjiggaaGreat
/-! The walk of duty.sum over duty.those. -/
namespace Go.Proofs.YtaohkcdfjjiggaaGreat
open Go.RowKit Go.Shelf
attribute [local go_sem] Oper.semAt_some
theorem blk_setCell_other (W : World) (p q : Addr) (v : Value) (h : q.block ≠ p.block) : (W.setCell p v).cell? q = W.cell? q := by simp only [World.cell?, heap_setCell_other W p q.block v h]
/-- What those weigh of whom p is so. -/
def sumC (c : Cfg) (p : Nat → Bool) : Int := if MayC c then wsumTo c.W p c.W.length else 0
def encF {m : Nat} (x : Fin m) : Array Value := #[.int .i64 (x.val : Int)]
/-- The iterator of those of whom p is so. -/
def ThoseK (F : Fence) (n : Nat) (Bc Bf n₀ : Nat) (m : Nat) (p : Nat → Bool) (w : World) : Prop :=
  SeqStopsK F n Tryz.prog 97 #[.pointer (some ⟨Bc, 0, none⟩), .pointer (some ⟨Bf, 0, none⟩)] (encF (m := m)) (Below n₀) (fun ys => ys = those m p m) (fun pre => ∃ k, k < m ∧ p k = true ∧ pre = those m p (k + 1)) m w
set_option maxRecDepth 100000 in
set_option maxHeartbeats 2000000 in
theorem sum_any (c : Cfg) (A : Option Addr) (k Bc Bf : Nat) (p : Nat → Bool) (w : World) (hr : Rd 1 encI w A c.W)
    (hseq : ∀ W, Below w.heap.size w W → ThoseK Fence.wide 2 Bc Bf w.heap.size c.W.length p W) :
    Calls Tryz.prog 65 #[cfgv A k c, .func (.func 97) #[] #[.pointer (some ⟨Bc, 0, none⟩), .pointer (some ⟨Bf, 0, none⟩)]] w fun e w' => e = .returned (.int .i64 (sumC c p)) ∧ Below w.heap.size w w' := by
  have hm := hr.1
  have hmay := fun W (hW : Below w.heap.size w W) => dmay_any c A k W (hr.below hW)
  have hmx : Tryz.prog.follows .mixedOrders = true := by kernel_rfl
  unfold cfgv at *
  have hW : ∃ W, w.alloc (.cells #[.slice A c.W.length k, .int .u64 c.seed, .int .i64 c.epoch, .int .i64 c.num, .int .i64 c.den] 25) = W := ⟨_, rfl⟩
  obtain ⟨W, hW⟩ := hW
  have hB : Below w.heap.size w W := by subst hW; exact (Below.refl _ w).alloc (Nat.le_refl _) _
  have hb : W.heap[w.heap.size]? = some (.cells #[.slice A c.W.length k, .int .u64 c.seed, .int .i64 c.epoch, .int .i64 c.num, .int .i64 c.den] 25 (0, 0)) := by subst hW; exact ha_at rfl
  have hsz : W.heap.size = w.heap.size + 1 := by subst hW; simp
  have c0 := blk_cell hb 0
  have hV : ∃ V, W.alloc (.cells #[.int .i64 0] 3) = V := ⟨_, rfl⟩
  obtain ⟨V, hV⟩ := hV
  have hBV : Below w.heap.size w V := by subst hV; exact hB.alloc hB.size _
  have hbV : V.heap[w.heap.size]? = some (.cells #[.slice A c.W.length k, .int .u64 c.seed, .int .i64 c.epoch, .int .i64 c.num, .int .i64 c.den] 25 (0, 0)) := by subst hV; exact ha_lt hb
  have hbn : V.heap[w.heap.size + 1]? = some (.cells #[.int .i64 0] 3 (0, 0)) := by subst hV; rw [← hsz]; exact ha_at rfl
  obtain ⟨cn, fn⟩ := blk1 hbn
  have hU : ∃ U, V.setCell ⟨w.heap.size + 1, 0, none⟩ (.int .i64 0) = U := ⟨_, rfl⟩
  obtain ⟨U, hU⟩ := hU
  have hBU : Below w.heap.size w U := by subst hU; exact hBV.setCell (p := ⟨w.heap.size + 1, 0, none⟩) (by simp) _
  have hbU : U.heap[w.heap.size]? = some (.cells #[.slice A c.W.length k, .int .u64 c.seed, .int .i64 c.epoch, .int .i64 c.num, .int .i64 c.den] 25 (0, 0)) := by subst hU; exact grown_own (grown_set _ _ _) hbV (by simp)
  have hbn2 : U.heap[w.heap.size + 1]? = some (.cells #[.int .i64 0] 3 (0, 0)) := by subst hU; exact Boxed.set _ hbn
  have d0 := blk_cell hbU 0
  have d1 := blk_cell hbU 1
  have d2 := blk_cell hbU 2
  have d3 := blk_cell hbU 3
  have d4 := blk_cell hbU 4
  obtain ⟨dn, gn⟩ := blk1 hbn2
  have hmay := hmay U hBU
  by_cases hmc : MayC c
  · have hd : decide (MayC c) = true := by simpa using hmc
    rw [hd] at hmay
    unfold sumC
    rw [if_pos hmc]
    have hWx := Lib.hid hmc.W
    have hlen := hmc.len
    clear hmc hd
    refine (callsIn_wide (n := 3)).1 ?_
    refine callsIn_of_wp_marks Tryz.func65 rfl trivial ?_ rfl
    simp only [Tryz.ntmps65, List.size_toArray, List.length_cons, List.length_nil, Nat.reduceAdd, Nat.reduceSub, Array.replicate_succ, Array.replicate_zero, List.push_toArray, List.append_toArray, List.nil_append, List.cons_append]
    gi_wp2_with (refine ⟨trivial, ?_⟩; gi_at_call 23; refine (callsIn_wide.2 hmay).mono ?_; clear hmay; rintro e w1 ⟨rfl, hb1⟩)
    have hB1 := below_call hBU hBU.size hb1
    have hbb := bl_own hb1 hbU
    have hbn1 := bl_own hb1 hbn2
    refine wpIn_rangeFunc_ownG rfl (by decide) (gf := 97) (lb := #[.pointer (some ⟨Bc, 0, none⟩), .pointer (some ⟨Bf, 0, none⟩)]) rfl trivial (enters_of Tryz.func97 (by kernel_rfl) rfl)
      (hseq w1 hB1) belowK_t (belowK_b hB1.size) (Below.refl _ _) (fun _ => rfl)
      (fun pre W => (W.cell? ⟨w.heap.size + 1, 0, none⟩ = some (.int .i64 (sumF c.W pre)) ∧ W.frozen? ⟨w.heap.size + 1, 0, none⟩ = false ∧ W.cell? ⟨w.heap.size, 0, none⟩ = some (.slice A c.W.length k)) ∧ Below w.heap.size w W)
      (fun _ _ _ => False)
      (OwnFrom.and (Own.from (fun s A B row hs hg hr => ⟨cell_kept hs.1 hg hr, (frozen_kept hs.1 hg hr).trans hs.2.1, cell_kept hs.2.2 hg hr⟩) _) (ownFrom_below (Nat.le_refl _) hB1.size))
      (fun _ _ _ _ _ hs _ _ => hs)
      ⟨⟨(blk1 hbn1).1, (blk1 hbn1).2, blk_cell hbb 0⟩, hB1⟩
      (fun x => { tmps := #[.agg #[.slice A c.W.length k, .int .u64 c.seed, .int .i64 c.epoch, .int .i64 c.num, .int .i64 c.den], .func (.func 97) #[] #[.pointer (some ⟨Bc, 0, none⟩), .pointer (some ⟨Bf, 0, none⟩)], .pointer (some ⟨w.heap.size, 0, none⟩), undef, .int .i64 0, .pointer (some ⟨w.heap.size + 1, 0, none⟩), .int .i64 (x.val : Int), .agg #[.slice A c.W.length k, .int .u64 c.seed, .int .i64 c.epoch, .int .i64 c.num, .int .i64 c.den], .bool true, .bool false, undef, .func (.func 97) #[] #[.pointer (some ⟨Bc, 0, none⟩), .pointer (some ⟨Bf, 0, none⟩)], .int .i64 (x.val : Int), undef, undef, undef, undef, undef, undef, undef, undef], defers := [] }) ?assign ?body ?done ?stop
    case assign =>
      intro l x W K hK
      unfold encF
      gi_wp2
      exact hK
    case body =>
      rintro l pre x W ⟨⟨hcn, hfn, hcc⟩, hBW⟩ hpl
      obtain ⟨b, o, rfl, hbo, d⟩ := (hr.below hBW).atI x.2
      have hbd := sumF_bd hWx.out pre
      have hsn := show sumF c.W (pre ++ [x]) = sumF c.W pre + c.W[x.val] from sumF_snoc c.W pre x
      obtain ⟨hy0, hy1⟩ := hWx.out _ (List.getElem_mem x.2)
      obtain ⟨y, hy⟩ : ∃ y, c.W[x.val] = y := ⟨_, rfl⟩
      rw [hy] at d hsn hy0 hy1
      clear hy
      obtain ⟨s, hs⟩ : ∃ s, sumF c.W pre = s := ⟨_, rfl⟩
      rw [hs] at hcn hbd hsn
      obtain ⟨hb1, hb2⟩ := hbd
      have hx12 := x.2
      have hb3 : s ≤ 13194139533312 := by omega
      have hsn' := Lib.hid hsn
      clear hsn hs
      gi_wp2
      gi_region_with_o fail
      all_goals gi_wp2
      all_goals (try go_bits)
      all_goals
        exact ⟨((KeepsOthers.setCell _ _ _).trans (KeepsOthers.drew _)).from _, ((Below.refl w.heap.size W).setCell (p := ⟨w.heap.size + 1, 0, none⟩) (by simp) _).drew,
          ⟨by rw [hsn'.out, cell_drew_own]; exact World.cell?_setCell_same' _ _ _ (by rw [hcn]; rfl), by rw [frozen_drew_own, World.frozen?_setCell]; exact hfn, by rw [cell_drew_own]; exact (Eq.trans (blk_setCell_other _ _ _ _ (by simp)) hcc)⟩, (hBW.setCell (p := ⟨w.heap.size + 1, 0, none⟩) (by simp) _).drew⟩
    case done =>
      rintro D ys W hD rfl ⟨⟨hcn, _, _⟩, hBW⟩ hK
      rw [sumF_those c.W p _ (Nat.le_refl _)] at hcn
      gi_wp2
      refine ⟨by simp, .inl ⟨_, _, rfl, run_takeDeferred hK, ?_⟩⟩
      exact ⟨_, results_tmp rfl _ _ _, rfl, hBW.trans (belowK_b (w := w1) hB1.size W D _ _ hD hK rfl rfl)⟩
    case stop =>
      rintro D c pre W _ _ h _
      exact h.elim
  · have hd : decide (MayC c) = false := by simpa using hmc
    rw [hd] at hmay
    unfold sumC
    rw [if_neg hmc]
    clear hmc hd
    go_enter Tryz.func65, Tryz.ntmps65
    go_wp2_with (go_at_call 23; refine hmay.mono ?_; clear hmay; rintro e w1 ⟨rfl, hb1⟩; have hB1 := below_call hBU hBU.size hb1; obtain ⟨dn1, gn1⟩ := blk1 (bl_own hb1 hbn2))
    go_ret
    exact ⟨rfl, hB1⟩
end Go.Proofs.YtaohkcdfjjiggaaGreat
/-! The walks of duty.Weight, duty.Total. -/
namespace Go.Proofs.YtaohkcdfjjiggaaGreat
open Go.RowKit Go.Shelf
set_option maxRecDepth 100000 in
set_option maxHeartbeats 1000000 in
theorem weight1_any (i : Int) (Bm M : Nat) (m : List (Int × Bool)) (w : World) (hM : MapIs (Value.int .i64) Value.bool w M m) (hb : w.heap[Bm]? = some (.cells #[.map (some M)] 92 (0, 0))) :
    Calls Tryz.prog 66 #[.int .i64 i, .pointer (some ⟨Bm, 0, none⟩)] w fun e w' => e = .returned (.bool ((mget m i).getD false)) ∧ w' = w := by
  have c0 := blk_cell hb 0
  go_enter Tryz.func66, Tryz.ntmps66
  go_wp2_with (at_lookup; refine wp_lookup (x := i) rfl rfl KeyI Tryz.underlying92 (Tryz.zeroValue4 _) rfl rfl hM (r := .bool ((mget m i).getD false)) (by cases mget m i <;> rfl) ?_)
  go_ret
  exact ⟨rfl, rfl⟩
theorem thoseK_wt (c : Cfg) (A : Option Addr) (k Bc Bf Bm M n₀ : Nat) (m : List (Int × Bool)) (p : Nat → Bool) (W : World) (hA : Rd 1 encI W A c.W) (hc : ConfAt W Bc A k c) (hf : W.heap[Bf]? = some (.cells #[.func (.func 66) #[] #[.pointer (some ⟨Bm, 0, none⟩)]] 86 (0, 0)))
    (hM : MapIs (Value.int .i64) Value.bool W M m) (hb : W.heap[Bm]? = some (.cells #[.map (some M)] 92 (0, 0))) (hp : ∀ i : Nat, (mget m (i : Int)).getD false = p i)
    (hn : n₀ ≤ W.heap.size) (h1 : Bc < n₀) (h2 : Bf < n₀) (h3 : Bm < n₀) (h4 : M < n₀) : ThoseK Fence.wide 2 Bc Bf n₀ c.W.length p W := by
  intro l J Jx W' hW' _ _ hY h0
  refine those1_wt Fence.wide 2 trivial trivial rfl (by decide) l Bc Bf n₀ c A k Bm p J Jx W' (hA.below hW') (hc.own hW') (bl_own hW' hf) (Nat.le_trans hn hW'.size) h1 h2 ?_ hY h0
  intro i W'' _ hb''
  refine callsIn_wide.2 ?_
  rw [← hp i]
  exact weight1_any i Bm M m W'' (MapIs_same (MapIs_below hM hW') (hb''.block M h4)) (bl_blk hb'' (bl_own hW' hb) h3)
set_option maxRecDepth 100000 in
set_option maxHeartbeats 1000000 in
theorem those_any (c : Cfg) (A : Option Addr) (k : Nat) (w : World) (pf : Nat) (cap : Array Value) :
    Calls Tryz.prog 59 #[cfgv A k c, .func (.func pf) #[] cap] w fun e w' => e = .returned (.func (.func 97) #[] #[.pointer (some ⟨w.heap.size, 0, none⟩), .pointer (some ⟨w.heap.size + 1, 0, none⟩)]) ∧
      ConfAt w' w.heap.size A k c ∧ w'.heap[w.heap.size + 1]? = some (.cells #[.func (.func pf) #[] cap] 86 (0, 0)) ∧ w'.heap.size = w.heap.size + 2 ∧ Below w.heap.size w w' := by
  unfold cfgv
  go_enter Tryz.func59, Tryz.ntmps59
  go_wp2_with fail
  go_ret
  refine ⟨rfl, ha_lt (ha_at rfl), ha_at (by simp), by simp, ((Below.refl _ w).alloc (Nat.le_refl _) _).alloc (by simp) _⟩
theorem mget_mput {κ ν : Type} [DecidableEq κ] (m : List (κ × ν)) (x y : κ) (v : ν) : mget (mput m x v) y = if x = y then some v else mget m y := by
  unfold mput
  by_cases h : (mget m x).isSome
  · rw [if_pos h]
    by_cases hxy : x = y
    · subst hxy
      rw [if_pos rfl]
      unfold mget at *
      rw [Option.isSome_map] at h
      obtain ⟨p, hp⟩ := Option.isSome_iff_exists.1 h
      have : (List.map (fun p : κ × ν => if p.1 = x then (p.1, v) else p) m).find? (fun p => decide (p.1 = x)) = some (p.1, v) := by
        rw [List.find?_map]
        have e : ((fun p : κ × ν => decide (p.1 = x)) ∘ fun p : κ × ν => if p.1 = x then (p.1, v) else p) = fun p => decide (p.1 = x) := by
          funext q; simp only [Function.comp]; split <;> rfl
        rw [e, hp]
        have := List.find?_some hp
        simp only [decide_eq_true_eq] at this
        simp [this]
      rw [this]; rfl
    · rw [if_neg hxy]
      unfold mget
      rw [List.find?_map]
      have e : ((fun p : κ × ν => decide (p.1 = y)) ∘ fun p : κ × ν => if p.1 = x then (p.1, v) else p) = fun p => decide (p.1 = y) := by
        funext q; simp only [Function.comp]; split <;> rfl
      rw [e]
      cases hp : m.find? (fun p => decide (p.1 = y)) with
      | none => rfl
      | some p =>
        have := List.find?_some hp
        simp only [decide_eq_true_eq] at this
        have hx : ¬ p.1 = x := fun e => hxy (e.symm.trans this)
        simp [hx]
  · rw [if_neg h]
    have hn : mget m x = none := by simpa using h
    by_cases hxy : x = y
    · subst hxy
      rw [if_pos rfl]
      unfold mget at *
      rw [List.find?_append]
      rw [Option.map_eq_none_iff] at hn
      simp [hn]
    · rw [if_neg hxy]
      unfold mget
      rw [List.find?_append]
      simp [hxy]
set_option maxRecDepth 100000 in
set_option maxHeartbeats 2000000 in
theorem dweight_any (c : Cfg) (who : List Int) (A A2 : Option Addr) (k k2 : Nat) (w : World) (hr : Rd 1 encI w A c.W) (hr2 : Rd 1 encI w A2 who) :
    Calls Tryz.prog 31 #[cfgv A k c, .slice A2 who.length k2] w fun e w' => e = .returned (.int .i64 (weightC c who)) ∧ Below w.heap.size w w' := by
  have hm := hr.1
  have hm2 := hr2.1
  have hmm := @run_makeMap Tryz.prog
  unfold cfgv
  go_enter Tryz.func31, Tryz.ntmps31
  go_wp2_with fail
  have hW : ∃ W, (((w.alloc (.cells #[.slice A c.W.length k, .int .u64 c.seed, .int .i64 c.epoch, .int .i64 c.num, .int .i64 c.den] 25)).alloc (.map #[] 0)).alloc (.cells #[.map (some (w.heap.size + 1))] 92)) = W := ⟨_, rfl⟩
  obtain ⟨W, hW⟩ := hW
  have hM0 : MapIs (Value.int .i64) Value.bool W (w.heap.size + 1) ([] : List (Int × Bool)) := by subst hW; exact MapIs_alloc (MapIs_new _ _ (ha_at (by simp))) _
  have hc0 : ConfAt W w.heap.size A k c := by subst hW; exact ha_lt (ha_lt (ha_at rfl))
  have hb0 : W.heap[w.heap.size + 1 + 1]? = some (.cells #[.map (some (w.heap.size + 1))] 92 (0, 0)) := by subst hW; exact ha_at (by simp)
  have hB0 : Below w.heap.size w W := by subst hW; exact (((Below.refl _ w).alloc (Nat.le_refl _) _).alloc (by simp) _).alloc (by simp <;> omega) _
  rw [hW]
  clear hW
  go_loopw [7, 11] (fun x i wr => ∃ (j : Nat) (m : List (Int × Bool)), j ≤ who.length ∧ i = .int .i64 j ∧ MapIs (Value.int .i64) Value.bool wr (w.heap.size + 1) m ∧ Hid (∀ x, mget m x = if x ∈ who.take j then some true else none) ∧ ConfAt wr w.heap.size A k c ∧ wr.heap[w.heap.size + 1 + 1]? = some (.cells #[.map (some (w.heap.size + 1))] 92 (0, 0)) ∧ Below w.heap.size w wr)
    (fun _ i _ => who.length - (intOf i).toNat)
  case atStart => exact ⟨0, [], Nat.zero_le _, rfl, hM0, Lib.hid (by simp [mget]), hc0, hb0, hB0⟩
  case round =>
    obtain ⟨j, m, hj, rfl, hM, hmm', hc, hb, hB⟩ := hrel
    obtain ⟨cb, fb⟩ := blk1 hb
    by_cases hlt : j < who.length
    · obtain ⟨b, o, rfl, hbo, d⟩ := (hr2.below hB).atI hlt
      have hst : ∀ y, mget (mput m who[j] true) y = if y ∈ who.take (j + 1) then some true else none := fun y => by
        rw [mget_mput, hmm'.out, ← List.take_append_getElem hlt]
        simp only [List.mem_append, List.mem_singleton]
        by_cases h1 : who[j] = y
        · simp [h1]
        · have : ¬ y = who[j] := fun e => h1 e.symm
          simp [h1, this]
      obtain ⟨x, hx⟩ : ∃ x, who[j] = x := ⟨_, rfl⟩
      rw [hx] at d hst
      have hst' := Lib.hid hst
      clear hst hx
      go_wp2_with (at_mapUpdate; refine wp_update rfl (.inl rfl) KeyI Tryz.underlying92 rfl (x := x) rfl (v := true) rfl hM ?_; intro w4 hM4 hg4 hz4)
      go_roundw
      case rel => exact ⟨j + 1, mput m x true, hlt, by go_num, hM4, hst', grown_own hg4 hc (by simp), grown_own hg4 hb (by simp), below_step hB hB.size hg4 (by simp)⟩
      case measure => simp [intOf]; omega
    · obtain rfl : j = who.length := by omega
      rw [List.take_length] at hmm'
      go_wp2_with fail
      have hth := fun W => those_any c A k W 66 #[.pointer (some ⟨w.heap.size + 1 + 1, 0, none⟩)]
      have hp : ∀ i : Nat, (mget m (i : Int)).getD false = decide ((i : Int) ∈ who) := fun i => by
        rw [hmm'.out]; by_cases h : (i : Int) ∈ who <;> simp [h]
      have hBk := lt_of_block hb
      have hMlt := MapIs_lt hM
      have hsum := fun W (hW : Below wr.heap.size wr W) (B : Nat) (hs : W.heap.size = B + 2) (hc : ConfAt W B A k c) (hf : W.heap[B + 1]? = some (.cells #[.func (.func 66) #[] #[.pointer (some ⟨w.heap.size + 1 + 1, 0, none⟩)]] 86 (0, 0))) =>
        sum_any c A k B (B + 1) (fun i => decide ((i : Int) ∈ who)) W ((hr.below hB).below hW) (fun W' hW' => thoseK_wt c A k B (B + 1) (w.heap.size + 1 + 1) (w.heap.size + 1) W.heap.size m _ W' (((hr.below hB).below hW).below hW') (hc.own hW') (bl_own hW' hf) (MapIs_below (MapIs_below hM hW) hW') (bl_own hW' (bl_own hW hb)) hp hW'.size (by omega) (by omega) (by have := hW.size; omega) (by have := hW.size; omega))
      unfold cfgv at hth hsum
      have hpp := hmm'
      clear hmm' hp hpp
      have c0 := blk_cell hc 0
      have c1 := blk_cell hc 1
      have c2 := blk_cell hc 2
      have c3 := blk_cell hc 3
      have c4 := blk_cell hc 4
      go_region_held3 (fun W' => W'.cell? ⟨w.heap.size, 0, none⟩ = some (.slice A c.W.length k) ∧ W'.cell? ⟨w.heap.size, 1, none⟩ = some (.int .u64 c.seed) ∧ W'.cell? ⟨w.heap.size, 2, none⟩ = some (.int .i64 c.epoch) ∧ W'.cell? ⟨w.heap.size, 3, none⟩ = some (.int .i64 c.num) ∧ W'.cell? ⟨w.heap.size, 4, none⟩ = some (.int .i64 c.den)) (first | exact ⟨c0, c1, c2, c3, c4⟩ | exact ⟨d0, d1, d2, d3, d4⟩ | exact ⟨e0, e1, e2, e3, e4⟩) ((first
        | (go_at_call 59; refine (hth _).mono ?_; rintro e w1 ⟨rfl, k1, k2, k3, hb1⟩; have hb1' := bl_own hb1 hc; have d0 := blk_cell hb1' 0; have d1 := blk_cell hb1' 1; have d2 := blk_cell hb1' 2; have d3 := blk_cell hb1' 3; have d4 := blk_cell hb1' 4; have hBw := below_call ((Below.refl wr.heap.size wr).drew) (Nat.le_refl _) hb1)
        | (go_at_call 65; refine (hsum _ hBw _ k3 k1 k2).mono ?_; rintro e w2 ⟨rfl, hb2⟩; have hb2' := bl_own hb2 hb1'; have e0 := blk_cell hb2' 0; have e1 := blk_cell hb2' 1; have e2 := blk_cell hb2' 2; have e3 := blk_cell hb2' 3; have e4 := blk_cell hb2' 4)))
      go_wp2
      go_ret
      exact ⟨rfl, below_call (below_call hB hB.size hBw) (Nat.le_trans hB.size hBw.size) hb2⟩
end Go.Proofs.YtaohkcdfjjiggaaGreat
/-! The walk of weigh.On's closures. -/
namespace Go.Proofs.YtaohkcdfjjiggaaGreat
open Go.RowKit
theorem grown_below {w w' : World} (h : Below w.heap.size w w') (row : Option Nat) : w.grownBy w' row := ⟨h.os, h.tape, h.output, h.size, fun k hk _ => h.block k hk⟩
/-- What a cache holds is true. -/
def CacheOk (l : List Blk) (id : ID) (m : List (ID × Bool)) : Prop := ∀ x r, mget m x = some r → r = decide (id ∈ chain l x)
set_option maxRecDepth 100000 in
set_option maxHeartbeats 2000000 in
theorem on1_any (l : List Blk) (id : ID) (v : Vote) (A : Option Addr) (c Bm Bl Bi M : Nat) (m : List (ID × Bool)) (w : World) (hr : Rd 5 encBlk w A l) (hl : l.length ≤ 100000)
    (hM : MapIs idv Value.bool w M m) (hm : CacheOk l id m) (h1 : w.heap[Bm]? = some (.cells #[.map (some M)] 88 (0, 0))) (h2 : w.heap[Bl]? = some (.cells #[.slice A l.length c] 26 (0, 0)))
    (h3 : w.heap[Bi]? = some (.cells #[.int .u64 id.hi, .int .u64 id.lo] 35 (0, 0))) :
    Calls Tryz.prog 62 #[votev v, .pointer (some ⟨Bm, 0, none⟩), .pointer (some ⟨Bl, 0, none⟩), .pointer (some ⟨Bi, 0, none⟩)] w fun e w' =>
      e = .returned (.bool (decide (id ∈ chain l v.head))) ∧ (∃ m', MapIs idv Value.bool w' M m' ∧ CacheOk l id m') ∧ w.grownBy w' (some M) := by
  have hcall := fun W (hW : Below w.heap.size w W) => chain_any l v.head A c W (hr.below hW) (fun m h => tree_ahead h) hl
  unfold idv votev at *
  have hW : ∃ W, w.alloc (.cells #[.int .i64 v.frm, .int .i64 v.slot, .int .u64 v.head.hi, .int .u64 v.head.lo] 42) = W := ⟨_, rfl⟩
  obtain ⟨W, hW⟩ := hW
  have hB : Below w.heap.size w W := by subst hW; exact (Below.refl _ w).alloc (Nat.le_refl _) _
  have hb : W.heap[w.heap.size]? = some (.cells #[.int .i64 v.frm, .int .i64 v.slot, .int .u64 v.head.hi, .int .u64 v.head.lo] 42 (0, 0)) := by subst hW; exact ha_at rfl
  have hMW := MapIs_below hM hB
  obtain ⟨c1, f1⟩ := blk1 (bl_own hB h1)
  obtain ⟨c2, f2⟩ := blk1 (bl_own hB h2)
  obtain ⟨c3, c4, f3, f4⟩ := blk2 (bl_own hB h3)
  have d2 := blk_cell hb 2
  have d3 := blk_cell hb 3
  cases hg : mget m v.head with
  | some r =>
    have hr' := Lib.hid (hm _ _ hg)
    have hm' := Lib.hid hm
    clear hm
    cases r with
    | true =>
      go_enter Tryz.func62, Tryz.ntmps62
      go_wp2_with (at_lookup; refine wp_lookup (x := v.head) rfl rfl KeyID Tryz.underlying88 (Tryz.zeroValue4 _) rfl rfl hMW (r := .tuple #[.bool true, .bool true]) (by rw [hg]; rfl) ?_)
      go_ret
      exact ⟨ret_bool hr'.out, ⟨m, hMW, hm'.out⟩, grown_below hB _⟩
    | false =>
      go_enter Tryz.func62, Tryz.ntmps62
      go_wp2_with (at_lookup; refine wp_lookup (x := v.head) rfl rfl KeyID Tryz.underlying88 (Tryz.zeroValue4 _) rfl rfl hMW (r := .tuple #[.bool false, .bool true]) (by rw [hg]; rfl) ?_)
      go_ret
      exact ⟨ret_bool hr'.out, ⟨m, hMW, hm'.out⟩, grown_below hB _⟩
  | none =>
    have hm' : Hid (CacheOk l id (mput m v.head (decide (id ∈ chain l v.head)))) := Lib.hid (fun x r hx => by
      rw [mget_mput] at hx
      split at hx
      · rename_i e; subst e; simpa using hx.symm
      · exact hm x r hx)
    clear hm
    go_enter Tryz.func62, Tryz.ntmps62
    go_wp2_with (at_lookup; refine wp_lookup (x := v.head) rfl rfl KeyID Tryz.underlying88 (Tryz.zeroValue4 _) rfl rfl hMW (r := .tuple #[.bool false, .bool false]) (by rw [hg]; rfl) ?_)
    obtain ⟨r, hrr⟩ : ∃ r, decide (id ∈ chain l v.head) = r := ⟨_, rfl⟩
    have hrr' := Lib.hid hrr
    rw [hrr] at hm'
    have hb1 := bl_own hB h1
    have hb2 := bl_own hB h2
    have hb3 := bl_own hB h3
    have hsz : W.heap.size = w.heap.size + 1 := by subst hW; simp
    have hlM := MapIs_lt hM
    clear hg hW
    go_region_held3 (fun W' => W'.cell? ⟨Bl, 0, none⟩ = some (.slice A l.length c) ∧ W'.cell? ⟨w.heap.size, 2, none⟩ = some (.int .u64 v.head.hi) ∧ W'.cell? ⟨w.heap.size, 3, none⟩ = some (.int .u64 v.head.lo) ∧ W'.cell? ⟨Bi, 0, none⟩ = some (.int .u64 id.hi) ∧ W'.cell? ⟨Bi, 1, none⟩ = some (.int .u64 id.lo)) (first | exact ⟨c2, d2, d3, c3, c4⟩ | exact ⟨e1, e2, e3, e4, e5⟩ | exact ⟨g1, g2, g3, g4, g5⟩) ((first
      | (go_at_call 41; refine (hcall _ hB.drew).mono ?_; rintro e w1 ⟨u, rfl, hown, hk1⟩; obtain ⟨A', c', rfl, hR⟩ := hown.rd encID_len; obtain ⟨e1, _⟩ := blk1 (bl_own hk1 hb2); have e2 := blk_cell (bl_own hk1 hb) 2; have e3 := blk_cell (bl_own hk1 hb) 3; obtain ⟨e4, e5, _, _⟩ := blk2 (bl_own hk1 hb3))
      | (go_at_call 61; refine (contains_any id (chain l v.head) _ _ _ hR).mono ?_; rintro e w2 ⟨rfl, hk2⟩; obtain ⟨g1, _⟩ := blk1 (bl_own hk2 (bl_own hk1 hb2)); have g2 := blk_cell (bl_own hk2 (bl_own hk1 hb)) 2; have g3 := blk_cell (bl_own hk2 (bl_own hk1 hb)) 3; obtain ⟨g4, g5, _, _⟩ := blk2 (bl_own hk2 (bl_own hk1 hb3)))))
    obtain ⟨g6, _⟩ := blk1 (bl_own hk2 (bl_own hk1 hb1))
    have hB2 := below_call (below_call hB.drew hB.size hk1) (Nat.le_trans hB.size hk1.size) hk2
    have hM2 := MapIs_below hM hB2
    clear hrr
    go_wp2_with (at_mapUpdate; refine wp_update rfl (.inl rfl) KeyID Tryz.underlying88 rfl (x := v.head) rfl (v := r) rfl hM2 ?_; intro w4 hM4 hg4 hz4)
    go_ret
    exact ⟨ret_bool hrr'.out.symm, ⟨_, hM4, hm'.out⟩, grown_trans (grown_below hB2 _) hg4⟩
end Go.Proofs.YtaohkcdfjjiggaaGreat
/-! The walks of weigh.told, weigh.On, weigh.All. -/
namespace Go.Proofs.YtaohkcdfjjiggaaGreat
open Go.RowKit
set_option maxRecDepth 100000 in
theorem on2_any (v : Vote) (w : World) :
    Calls Tryz.prog 64 #[votev v] w fun e w' => e = .returned (.int .i64 v.frm) ∧ Below w.heap.size w w' := by
  unfold votev
  have hW : ∃ W, w.alloc (.cells #[.int .i64 v.frm, .int .i64 v.slot, .int .u64 v.head.hi, .int .u64 v.head.lo] 42) = W := ⟨_, rfl⟩
  obtain ⟨W, hW⟩ := hW
  have hB : Below w.heap.size w W := by subst hW; exact (Below.refl _ w).alloc (Nat.le_refl _) _
  have hb : W.heap[w.heap.size]? = some (.cells #[.int .i64 v.frm, .int .i64 v.slot, .int .u64 v.head.hi, .int .u64 v.head.lo] 42 (0, 0)) := by subst hW; exact ha_at rfl
  have d0 := blk_cell hb 0
  go_enter Tryz.func64, Tryz.ntmps64
  go_wp2_with fail
  go_ret
  exact ⟨rfl, hB⟩
/-- Who has a vote for id, or for what stands on it. -/
def whoOn (l : List Blk) (vs : List Vote) (id : ID) : List Int := (vs.filter fun v => decide (id ∈ chain l v.head)).map Vote.frm
theorem whoOn_snoc {l : List Blk} {vs : List Vote} {id : ID} {k : Nat} (hlt : k < vs.length) : whoOn l (vs.take (k + 1)) id = whoOn l (vs.take k) id ++ (if id ∈ chain l vs[k].head then [vs[k].frm] else []) := by
  unfold whoOn
  rw [← List.take_append_getElem hlt, List.filter_append, List.map_append]
  by_cases h : id ∈ chain l vs[k].head <;> simp [h]
theorem whoOn_len (l : List Blk) (vs : List Vote) (id : ID) : (whoOn l vs id).length ≤ vs.length := by
  unfold whoOn
  rw [List.length_map]
  exact List.length_filter_le _ _
theorem grown_row {w w1 w2 : World} {M : Nat} {r : Option Nat} (h : w.grownBy w1 (some M)) (hg : w1.grownBy w2 r) (hr : ∀ k, r = some k → w.heap.size ≤ k) : w.grownBy w2 (some M) :=
  ⟨hg.os.trans h.os, hg.tape.trans h.tape, hg.output.trans h.output, Nat.le_trans h.size hg.size, fun k hk hne => (hg.block k (Nat.lt_of_lt_of_le hk h.size) (fun e => by have := hr k e.symm; omega)).trans (h.block k hk hne)⟩
set_option maxRecDepth 100000 in
set_option maxHeartbeats 2000000 in
theorem told_any (l : List Blk) (id : ID) (vs : List Vote) (A A3 : Option Addr) (c c3 Bm Bl Bi M : Nat) (m : List (ID × Bool)) (w : World) (w0 : World) (hw0 : Below w0.heap.size w0 w) (hr : Rd 5 encBlk w0 A l) (hr3 : Rd 4 encVote w0 A3 vs) (hl : l.length ≤ 100000) (hvl : vs.length ≤ 100000)
    (hM : MapIs idv Value.bool w M m) (hm : CacheOk l id m) (h1 : w.heap[Bm]? = some (.cells #[.map (some M)] 88 (0, 0))) (h2 : w.heap[Bl]? = some (.cells #[.slice A l.length c] 26 (0, 0)))
    (h3 : w.heap[Bi]? = some (.cells #[.int .u64 id.hi, .int .u64 id.lo] 35 (0, 0))) (hM0 : w0.heap.size ≤ M) :
    Calls Tryz.prog 63 #[.slice A3 vs.length c3, .func (.func 62) #[] #[.pointer (some ⟨Bm, 0, none⟩), .pointer (some ⟨Bl, 0, none⟩), .pointer (some ⟨Bi, 0, none⟩)], .func (.func 64) #[] #[]] w fun e w' =>
      ∃ v, e = .returned v ∧ Own w' w.heap.size 3 1 encI v (whoOn l vs id) ∧ w.grownBy w' (some M) := by
  have hm3 := hr3.1
  have hun := Tryz.underlying22
  have hn1 : some Bm ≠ some M := fun e => by obtain ⟨es, clk, hk, _⟩ := hM; cases e; rw [h1] at hk; cases hk
  have hn2 : some Bl ≠ some M := fun e => by obtain ⟨es, clk, hk, _⟩ := hM; cases e; rw [h2] at hk; cases hk
  have hn3 : some Bi ≠ some M := fun e => by obtain ⟨es, clk, hk, _⟩ := hM; cases e; rw [h3] at hk; cases hk
  have hlM := MapIs_lt hM
  go_enter Tryz.func63, Tryz.ntmps63
  go_wp2_with fail
  go_loopw [7, 9, 12] (fun v _x i wr => ∃ (k : Nat) (m : List (ID × Bool)), k ≤ vs.length ∧ i = .int .i64 k ∧ Own wr w.heap.size 3 1 encI v (whoOn l (vs.take k) id) ∧ MapIs idv Value.bool wr M m ∧ CacheOk l id m ∧ w.grownBy wr (some M)) (fun _ _ i _ => vs.length - (intOf i).toNat)
  case atStart => exact ⟨0, m, Nat.zero_le _, rfl, Own.nil _ _ _ _ _, hM, hm, grown_below (Below.refl _ _) _⟩
  case round =>
    obtain ⟨k, m, hk, rfl, hown, hM', hm', hG⟩ := hrel
    have hBr := below_step hw0 hw0.size hG (fun k e => by cases e; exact hM0)
    by_cases hlt : k < vs.length
    · obtain ⟨b', o, rfl, hbo, d0, d1, d2, d3⟩ := (hr3.below hBr).atVote hlt
      have hsn := whoOn_snoc (l := l) (id := id) hlt
      have hle := whoOn_len l (vs.take k) id
      obtain ⟨x, hx⟩ : ∃ x, vs[k] = x := ⟨_, rfl⟩
      rw [hx] at d0 d1 d2 d3 hsn
      clear hx
      have hvb : ∀ j, u7.ownBlock = some j → w.heap.size ≤ j := fun j hj => (hown.base j hj).1
      have hW1 : Below wr.heap.size wr (wr.alloc (.cells #[.int .i64 x.frm, .int .i64 x.slot, .int .u64 x.head.hi, .int .u64 x.head.lo] 42)) := (Below.refl _ wr).alloc (Nat.le_refl _) _
      have hb1 : (wr.alloc (.cells #[.int .i64 x.frm, .int .i64 x.slot, .int .u64 x.head.hi, .int .u64 x.head.lo] 42)).heap[wr.heap.size]? = some (.cells #[.int .i64 x.frm, .int .i64 x.slot, .int .u64 x.head.hi, .int .u64 x.head.lo] 42 (0, 0)) := ha_at rfl
      have hG1 := grown_trans hG (grown_below hW1 _)
      have hM1 := MapIs_below hM' hW1
      have ho1 := hown.below hW1
      have hon := on1_any l id x A c Bm Bl Bi M m _ ((hr.below hBr).below hW1) hl hM1 hm' (grown_own hG1 h1 hn1) (grown_own hG1 h2 hn2) (grown_own hG1 h3 hn3)
      have hrd : Below w0.heap.size w0 (wr.alloc (.cells #[.int .i64 x.frm, .int .i64 x.slot, .int .u64 x.head.hi, .int .u64 x.head.lo] 42)) := below_call hBr hBr.size hW1
      have hW := on2_any x
      have hne : some wr.heap.size ≠ some M := fun e => by have := MapIs_lt hM'; cases e; omega
      have hlen : (whoOn l (vs.take k) id).length ≤ 100000 := by have : (vs.take k).length ≤ vs.length := by simp; omega
                                                                 omega
      clear hle
      unfold votev at hon hW
      by_cases hin : id ∈ chain l x.head
      · have hd : decide (id ∈ chain l x.head) = true := by simpa using hin
        rw [hd] at hon
        rw [if_pos hin] at hsn
        have hsn' := Lib.hid hsn
        clear hsn hd hin
        go_wp2_with (first
          | (go_at_call 62; refine hon.mono ?_; clear hon; rintro e w2 ⟨rfl, ⟨m2, hM2, hm2⟩, hg2⟩; have hb2 := grown_own hg2 hb1 hne; have d0' := blk_cell hb2 0; have d1' := blk_cell hb2 1; have d2' := blk_cell hb2 2; have d3' := blk_cell hb2 3)
          | (go_at_call 64; refine (hW _).mono ?_; clear hW; rintro e w3 ⟨rfl, hb3⟩; have hW4 : Below w3.heap.size w3 (w3.alloc (.cells #[.int .i64 x.frm] 3)) := (Below.refl _ w3).alloc (Nat.le_refl _) _; have ho4 := ((ho1.grown hg2 (.inr (fun e => by have := hvb _ e; omega))).below hb3).below hW4; have hG4 := grown_trans (grown_trans (grown_trans hG1 hg2) (grown_below hb3 (some M))) (grown_below hW4 (some M)); have hM4 := MapIs_below (MapIs_below hM2 hb3) hW4)
          | (at_builtin; refine wp_append1 rfl rfl hun infoI rfl (by decide) encI_len encI_one rfl ho4 (g := w3.heap.size) (c := 1) rfl (y := x.frm) (ha_at rfl) rfl (by omega) (by unfold maxLen; omega) hG4.size ?_; intro v' w5 ho5 hg5 hat5))
        go_roundw
        case rel => exact ⟨k + 1, m2, hlt, by go_num, by rw [hsn'.out]; exact ho5, MapIs_grown hM4 hg5 (fun e => by have := hvb _ e.symm; omega), hm2, grown_row hG4 hg5 hvb⟩
        case measure => simp [intOf]; omega
      · have hd : decide (id ∈ chain l x.head) = false := by simpa using hin
        rw [hd] at hon
        rw [if_neg hin] at hsn
        have hsn' := Lib.hid hsn
        clear hsn hd hin
        go_wp2_with (go_at_call 62; refine hon.mono ?_; clear hon; rintro e w2 ⟨rfl, ⟨m2, hM2, hm2⟩, hg2⟩)
        go_roundw
        case rel => exact ⟨k + 1, m2, hlt, by go_num, by rw [hsn'.out, List.append_nil]; exact ho1.grown hg2 (.inr (fun e => by have := hvb _ e; omega)), hM2, hm2, grown_trans hG1 hg2⟩
        case measure => simp [intOf]; omega
    · obtain rfl : k = vs.length := by omega
      rw [List.take_length] at hown
      go_wp2_with fail
      go_ret
      exact ⟨_, rfl, hown, hG⟩
def onC (c : Cfg) (l : List Blk) (vs : List Vote) (id : ID) : Int := weightC c (whoOn l vs id)
set_option maxRecDepth 100000 in
set_option maxHeartbeats 2000000 in
theorem on_any (c : Cfg) (l : List Blk) (vs : List Vote) (id : ID) (A A2 A3 : Option Addr) (k k2 k3 : Nat) (w : World) (hr : Rd 1 encI w A c.W) (hr2 : Rd 5 encBlk w A2 l) (hr3 : Rd 4 encVote w A3 vs) (hl : l.length ≤ 100000) (hvl : vs.length ≤ 100000) :
    Calls Tryz.prog 30 #[cfgv A k c, .slice A2 l.length k2, .slice A3 vs.length k3, idv id] w fun e w' => e = .returned (.int .i64 (onC c l vs id)) ∧ Below w.heap.size w w' := by
  have hmm := @run_makeMap Tryz.prog
  have hm := hr.1
  have hm2 := hr2.1
  have hm3 := hr3.1
  unfold cfgv idv
  go_enter Tryz.func30, Tryz.ntmps30
  go_wp2_with fail
  have hW : ∃ W, (((((w.alloc (.cells #[.slice A c.W.length k, .int .u64 c.seed, .int .i64 c.epoch, .int .i64 c.num, .int .i64 c.den] 25)).alloc (.cells #[.slice A2 l.length k2] 26)).alloc (.cells #[.int .u64 id.hi, .int .u64 id.lo] 35)).alloc (.map #[] 0)).alloc (.cells #[.map (some (w.heap.size + 1 + 1 + 1))] 88)) = W := ⟨_, rfl⟩
  obtain ⟨W, hW⟩ := hW
  have hB : Below w.heap.size w W := by subst hW; exact (((((Below.refl _ w).alloc (Nat.le_refl _) _).alloc (by simp) _).alloc (by simp <;> omega) _).alloc (by simp <;> omega) _).alloc (by simp <;> omega) _
  have b0 : W.heap[w.heap.size]? = some (.cells #[.slice A c.W.length k, .int .u64 c.seed, .int .i64 c.epoch, .int .i64 c.num, .int .i64 c.den] 25 (0, 0)) := by subst hW; exact ha_lt (ha_lt (ha_lt (ha_lt (ha_at rfl))))
  have b1 : W.heap[w.heap.size + 1]? = some (.cells #[.slice A2 l.length k2] 26 (0, 0)) := by subst hW; exact ha_lt (ha_lt (ha_lt (ha_at (by simp))))
  have b2 : W.heap[w.heap.size + 1 + 1]? = some (.cells #[.int .u64 id.hi, .int .u64 id.lo] 35 (0, 0)) := by subst hW; exact ha_lt (ha_lt (ha_at (by simp)))
  have b4 : W.heap[w.heap.size + 1 + 1 + 1 + 1]? = some (.cells #[.map (some (w.heap.size + 1 + 1 + 1))] 88 (0, 0)) := by subst hW; exact ha_at (by simp)
  have bM : MapIs idv Value.bool W (w.heap.size + 1 + 1 + 1) ([] : List (ID × Bool)) := by subst hW; exact MapIs_alloc (MapIs_new _ _ (ha_at (by simp))) _
  rw [hW]
  clear hW
  have htold := fun V (hV : Below W.heap.size W V) => told_any l id vs A2 A3 k2 k3 _ _ _ _ [] V w (below_call hB hB.size hV) hr2 hr3 hl hvl (MapIs_below bM hV) (fun x r h => by simp [mget] at h) (bl_own hV b4) (bl_own hV b1) (bl_own hV b2) (by omega)
  have hwei := fun V (hV : Below w.heap.size w V) (A' : Option Addr) (k' : Nat) (hR : Rd 1 encI V A' (whoOn l vs id)) => dweight_any c (whoOn l vs id) A A' k k' V (hr.below hV) hR
  unfold cfgv at hwei
  have c0 := blk_cell b0 0
  have c1 := blk_cell b0 1
  have c2 := blk_cell b0 2
  have c3 := blk_cell b0 3
  have c4 := blk_cell b0 4
  go_region_held3 (fun W' => W'.cell? ⟨w.heap.size, 0, none⟩ = some (.slice A c.W.length k) ∧ W'.cell? ⟨w.heap.size, 1, none⟩ = some (.int .u64 c.seed) ∧ W'.cell? ⟨w.heap.size, 2, none⟩ = some (.int .i64 c.epoch) ∧ W'.cell? ⟨w.heap.size, 3, none⟩ = some (.int .i64 c.num) ∧ W'.cell? ⟨w.heap.size, 4, none⟩ = some (.int .i64 c.den)) (first | exact ⟨c0, c1, c2, c3, c4⟩ | exact ⟨d0, d1, d2, d3, d4⟩ | exact ⟨e0, e1, e2, e3, e4⟩) ((first
    | (go_at_call 63; refine (htold _ ((Below.refl _ W).drew)).mono ?_; rintro e w1 ⟨u, rfl, hown, hg1⟩; have hb1 := below_step hB.drew hB.size hg1 (fun k e => by cases e; omega); obtain ⟨A', c', rfl, hR⟩ := hown.rd encI_len; have b0' := grown_own hg1 b0 (by simp <;> omega); have d0 := blk_cell b0' 0; have d1 := blk_cell b0' 1; have d2 := blk_cell b0' 2; have d3 := blk_cell b0' 3; have d4 := blk_cell b0' 4)
    | (go_at_call 31; refine (hwei _ hb1 _ _ hR).mono ?_; rintro e w2 ⟨rfl, hb2⟩; have b0'' := bl_own hb2 b0'; have e0 := blk_cell b0'' 0; have e1 := blk_cell b0'' 1; have e2 := blk_cell b0'' 2; have e3 := blk_cell b0'' 3; have e4 := blk_cell b0'' 4)))
  go_wp2
  go_ret
  exact ⟨rfl, below_call hb1 hb1.size hb2⟩
set_option maxRecDepth 100000 in
set_option maxHeartbeats 2000000 in
theorem all_any (c : Cfg) (l : List Blk) (vs : List Vote) (A A2 A3 : Option Addr) (k k2 k3 : Nat) (w : World) (hr : Rd 1 encI w A c.W) (hr2 : Rd 5 encBlk w A2 l) (hr3 : Rd 4 encVote w A3 vs) (hl : l.length ≤ 100000) (hvl : vs.length ≤ 100000) :
    Calls Tryz.prog 32 #[cfgv A k c, .slice A2 l.length k2, .slice A3 vs.length k3] w fun e w' => e = .returned (.int .i64 (onC c l vs zid)) ∧ Below w.heap.size w w' := by
  have hm := hr.1
  have hm2 := hr2.1
  have hm3 := hr3.1
  have hon := fun V (hV : Below w.heap.size w V) => on_any c l vs zid A A2 A3 k k2 k3 V (hr.below hV) (hr2.below hV) (hr3.below hV) hl hvl
  unfold cfgv idv at *
  have hW : ∃ W, w.alloc (.cells #[.slice A c.W.length k, .int .u64 c.seed, .int .i64 c.epoch, .int .i64 c.num, .int .i64 c.den] 25) = W := ⟨_, rfl⟩
  obtain ⟨W, hW⟩ := hW
  have hB : Below w.heap.size w W := by subst hW; exact (Below.refl _ w).alloc (Nat.le_refl _) _
  have hb : W.heap[w.heap.size]? = some (.cells #[.slice A c.W.length k, .int .u64 c.seed, .int .i64 c.epoch, .int .i64 c.num, .int .i64 c.den] 25 (0, 0)) := by subst hW; exact ha_at rfl
  have c0 := blk_cell hb 0
  have c1 := blk_cell hb 1
  have c2 := blk_cell hb 2
  have c3 := blk_cell hb 3
  have c4 := blk_cell hb 4
  go_enter Tryz.func32, Tryz.ntmps32
  go_wp2_with (go_at_call 30; refine (hon _ hB).mono ?_; clear hon; rintro e w1 ⟨rfl, hb1⟩)
  go_ret
  exact ⟨rfl, below_call hB hB.size hb1⟩
end Go.Proofs.YtaohkcdfjjiggaaGreat
/-! The walks of marigoldref08's OnIn, On, All. -/
namespace Go.Proofs.YtaohkcdfjjiggaaGreat
open Go.RowKit
theorem wsumTo_false (W : List Int) (k : Nat) : wsumTo W (fun _ => false) k = 0 := by
  induction k with
  | zero => rfl
  | succ k ih => simp [wsumTo, ih]
theorem weightC_nil (c : Cfg) : weightC c [] = 0 := by
  unfold weightC
  split
  · have : (fun i : Nat => decide ((i : Int) ∈ ([] : List Int))) = fun _ => false := by funext i; simp
    rw [this, wsumTo_false]
  · rfl
theorem onC_notree {l : List Blk} (h : ¬ Tree l) (c : Cfg) (vs : List Vote) (id : ID) : onC c l vs id = 0 := by
  have : whoOn l vs id = [] := by
    unfold whoOn
    simp [chain_notree h]
  unfold onC
  rw [this, weightC_nil]
set_option maxRecDepth 100000 in
set_option maxHeartbeats 2000000 in
theorem ronin_any (c : Cfg) (l : List Blk) (vs : List Vote) (id : ID) (A A2 A3 N : Option Addr) (k k2 k3 kn : Nat) (w : World) (ht : Tree l) (hr : Rd 1 encI w A c.W) (hr2 : Rd 5 encBlk w A2 l) (hn : Rd 2 encID w N (names l)) (hr3 : Rd 4 encVote w A3 vs) (hl : l.length ≤ 100000) (hvl : vs.length ≤ 100000) :
    Calls Tryz.prog 108 #[cfgv A k c, .slice A2 l.length k2, .slice N l.length kn, .slice A3 vs.length k3, idv id] w fun e w' => e = .returned (.int .i64 (onC c l vs id)) ∧ Below w.heap.size w w' := by
  have hm := hr.1
  have hm2 := hr2.1
  have hm3 := hr3.1
  have hun := Tryz.underlying22
  have hund := fun (x : ID) V (hV : Below w.heap.size w V) => runderin_any l id x A2 N k2 kn V ht (hr2.below hV) (hn.below hV) hl
  have hwei := fun V (hV : Below w.heap.size w V) (A' : Option Addr) (k' : Nat) (hR : Rd 1 encI V A' (whoOn l vs id)) => rweight_any c (whoOn l vs id) A A' k k' V (hr.below hV) hR
  unfold cfgv idv at *
  go_enter Tryz.func108, Tryz.ntmps108
  go_wp2_with fail
  have hW : ∃ W, ((w.alloc (.cells #[.slice A c.W.length k, .int .u64 c.seed, .int .i64 c.epoch, .int .i64 c.num, .int .i64 c.den] 25)).alloc (.cells #[.int .u64 id.hi, .int .u64 id.lo] 35)) = W := ⟨_, rfl⟩
  obtain ⟨W, hW⟩ := hW
  have hB : Below w.heap.size w W := by subst hW; exact ((Below.refl _ w).alloc (Nat.le_refl _) _).alloc (by simp) _
  have b0 : W.heap[w.heap.size]? = some (.cells #[.slice A c.W.length k, .int .u64 c.seed, .int .i64 c.epoch, .int .i64 c.num, .int .i64 c.den] 25 (0, 0)) := by subst hW; exact ha_lt (ha_at rfl)
  have b1 : W.heap[w.heap.size + 1]? = some (.cells #[.int .u64 id.hi, .int .u64 id.lo] 35 (0, 0)) := by subst hW; exact ha_at (by simp)
  have hsz : W.heap.size = w.heap.size + 1 + 1 := by subst hW; simp
  rw [hW]
  clear hW
  go_loopw [11, 12, 13] (fun v i _u wr => ∃ j : Nat, j ≤ vs.length ∧ i = .int .i64 j ∧ Own wr W.heap.size 3 1 encI v (whoOn l (vs.take j) id) ∧ Below W.heap.size W wr) (fun _ i _ _ => vs.length - (intOf i).toNat)
  case atStart => exact ⟨0, Nat.zero_le _, rfl, Own.nil _ _ _ _ _, Below.refl _ _⟩
  case round =>
    obtain ⟨j, hj, rfl, hown, hBW⟩ := hrel
    have hBr := below_call hB hB.size hBW
    have b0' := bl_own hBW b0
    have b1' := bl_own hBW b1
    by_cases hlt : j < vs.length
    · obtain ⟨b', o, rfl, hbo, d0, d1, d2, d3⟩ := (hr3.below hBr).atVote hlt
      have hsn := whoOn_snoc (l := l) (id := id) hlt
      have hle := whoOn_len l (vs.take j) id
      obtain ⟨x, hxe⟩ : ∃ x, vs[j] = x := ⟨_, rfl⟩
      rw [hxe] at d0 d1 d2 d3 hsn
      have hvb : ∀ j, u11.ownBlock = some j → W.heap.size ≤ j := fun j hj => (hown.base j hj).1
      have hlen : (whoOn l (vs.take j) id).length ≤ 100000 := by have : (vs.take j).length ≤ vs.length := by simp; omega
                                                                 omega
      clear hle
      obtain ⟨c0, c1, _, _⟩ := blk2 b1'
      have hund' := fun V hV => hund x.head V hV
      have hvx := hr3
      have hst0 := Lib.hid (show ∀ V, Below W.heap.size W V → V.cell? ⟨b', o + j * 4, none⟩ = some (.int .i64 x.frm) from fun V hV => ?hst)
      case hst =>
        obtain ⟨b2, o2, he, _, q0, _⟩ := (hr3.below (below_call hB hB.size hV)).atVote hlt
        cases he
        rw [hxe] at q0
        exact q0
      have hst2 := Lib.hid (show ∀ V, Below W.heap.size W V → V.cell? ⟨b', o + j * 4 + 2, none⟩ = some (.int .u64 x.head.hi) ∧ V.cell? ⟨b', o + j * 4 + 3, none⟩ = some (.int .u64 x.head.lo) from fun V hV => ?hst2)
      case hst2 =>
        obtain ⟨b2, o2, he, _, _, _, q2, q3⟩ := (hr3.below (below_call hB hB.size hV)).atVote hlt
        cases he
        rw [hxe] at q2 q3
        exact ⟨q2, q3⟩
      clear hxe
      by_cases hin : id ∈ chain l x.head
      · have hd : decide (id ∈ chain l x.head) = true := by simpa using hin
        rw [hd] at hund'
        rw [if_pos hin] at hsn
        have hsn' := Lib.hid hsn
        clear hsn hd hin hund
        go_wp2_with fail
        go_region_held3 (fun W' => W'.cell? ⟨w.heap.size + 1, 0, none⟩ = some (.int .u64 id.hi) ∧ W'.cell? ⟨w.heap.size + 1, 1, none⟩ = some (.int .u64 id.lo) ∧ W'.cell? ⟨b', o + j * 4 + 2, none⟩ = some (.int .u64 x.head.hi) ∧ W'.cell? ⟨b', o + j * 4 + 3, none⟩ = some (.int .u64 x.head.lo)) (first | exact ⟨c0, c1, d2, d3⟩ | exact ⟨e0, e1, e2, e3⟩) ((go_at_call 139; refine (hund' _ hBr.drew).mono ?_; rintro e w1 ⟨rfl, hb1⟩; have hB1 := below_call hBW.drew hBW.size hb1; obtain ⟨e0, e1, _, _⟩ := blk2 (bl_own hB1 b1); obtain ⟨e2, e3⟩ := hst2.out _ hB1))
        have d0' := hst0.out _ hB1
        have ho1 := hown.below (below_call ((Below.refl wr.heap.size wr).drew) (Nat.le_refl _) hb1)
        have hW2 : Below w1.heap.size w1 (w1.alloc (.cells #[.int .i64 x.frm] 3)) := (Below.refl _ w1).alloc (Nat.le_refl _) _
        have ho2 := ho1.below hW2
        have hB2 := below_call hB1 hB1.size hW2
        go_wp2_with (at_builtin; refine wp_append1 rfl rfl hun infoI rfl (by decide) encI_len encI_one rfl ho2 (g := w1.heap.size) (c := 1) rfl (y := x.frm) (ha_at rfl) rfl (by omega) (by unfold maxLen; omega) hB2.size ?_; intro v' w5 ho5 hg5 hat5)
        go_roundw
        case rel => exact ⟨j + 1, hlt, by go_num, by rw [hsn'.out]; exact ho5, below_step hB2 hB2.size hg5 hvb⟩
        case measure => simp [intOf]; omega
      · have hd : decide (id ∈ chain l x.head) = false := by simpa using hin
        rw [hd] at hund'
        rw [if_neg hin] at hsn
        have hsn' := Lib.hid hsn
        clear hsn hd hin hund
        go_wp2_with fail
        go_region_held3 (fun W' => W'.cell? ⟨w.heap.size + 1, 0, none⟩ = some (.int .u64 id.hi) ∧ W'.cell? ⟨w.heap.size + 1, 1, none⟩ = some (.int .u64 id.lo) ∧ W'.cell? ⟨b', o + j * 4 + 2, none⟩ = some (.int .u64 x.head.hi) ∧ W'.cell? ⟨b', o + j * 4 + 3, none⟩ = some (.int .u64 x.head.lo)) (first | exact ⟨c0, c1, d2, d3⟩ | exact ⟨e0, e1, e2, e3⟩) ((go_at_call 139; refine (hund' _ hBr.drew).mono ?_; rintro e w1 ⟨rfl, hb1⟩; have hB1 := below_call hBW.drew hBW.size hb1; obtain ⟨e0, e1, _, _⟩ := blk2 (bl_own hB1 b1); obtain ⟨e2, e3⟩ := hst2.out _ hB1))
        go_wp2_with fail
        go_roundw
        case rel => exact ⟨j + 1, hlt, by go_num, by rw [hsn'.out, List.append_nil]; exact hown.below (below_call ((Below.refl wr.heap.size wr).drew) (Nat.le_refl _) hb1), hB1⟩
        case measure => simp [intOf]; omega
    · obtain rfl : j = vs.length := by omega
      rw [List.take_length] at hown
      obtain ⟨A', c', rfl, hR⟩ := hown.rd encI_len
      have hwei' := hwei _ hBr A' c' hR
      have c0 := blk_cell b0' 0
      have c1 := blk_cell b0' 1
      have c2 := blk_cell b0' 2
      have c3 := blk_cell b0' 3
      have c4 := blk_cell b0' 4
      clear hwei hund
      go_wp2_with (go_at_call 68; refine hwei'.mono ?_; clear hwei'; rintro e w1 ⟨rfl, hb1⟩)
      go_ret
      exact ⟨rfl, below_call hBr hBr.size hb1⟩
set_option maxRecDepth 100000 in
set_option maxHeartbeats 2000000 in
theorem ron_any (c : Cfg) (l : List Blk) (vs : List Vote) (id : ID) (A A2 A3 : Option Addr) (k k2 k3 : Nat) (w : World) (hok : ∀ b ∈ l, b.Ok) (hr : Rd 1 encI w A c.W) (hr2 : Rd 5 encBlk w A2 l) (hr3 : Rd 4 encVote w A3 vs) (hl : l.length ≤ 100000) (hvl : vs.length ≤ 100000) :
    Calls Tryz.prog 72 #[cfgv A k c, .slice A2 l.length k2, .slice A3 vs.length k3, idv id] w fun e w' => e = .returned (.int .i64 (onC c l vs id)) ∧ Below w.heap.size w w' := by
  have hm := hr.1
  have hm2 := hr2.1
  have hm3 := hr3.1
  have hnl : (names l).length = l.length := by simp [names]
  have hnm := fun V (hV : Below w.heap.size w V) => rnames_any l A2 k2 V (hr2.below hV) hok hl
  have hmi := fun V (hV : Below w.heap.size w V) (N : Option Addr) (d : Nat) (hn : Rd 2 encID V N (names l)) (hd : l.length ≤ d) => rmayin_any l A2 N k2 d V (hr2.below hV) hn hd hl
  have hin := fun V (ht : Tree l) (hV : Below w.heap.size w V) (N : Option Addr) (d : Nat) (hn : Rd 2 encID V N (names l)) => ronin_any c l vs id A A2 A3 N k k2 k3 d V ht (hr.below hV) (hr2.below hV) hn (hr3.below hV) hl hvl
  unfold cfgv idv at *
  have hW : ∃ W, ((w.alloc (.cells #[.slice A c.W.length k, .int .u64 c.seed, .int .i64 c.epoch, .int .i64 c.num, .int .i64 c.den] 25)).alloc (.cells #[.int .u64 id.hi, .int .u64 id.lo] 35)) = W := ⟨_, rfl⟩
  obtain ⟨W, hW⟩ := hW
  have hB : Below w.heap.size w W := by subst hW; exact ((Below.refl _ w).alloc (Nat.le_refl _) _).alloc (by simp) _
  have b0 : W.heap[w.heap.size]? = some (.cells #[.slice A c.W.length k, .int .u64 c.seed, .int .i64 c.epoch, .int .i64 c.num, .int .i64 c.den] 25 (0, 0)) := by subst hW; exact ha_lt (ha_at rfl)
  have b1 : W.heap[w.heap.size + 1]? = some (.cells #[.int .u64 id.hi, .int .u64 id.lo] 35 (0, 0)) := by subst hW; exact ha_at (by simp)
  by_cases ht : Tree l
  · have hmb : mayB l = true := by simp [mayB, ht]
    rw [hmb] at hmi
    have hin' := fun V => hin V ht
    clear hmb ht hin
    go_enter Tryz.func72, Tryz.ntmps72
    go_wp2_with (first
      | (go_at_call 83; refine (hnm _ hB).mono ?_; clear hnm; rintro e w1 ⟨u, rfl, hown, hb1⟩; obtain ⟨N, d, rfl, hd, hR⟩ := hown.rdc encID_len; rw [hnl] at hd; have hB1 := below_call hB hB.size hb1; have b0' := bl_own hb1 b0; have b1' := bl_own hb1 b1)
      | (go_at_call 84; (try rw [hnl]); refine (hmi _ hB1 N d hR hd).mono ?_; clear hmi; rintro e w2 ⟨rfl, hb2⟩; have hB2 := below_call hB1 hB1.size hb2; have b0'' := bl_own hb2 b0'; obtain ⟨e0, e1, _, _⟩ := blk2 (bl_own hb2 b1'); have c0 := blk_cell b0'' 0; have c1 := blk_cell b0'' 1; have c2 := blk_cell b0'' 2; have c3 := blk_cell b0'' 3; have c4 := blk_cell b0'' 4; have hR2 := hR.below hb2)
      | (go_at_call 108; (try rw [hnl]); refine (hin' _ hB2 N d hR2).mono ?_; clear hin'; rintro e w3 ⟨rfl, hb3⟩))
    go_ret
    exact ⟨rfl, below_call hB2 hB2.size hb3⟩
  · have hmb : mayB l = false := by simp [mayB, ht]
    rw [hmb] at hmi
    have hz := Lib.hid (onC_notree ht c vs id)
    clear hmb ht hin
    go_enter Tryz.func72, Tryz.ntmps72
    go_wp2_with (first
      | (go_at_call 83; refine (hnm _ hB).mono ?_; clear hnm; rintro e w1 ⟨u, rfl, hown, hb1⟩; obtain ⟨N, d, rfl, hd, hR⟩ := hown.rdc encID_len; rw [hnl] at hd; have hB1 := below_call hB hB.size hb1)
      | (go_at_call 84; (try rw [hnl]); refine (hmi _ hB1 N d hR hd).mono ?_; clear hmi; rintro e w2 ⟨rfl, hb2⟩; have hB2 := below_call hB1 hB1.size hb2))
    go_ret
    exact ⟨ret_int hz.out.symm, hB2⟩
end Go.Proofs.YtaohkcdfjjiggaaGreat
