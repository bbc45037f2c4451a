/- GC: several texts in one. -/
import Derived.Test.YtdocgemfedohdaaGreatGB
import Derived.Laws.BitsAllLaws
/-! The walks of marigoldref02 and marigoldref06. -/
namespace Go.Proofs.YtdocgemfedohdaaGreat
open Go.RowKit
/-- A word. -/
def U64 (x : Int) : Prop := 0 ≤ x ∧ x ≤ 18446744073709551615
theorem compl_u64 {x : Int} (h : U64 x) : bits BinOp.xor IntKind.u64 IntKind.u64.max x = 18446744073709551615 - x := by
  obtain ⟨h0, h1⟩ := h
  obtain ⟨n, rfl⟩ : ∃ n : Nat, x = n := ⟨x.toNat, by omega⟩
  have hm : IntKind.u64.max = ((18446744073709551615 : Nat) : Int) := by decide
  rw [hm, u64_xor_nat _ _ (by omega) (by omega)]
  have : 18446744073709551615 ^^^ n = 18446744073709551615 - n := by
    have hn : n < 2 ^ 64 := by omega
    have h2 : (18446744073709551615 : Nat) = 2 ^ 64 - 1 := by decide
    rw [h2]
    apply Nat.eq_of_testBit_eq
    intro i
    rw [Nat.testBit_xor, Nat.testBit_two_pow_sub_one, show 2 ^ 64 - 1 - n = 2 ^ 64 - (n + 1) by omega, Nat.testBit_two_pow_sub_succ hn]
    by_cases hi : i < 64
    · simp [hi]
    · simp [hi]
      exact Nat.testBit_lt_two_pow (Nat.lt_of_lt_of_le hn (Nat.pow_le_pow_right (by omega) (by omega)))
  rw [this]
  omega
/-- A block whose numbers are of their kinds. -/
structure Blk.Ok (b : Blk) : Prop where
  slot : -9223372036854775808 ≤ b.slot ∧ b.slot ≤ 9223372036854775807
  frm : -9223372036854775808 ≤ b.frm ∧ b.frm ≤ 9223372036854775807
  hi : U64 b.par.hi
  lo : U64 b.par.lo
  salt : U64 b.salt
theorem wrap_u64 (x : Int) : U64 (IntKind.u64.wrap x) := by
  have : IntKind.u64.wrap x = x % 18446744073709551616 := by simp [IntKind.wrap, IntKind.bits, IntKind.signed]
  rw [this]
  unfold U64
  omega
def names (l : List Blk) : List ID := l.map nameOf
end Go.Proofs.YtdocgemfedohdaaGreat
/-! The walk of marigoldref06.may. -/
namespace Go.Proofs.YtdocgemfedohdaaGreat
open Go.RowKit
theorem names_take (l : List Blk) (k : Nat) : (names l).take k = names (l.take k) := by simp [names, List.map_take]
theorem mem_names {l : List Blk} {x : ID} : x ∈ names l ↔ ∃ b ∈ l, nameOf b = x := by simp [names]
theorem tree_pos {l : List Blk} (h : Tree l) : ∀ i (hi : i < l.length), 0 < l[i].slot := by
  intro i
  induction i using Nat.strongRecOn with
  | _ i ih =>
    intro hi
    rcases (h i hi).2.2 with ⟨_, h1⟩ | ⟨_, c, hc, _, h1⟩
    · exact h1
    · obtain ⟨j, hj, rfl⟩ := List.getElem_of_mem hc
      simp only [List.length_take] at hj
      have := ih j (by omega) (by omega)
      simp only [List.getElem_take] at h1
      omega
end Go.Proofs.YtdocgemfedohdaaGreat
/-! The walks of marigoldref06.MayIn and UnderIn. -/
namespace Go.Proofs.YtdocgemfedohdaaGreat
open Go.RowKit
theorem idx_names {l : List Blk} {x : ID} : idxI (names l) x = -1 ∧ (∀ b ∈ l, nameOf b ≠ x) ∨ ∃ n : Nat, idxI (names l) x = n ∧ ∃ h : n < l.length, nameOf l[n] = x := by
  unfold idxI
  cases hf : (names l).findIdx? fun y => decide (y = x) with
  | none =>
    left
    rw [List.findIdx?_eq_none_iff] at hf
    refine ⟨rfl, fun b hb he => ?_⟩
    have := hf (nameOf b) (List.mem_map.2 ⟨b, hb, rfl⟩)
    simp [he] at this
  | some n =>
    right
    rw [List.findIdx?_eq_some_iff_getElem] at hf
    obtain ⟨h1, h2, _⟩ := hf
    simp only [names, List.length_map] at h1
    simp only [names, List.getElem_map, decide_eq_true_eq] at h2
    exact ⟨n, rfl, h1, h2⟩
theorem idx_up {l : List Blk} {x : ID} : idxI (names l) x < (l.length : Int) + 1 := by
  rcases idx_names (l := l) (x := x) with ⟨h, _⟩ | ⟨n, h, hn, _⟩ <;> omega
theorem par_idx {l : List Blk} (ht : Tree l) {n : Nat} (hn : n < l.length) : idxI (names l) l[n].par < n := by
  rcases idx_names (l := l) (x := l[n].par) with ⟨h, _⟩ | ⟨m, h, hm, he⟩
  · omega
  · rw [h]
    rcases (ht n hn).2.2 with ⟨hz, _⟩ | ⟨_, c, hc, h1, _⟩
    · exact absurd (he.trans hz) (ht m hm).1
    · obtain ⟨k, hk, rfl⟩ := List.getElem_of_mem hc
      simp only [List.length_take] at hk
      simp only [List.getElem_take] at h1
      have : m = k := tree_inj ht hm (by omega) (by rw [he, h1])
      omega
/-- What holds at the loop's head. -/
def UnderAt (l : List Blk) (low id x : ID) (j : Int) : Prop := idxI (names l) x = j ∧ (x = zid ∨ ∃ b ∈ l, nameOf b = x) ∧ (low ∈ chain l x ↔ low ∈ chain l id)
theorem UnderAt.zero {l : List Blk} {low id x : ID} {j : Int} (ht : Tree l) (h : UnderAt l low id x j) (hj : j < 0) : x = zid ∧ decide (x = low) = decide (low ∈ chain l id) := by
  obtain ⟨h1, h2, h3⟩ := h
  have hx : x = zid := by
    rcases h2 with e | ⟨b, hb, e⟩
    · exact e
    · rcases idx_names (l := l) (x := x) with ⟨_, hno⟩ | ⟨n, hn, _⟩
      · exact absurd e (hno b hb)
      · omega
  refine ⟨hx, ?_⟩
  subst hx
  rw [chain_zid ht] at h3
  by_cases he : low = zid
  · simp only [he, decide_true]; simpa [he] using h3
  · have he' : ¬ zid = low := fun e => he e.symm
    simpa [he, he'] using h3
theorem UnderAt.found {l : List Blk} {low id x : ID} {j : Int} (ht : Tree l) (h : UnderAt l low id x j) (hx : x = low) : decide (low ∈ chain l id) = true := by
  obtain ⟨_, h2, h3⟩ := h
  subst hx
  obtain ⟨r, hr⟩ := chain_head ht h2
  simpa using h3.1 (by rw [hr]; simp)
theorem UnderAt.step {l : List Blk} {low id x : ID} {n : Nat} (ht : Tree l) (h : UnderAt l low id x n) (hx : x ≠ low) : ∃ hn : n < l.length, UnderAt l low id l[n].par (idxI (names l) l[n].par) := by
  obtain ⟨h1, _, h3⟩ := h
  rcases idx_names (l := l) (x := x) with ⟨hi, _⟩ | ⟨m, hm, hml, hnm⟩
  · omega
  · have : m = n := by omega
    subst this
    refine ⟨hml, rfl, par_mem ht hml, ?_⟩
    rw [← h3, ← hnm, chain_cons ht hml]
    simp only [List.mem_cons]
    constructor
    · exact .inr
    · rintro (e | e)
      · exact absurd (hnm.symm.trans e.symm) hx
      · exact e
end Go.Proofs.YtdocgemfedohdaaGreat
/-! The walks of slices.Min, slices.Max, duty.May, and marigoldref05's May, Has, Weight. -/
namespace Go.Proofs.YtdocgemfedohdaaGreat
open Go.RowKit
structure Cfg where
  W : List Int
  seed : Int
  epoch : Int
  num : Int
  den : Int
def cfgv (A : Option Addr) (k : Nat) (c : Cfg) : Value := .agg #[.slice A c.W.length k, .int .u64 c.seed, .int .i64 c.epoch, .int .i64 c.num, .int .i64 c.den]
/-- A conf that may be. -/
def MayC (c : Cfg) : Prop := (1 ≤ c.W.length ∧ c.W.length ≤ 12 ∧ (∀ x ∈ c.W, 0 ≤ x ∧ x ≤ 1099511627776)) ∧ 1 ≤ c.epoch ∧ c.epoch ≤ 8 ∧ 0 ≤ c.num ∧ c.num ≤ c.den ∧ 1 ≤ c.den ∧ c.den ≤ 1000
instance (c : Cfg) : Decidable (MayC c) := by unfold MayC; exact inferInstance
set_option maxRecDepth 100000 in
set_option maxHeartbeats 1000000 in
theorem min_any (l : List Int) (A : Option Addr) (c : Nat) (w : World) (hr : Rd 1 encI w A l) (hne : 0 < l.length) :
    Calls Tryz.prog 18 #[.slice A l.length c] w fun e w' => ∃ m, e = .returned (.int .i64 m) ∧ m ∈ l ∧ (∀ x ∈ l, m ≤ x) ∧ Below w.heap.size w w' := by
  have hm := hr.1
  obtain ⟨b0, o0, rfl, hbo0, d0⟩ := hr.atI hne
  have hn1 : ¬ (l.length : Int) < 1 := by omega
  have hn2 : ¬ l.length < 1 := by omega
  go_enter Tryz.func18, Tryz.ntmps18
  rw [Nat.add_zero] at d0
  go_wp2_with fail
  go_loopw [3, 4] (fun v i wr => ∃ (k : Nat) (m : Int), 1 ≤ k ∧ k ≤ l.length ∧ i = .int .i64 k ∧ v = .int .i64 m ∧ m ∈ l ∧ (∀ x ∈ l.take k, m ≤ x) ∧ wr = w) (fun _ i _ => l.length - (intOf i).toNat)
  case atStart => exact ⟨1, l[0], Nat.le_refl _, hne, rfl, rfl, List.getElem_mem _, by rw [show (1 : Nat) = 0 + 1 from rfl, ← List.take_append_getElem hne]; simp, rfl⟩
  case round =>
    obtain ⟨k, m, hk1, hk, rfl, rfl, hmem, hall, rfl⟩ := hrel
    have hall' := Lib.hid hall
    clear hall
    by_cases hlt : k < l.length
    · obtain ⟨b, o, he, _, d⟩ := hr.atI hlt
      cases he
      obtain ⟨x, hx⟩ : ∃ x, l[k] = x := ⟨_, rfl⟩
      have hxm : x ∈ l := by rw [← hx]; exact List.getElem_mem hlt
      have hst : ∀ z, (z ≤ m ∧ z ≤ x) → ∀ y ∈ l.take (k + 1), z ≤ y := by
        intro z hz y hy
        rw [← List.take_append_getElem hlt, hx] at hy
        rcases List.mem_append.1 hy with h | h
        · have := hall'.out y h; omega
        · simp only [List.mem_singleton] at h; omega
      rw [hx] at d
      have hst' := Lib.hid hst
      clear hx hst
      go_wp2_with fail
      go_roundw
      case rel => exact ⟨k + 1, if x < m then x else m, by omega, hlt, by go_num, rfl, by split <;> assumption, hst'.out _ (by split <;> omega), trivial⟩
      case measure => simp [intOf]; omega
    · obtain rfl : k = l.length := by omega
      rw [List.take_length] at hall'
      go_wp2_with fail
      go_ret
      exact ⟨m, rfl, hmem, hall'.out, Below.refl _ _⟩
set_option maxRecDepth 100000 in
set_option maxHeartbeats 1000000 in
theorem max_any (l : List Int) (A : Option Addr) (c : Nat) (w : World) (hr : Rd 1 encI w A l) (hne : 0 < l.length) :
    Calls Tryz.prog 19 #[.slice A l.length c] w fun e w' => ∃ m, e = .returned (.int .i64 m) ∧ m ∈ l ∧ (∀ x ∈ l, x ≤ m) ∧ Below w.heap.size w w' := by
  have hm := hr.1
  obtain ⟨b0, o0, rfl, hbo0, d0⟩ := hr.atI hne
  have hn1 : ¬ (l.length : Int) < 1 := by omega
  have hn2 : ¬ l.length < 1 := by omega
  go_enter Tryz.func19, Tryz.ntmps19
  rw [Nat.add_zero] at d0
  go_wp2_with fail
  go_loopw [3, 4] (fun v i wr => ∃ (k : Nat) (m : Int), 1 ≤ k ∧ k ≤ l.length ∧ i = .int .i64 k ∧ v = .int .i64 m ∧ m ∈ l ∧ (∀ x ∈ l.take k, x ≤ m) ∧ wr = w) (fun _ i _ => l.length - (intOf i).toNat)
  case atStart => exact ⟨1, l[0], Nat.le_refl _, hne, rfl, rfl, List.getElem_mem _, by rw [show (1 : Nat) = 0 + 1 from rfl, ← List.take_append_getElem hne]; simp, rfl⟩
  case round =>
    obtain ⟨k, m, hk1, hk, rfl, rfl, hmem, hall, rfl⟩ := hrel
    have hall' := Lib.hid hall
    clear hall
    by_cases hlt : k < l.length
    · obtain ⟨b, o, he, _, d⟩ := hr.atI hlt
      cases he
      obtain ⟨x, hx⟩ : ∃ x, l[k] = x := ⟨_, rfl⟩
      have hxm : x ∈ l := by rw [← hx]; exact List.getElem_mem hlt
      have hst : ∀ z, (m ≤ z ∧ x ≤ z) → ∀ y ∈ l.take (k + 1), y ≤ z := by
        intro z hz y hy
        rw [← List.take_append_getElem hlt, hx] at hy
        rcases List.mem_append.1 hy with h | h
        · have := hall'.out y h; omega
        · simp only [List.mem_singleton] at h; omega
      rw [hx] at d
      have hst' := Lib.hid hst
      clear hx hst
      go_wp2_with fail
      go_roundw
      case rel => exact ⟨k + 1, if m < x then x else m, by omega, hlt, by go_num, rfl, by split <;> assumption, hst'.out _ (by split <;> omega), trivial⟩
      case measure => simp [intOf]; omega
    · obtain rfl : k = l.length := by omega
      rw [List.take_length] at hall'
      go_wp2_with fail
      go_ret
      exact ⟨m, rfl, hmem, hall'.out, Below.refl _ _⟩
def CfgOk (c : Cfg) : Prop := c.W.length ≤ 9223372036854775807
theorem mayC_W {c : Cfg} (h1 : 1 ≤ c.W.length) (h2 : c.W.length ≤ 12) {lo hi : Int} (hlo : lo ∈ c.W ∧ ∀ x ∈ c.W, lo ≤ x) (hhi : hi ∈ c.W ∧ ∀ x ∈ c.W, x ≤ hi) :
    decide (MayC c) = (decide (0 ≤ lo) && decide (hi ≤ 1099511627776) && decide (1 ≤ c.epoch ∧ c.epoch ≤ 8 ∧ 0 ≤ c.num ∧ c.num ≤ c.den ∧ 1 ≤ c.den ∧ c.den ≤ 1000)) := by
  rw [Bool.eq_iff_iff]
  simp only [Bool.and_eq_true, decide_eq_true_eq]
  constructor
  · rintro ⟨⟨_, _, h⟩, hr⟩
    exact ⟨⟨(h lo hlo.1).1, (h hi hhi.1).2⟩, hr⟩
  · rintro ⟨⟨h3, h4⟩, hr⟩
    exact ⟨⟨h1, h2, fun x hx => ⟨by have := hlo.2 x hx; omega, by have := hhi.2 x hx; omega⟩⟩, hr⟩
set_option maxRecDepth 100000 in
set_option maxHeartbeats 2000000 in
theorem dmay_any (c : Cfg) (A : Option Addr) (k : Nat) (w : World) (hr : Rd 1 encI w A c.W) :
    Calls Tryz.prog 7 #[cfgv A k c] w fun e w' => e = .returned (.bool (decide (MayC c))) ∧ Below w.heap.size w w' := by
  have hm := hr.1
  unfold cfgv
  have hW : ∃ W, w.alloc (.cells #[.slice A c.W.length k, .int .u64 c.seed, .int .i64 c.epoch, .int .i64 c.num, .int .i64 c.den] 25) = W := ⟨_, rfl⟩
  obtain ⟨W, hW⟩ := hW
  have hB : Below w.heap.size w W := by subst hW; exact (Below.refl _ w).alloc (Nat.le_refl _) _
  have hb : W.heap[w.heap.size]? = some (.cells #[.slice A c.W.length k, .int .u64 c.seed, .int .i64 c.epoch, .int .i64 c.num, .int .i64 c.den] 25 (0, 0)) := by subst hW; exact ha_at rfl
  have c0 := blk_cell hb 0
  by_cases h1 : 1 ≤ c.W.length ∧ c.W.length ≤ 12
  · obtain ⟨h1, h2⟩ := h1
    have hmw := fun lo hi => mayC_W (c := c) (lo := lo) (hi := hi) h1 h2
    obtain ⟨r, hrr⟩ : ∃ r, decide (MayC c) = r := ⟨_, rfl⟩
    have hneg : ∀ lo, lo ∈ c.W → lo < 0 → decide (MayC c) = false := fun lo hm hl => by
      simp only [decide_eq_false_iff_not]
      rintro ⟨⟨_, _, h⟩, _⟩
      have := (h lo hm).1
      omega
    rw [hrr]
    simp only [hrr] at hmw hneg
    have hneg' := Lib.hid hneg
    clear hneg
    have hmw' := Lib.hid hmw
    clear hmw hrr
    have hmin := fun W (hW : Below w.heap.size w W) => min_any c.W A k W (hr.below hW) h1
    have hmax := fun W (hW : Below w.heap.size w W) => max_any c.W A k W (hr.below hW) h1
    have h3 : ((c.W.length : Int) == 0) = false := by simp; intro e; rw [e] at h1; simp at h1
    have h4 : ¬ (12 : Int) < (c.W.length : Int) := by omega
    go_enter Tryz.func7, Tryz.ntmps7
    go_wp2_with (first | (go_at_call 18; refine (hmin _ hB).mono ?_; rintro e w1 ⟨lo, rfl, hlo1, hlo2, hb1⟩; have hB1 := below_call hB hB.size hb1; have hbb1 := bl_own hb1 hb; have e0 := blk_cell hbb1 0; have e2 := blk_cell hbb1 2; have e3 := blk_cell hbb1 3; have e4 := blk_cell hbb1 4; have hlo := Lib.hid (And.intro hlo1 hlo2); clear hlo1 hlo2) | (go_at_call 19; refine (hmax _ hB1).mono ?_; rintro e w2 ⟨hi, rfl, hhi1, hhi2, hb2⟩; have hB2 := below_call hB1 hB1.size hb2; have hbb2 := bl_own hb2 hbb1; have f0 := blk_cell hbb2 0; have f2 := blk_cell hbb2 2; have f3 := blk_cell hbb2 3; have f4 := blk_cell hbb2 4; have hhi := Lib.hid (And.intro hhi1 hhi2); clear hhi1 hhi2))
    all_goals go_ret
    all_goals
      first
        | (refine ⟨ret_bool ?_, hB2⟩
           rw [hmw'.out _ _ hlo.out hhi.out, Bool.eq_iff_iff]
           simp only [Bool.and_eq_true, decide_eq_true_eq, Bool.false_eq_true, false_iff]
           omega)
        | (refine ⟨ret_bool (Eq.symm (hneg'.out lo hlo.out.1 (by assumption))), hB1⟩)
  · have hres : decide (MayC c) = false := by
      simp only [decide_eq_false_iff_not]
      rintro ⟨⟨h2, h3, _⟩, _⟩
      exact h1 ⟨h2, h3⟩
    have hres' := Lib.hid hres
    clear hres
    rcases Nat.lt_or_ge 12 c.W.length with h2 | h2
    · clear h1
      go_enter Tryz.func7, Tryz.ntmps7
      go_wp2_with fail
      all_goals (go_ret; exact ⟨ret_bool hres'.out.symm, hB⟩)
    · obtain h3 : c.W.length = 0 := by omega
      clear h1 h2
      rw [h3] at c0 hW hb ⊢
      have h3' := Lib.hid h3
      clear h3
      go_enter Tryz.func7, Tryz.ntmps7
      go_wp2_with fail
      go_ret
      exact ⟨ret_bool hres'.out.symm, hB⟩
set_option maxRecDepth 100000 in
set_option maxHeartbeats 1000000 in
theorem rhas_any (x : Int) (xs : List Int) (A : Option Addr) (c : Nat) (w : World) (hr : Rd 1 encI w A xs) :
    Calls Tryz.prog 15 #[.slice A xs.length c, .int .i64 x] w fun e w' => e = .returned (.bool (decide (x ∈ xs))) ∧ w' = w := by
  go_enter Tryz.func15, Tryz.ntmps15
  go_wp2_with fail
  have hm := hr.1
  go_loop [5] (fun i => ∃ k : Nat, k ≤ xs.length ∧ i = .int .i64 k ∧ Hid (x ∉ xs.take k)) (fun i => xs.length - (intOf i).toNat)
  case atStart => exact ⟨0, Nat.zero_le _, rfl, Lib.hid (by simp)⟩
  case round =>
    obtain ⟨k, hk, rfl, hno⟩ := hrel
    by_cases hlt : k < xs.length
    · obtain ⟨b, o, rfl, hbo, d⟩ := hr.atI hlt
      have hmem := List.getElem_mem hlt
      have hst := fun h : ¬ x = xs[k] => not_mem_step hlt hno.out h
      obtain ⟨y, hy⟩ : ∃ y, xs[k] = y := ⟨_, rfl⟩
      rw [hy] at d hst hmem
      by_cases hx : x = y
      · have hd : decide (x ∈ xs) = true := by rw [hx]; simpa using hmem
        have hd' := Lib.hid hd
        have he : (y == x) = true := by simp [hx]
        clear hst hx hmem hd hy
        go_wp2_with fail
        go_ret
        exact ⟨ret_bool hd'.out.symm, rfl⟩
      · have hst' := Lib.hid (hst hx)
        have he : (y == x) = false := by simpa using fun e => hx e.symm
        clear hst hx hmem hy
        go_wp2_with fail
        go_round
        case rel => exact ⟨k + 1, hlt, by go_num, hst'⟩
        case measure => simp [intOf]; omega
    · obtain rfl : k = xs.length := by omega
      have hd' := Lib.hid (show decide (x ∈ xs) = false by simpa using hno.out)
      go_wp2_with fail
      go_ret
      exact ⟨ret_bool hd'.out.symm, rfl⟩
end Go.Proofs.YtdocgemfedohdaaGreat
