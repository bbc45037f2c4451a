/- GR: several texts in one. -/
import Derived.Test.YtaohkcdfjjiggaaGreatGA
import Derived.Test.YtaohkcdfjjiggaaGreatGE
import Derived.Test.YtaohkcdfjjiggaaGreatShelf
/-! Numbers that may be, and products of them: the plain law, and the document's walks. -/
namespace Go.Proofs.YtaohkcdfjjiggaaGreat
open Go.RowKit
def NumOk (n : Int) : Prop := 0 ≤ n ∧ n ≤ 4611686018427387904
instance (n : Int) : Decidable (NumOk n) := by unfold NumOk; exact inferInstance
/-- Is a times b more than c times d, and may all be? -/
def moreB (a b c d : Int) : Bool := decide ((NumOk a ∧ NumOk b ∧ NumOk c ∧ NumOk d) ∧ c * d < a * b)
set_option maxHeartbeats 400000 in
theorem rtmay_any (n : Int) (w : World) :
    Calls Tryz.prog 158 #[.int .i64 n] w fun e w' => e = .returned (.bool (decide (NumOk n))) ∧ w' = w := by
  have hd : decide (NumOk n) = (decide (0 ≤ n) && decide (n ≤ 4611686018427387904)) := by rw [Bool.eq_iff_iff]; simp only [Bool.and_eq_true, decide_eq_true_eq]; exact Iff.rfl
  rw [hd]
  go_enter Tryz.func158, Tryz.ntmps158
  go_wp2_with fail
  all_goals
    go_ret
    refine ⟨ret_bool ?_, rfl⟩
    rw [Bool.eq_iff_iff]
    simp only [Bool.and_eq_true, decide_eq_true_eq, Bool.false_eq_true, false_iff]
    omega
set_option maxHeartbeats 400000 in
theorem rrmay_any (n : Int) (w : World) :
    Calls Tryz.prog 101 #[.int .i64 n] w fun e w' => e = .returned (.bool (decide (NumOk n))) ∧ w' = w := by
  have hd : decide (NumOk n) = (decide (0 ≤ n) && decide (n ≤ 4611686018427387904)) := by rw [Bool.eq_iff_iff]; simp only [Bool.and_eq_true, decide_eq_true_eq]; exact Iff.rfl
  rw [hd]
  go_enter Tryz.func101, Tryz.ntmps101
  go_wp2_with fail
  all_goals
    go_ret
    refine ⟨ret_bool ?_, rfl⟩
    rw [Bool.eq_iff_iff]
    simp only [Bool.and_eq_true, decide_eq_true_eq, Bool.false_eq_true, false_iff]
    omega
set_option maxHeartbeats 400000 in
theorem fine1_any (n : Int) (w : World) :
    Calls Tryz.prog 157 #[.int .i64 n] w fun e w' => e = .returned (.bool (!decide (NumOk n))) ∧ w' = w := by
  have h := rtmay_any n w
  generalize decide (NumOk n) = d at h ⊢
  go_enter Tryz.func157, Tryz.ntmps157
  go_wp2_with (go_at_call 158; refine h.mono ?_; rintro e w' ⟨rfl, hw⟩; subst hw)
  go_ret
  exact ⟨rfl, rfl⟩
set_option maxRecDepth 100000 in
set_option maxHeartbeats 1000000 in
theorem rtindex_any (l : List Int) (A : Option Addr) (k : Nat) (w : World) (hr : Rd 1 encI w A l) :
    Calls Tryz.prog 168 #[.slice A l.length k, .func (.func 157) #[] #[]] w fun e w' => (∃ j : Int, e = .returned (.int .i64 j) ∧ decide (0 ≤ j) = !decide (∀ x ∈ l, NumOk x)) ∧ w' = w := by
  have hm := hr.1
  go_enter Tryz.func168, Tryz.ntmps168
  go_wp2_with fail
  go_loopw [5, 8] (fun _ i wr => ∃ j : Nat, j ≤ l.length ∧ i = .int .i64 j ∧ Hid (∀ x ∈ l.take j, NumOk x) ∧ wr = w) (fun _ i _ => l.length - (intOf i).toNat)
  case atStart => exact ⟨0, by omega, rfl, Lib.hid (by simp), rfl⟩
  case round =>
    obtain ⟨j, hj, rfl, hn, rfl⟩ := hrel
    by_cases hlt : j < l.length
    · obtain ⟨b, o, rfl, hbo, d0⟩ := hr.atI hlt
      have hou := fine1_any l[j] wr
      by_cases he : NumOk l[j]
      · have hst := Lib.hid (show ∀ x ∈ l.take (j + 1), NumOk x by
          intro x hx
          rw [← List.take_append_getElem hlt] at hx
          rcases List.mem_append.1 hx with h | h
          · exact hn.out x h
          · rw [List.mem_singleton.1 h]; exact he)
        have hd : (!decide (NumOk l[j])) = false := by simpa using he
        rw [hd] at hou
        clear he hd
        go_wp2_with (go_at_call 157; refine hou.mono ?_; clear hou; rintro e w' ⟨rfl, hw⟩; subst hw)
        go_roundw
        case rel => exact ⟨j + 1, hlt, by go_num, hst, trivial⟩
        case measure => simp [intOf]; omega
      · have hd : (!decide (NumOk l[j])) = true := by simpa using he
        rw [hd] at hou
        have he' := Lib.hid (show decide (∀ x ∈ l, NumOk x) = false from decide_eq_false fun h => he (h _ (List.getElem_mem hlt)))
        clear he hd
        go_wp2_with (go_at_call 157; refine hou.mono ?_; clear hou; rintro e w' ⟨rfl, hw⟩; subst hw)
        go_ret
        exact ⟨⟨_, rfl, by rw [he'.out]; simp⟩, rfl⟩
    · obtain rfl : j = l.length := by omega
      have hnn := Lib.hid (show decide (∀ x ∈ l, NumOk x) = true from decide_eq_true (by simpa using hn.out))
      go_wp2_with fail
      go_ret
      exact ⟨⟨_, rfl, by rw [hnn.out]; rfl⟩, rfl⟩
set_option maxRecDepth 100000 in
theorem rtcontains_any (l : List Int) (A : Option Addr) (k : Nat) (w : World) (hr : Rd 1 encI w A l) :
    Calls Tryz.prog 156 #[.slice A l.length k, .func (.func 157) #[] #[]] w fun e w' => e = .returned (.bool (!decide (∀ x ∈ l, NumOk x))) ∧ w' = w := by
  have hi := rtindex_any l A k w hr
  go_enter Tryz.func156, Tryz.ntmps156
  go_wp2_with (go_at_call 168; refine hi.mono ?_; clear hi; rintro e w' ⟨⟨j, rfl, hj⟩, hw⟩; subst hw)
  go_ret
  exact ⟨rfl, rfl⟩
set_option maxRecDepth 100000 in
theorem rtfine_any (l : List Int) (A : Option Addr) (k : Nat) (w : World) (hr : Rd 1 encI w A l) :
    Calls Tryz.prog 136 #[.slice A l.length k] w fun e w' => e = .returned (.bool (decide (∀ x ∈ l, NumOk x))) ∧ w' = w := by
  have hi := rtcontains_any l A k w hr
  generalize decide (∀ x ∈ l, NumOk x) = d at hi ⊢
  go_enter Tryz.func136, Tryz.ntmps136
  go_wp2_with (go_at_call 156; refine hi.mono ?_; clear hi; rintro e w' ⟨rfl, hw⟩; subst hw)
  go_ret
  exact ⟨ret_bool (by simp), rfl⟩
/-! A product in four parts. -/
def wU (a b : Int) : Int := a % 4294967296 * (b % 4294967296)
def wQ (a b : Int) : Int := a / 4294967296 * (b % 4294967296) + wU a b / 4294967296
def wR (a b : Int) : Int := a % 4294967296 * (b / 4294967296) + wQ a b % 4294967296
def wS (a b : Int) : Int := a / 4294967296 * (b / 4294967296) + wQ a b / 4294967296 + wR a b / 4294967296
theorem mul_bd {x y m n : Int} (h1 : 0 ≤ x) (h2 : x ≤ m) (h3 : 0 ≤ y) (h4 : y ≤ n) : 0 ≤ x * y ∧ x * y ≤ m * n := ⟨Int.mul_nonneg h1 h3, Int.mul_le_mul h2 h4 h3 (by omega)⟩
theorem wide_parts {a b : Int} (ha : NumOk a) (hb : NumOk b) :
    (0 ≤ wU a b ∧ wU a b < 18446744073709551616) ∧ (0 ≤ wQ a b ∧ wQ a b < 18446744073709551616) ∧ (0 ≤ wR a b ∧ wR a b < 18446744073709551616) ∧ (0 ≤ wS a b ∧ wS a b < 18446744073709551616) ∧ (0 ≤ a / 4294967296 * (b / 4294967296) + wQ a b / 4294967296 ∧ a / 4294967296 * (b / 4294967296) + wQ a b / 4294967296 < 18446744073709551616) ∧
    (0 ≤ a / 4294967296 * (b % 4294967296) ∧ a / 4294967296 * (b % 4294967296) < 18446744073709551616) ∧ (0 ≤ a % 4294967296 * (b / 4294967296) ∧ a % 4294967296 * (b / 4294967296) < 18446744073709551616) ∧ (0 ≤ a / 4294967296 * (b / 4294967296) ∧ a / 4294967296 * (b / 4294967296) < 18446744073709551616) ∧
    a * b = wS a b * 18446744073709551616 + wR a b % 4294967296 * 4294967296 + wU a b % 4294967296 := by
  obtain ⟨ha1, ha2⟩ := ha
  obtain ⟨hb1, hb2⟩ := hb
  have e : a * b = (a / 4294967296 * (b / 4294967296)) * 18446744073709551616 + (a / 4294967296 * (b % 4294967296) + a % 4294967296 * (b / 4294967296)) * 4294967296 + a % 4294967296 * (b % 4294967296) := by
    have h1 : a = a / 4294967296 * 4294967296 + a % 4294967296 := by omega
    have h2 : b = b / 4294967296 * 4294967296 + b % 4294967296 := by omega
    generalize a / 4294967296 = x at h1 ⊢
    generalize a % 4294967296 = y at h1 ⊢
    generalize b / 4294967296 = z at h2 ⊢
    generalize b % 4294967296 = t at h2 ⊢
    subst h1 h2
    simp only [Int.add_mul, Int.mul_add]
    have e1 : x * 4294967296 * (z * 4294967296) = x * z * 18446744073709551616 := by
      rw [show x * 4294967296 * (z * 4294967296) = x * z * (4294967296 * 4294967296) by ac_rfl]; rfl
    have e2 : y * (z * 4294967296) = y * z * 4294967296 := by ac_rfl
    have e3 : x * 4294967296 * t = x * t * 4294967296 := by ac_rfl
    omega
  have p00 := mul_bd (x := a % 4294967296) (y := b % 4294967296) (m := 4294967295) (n := 4294967295) (by omega) (by omega) (by omega) (by omega)
  have p10 := mul_bd (x := a / 4294967296) (y := b % 4294967296) (m := 1073741824) (n := 4294967295) (by omega) (by omega) (by omega) (by omega)
  have p01 := mul_bd (x := a % 4294967296) (y := b / 4294967296) (m := 4294967295) (n := 1073741824) (by omega) (by omega) (by omega) (by omega)
  have p11 := mul_bd (x := a / 4294967296) (y := b / 4294967296) (m := 1073741824) (n := 1073741824) (by omega) (by omega) (by omega) (by omega)
  unfold wS wR wQ wU
  generalize a / 4294967296 * (b / 4294967296) = x at *
  generalize a / 4294967296 * (b % 4294967296) = y at *
  generalize a % 4294967296 * (b / 4294967296) = z at *
  generalize a % 4294967296 * (b % 4294967296) = t at *
  omega
end Go.Proofs.YtaohkcdfjjiggaaGreat
/-! The document's products, walked. -/
namespace Go.Proofs.YtaohkcdfjjiggaaGreat
open Go.RowKit
theorem wrapU_id {x : Int} (h0 : 0 ≤ x) (h1 : x < 18446744073709551616) : IntKind.u64.wrap x = x := by
  obtain ⟨n, rfl⟩ := Int.eq_ofNat_of_zero_le h0
  show ((n : Int) % 18446744073709551616) = n
  omega
theorem set4 {w : World} {b : Nat} {x y z t : Value} {T : TypeId} (h : w.heap[b]? = some (.cells #[x, y, z, t] T (0, 0))) (u v r s : Value) :
    ((((w.setCell ⟨b, 0, none⟩ u).setCell ⟨b, 1, none⟩ v).setCell ⟨b, 2, none⟩ r).setCell ⟨b, 3, none⟩ s).heap[b]? = some (.cells #[u, v, r, s] T (0, 0)) ∧ w.grownBy ((((w.setCell ⟨b, 0, none⟩ u).setCell ⟨b, 1, none⟩ v).setCell ⟨b, 2, none⟩ r).setCell ⟨b, 3, none⟩ s) (some b) := by
  refine ⟨?_, grown_trans (grown_trans (grown_trans (grown_set _ _ _) (grown_set _ _ _)) (grown_set _ _ _)) (grown_set _ _ _)⟩
  rw [heap_setCell_same _ _ _ _ _ _ (heap_setCell_same _ _ _ _ _ _ (heap_setCell_same _ _ _ _ _ _ (heap_setCell_same _ _ _ _ _ _ h)))]
  rfl
theorem wrapI_id {x : Int} (h0 : 0 ≤ x) (h1 : x < 4294967296) : wrap64 x = x := by unfold wrap64; omega
theorem tm_id {x : Int} (h0 : 0 ≤ x) : x.tmod 4294967296 = x % 4294967296 := Int.tmod_eq_emod_of_nonneg h0
theorem td_id {x : Int} (h0 : 0 ≤ x) : x.tdiv 4294967296 = x / 4294967296 := Int.tdiv_eq_ediv_of_nonneg h0
set_option maxRecDepth 100000 in
set_option maxHeartbeats 4000000 in
theorem wide_any (a b : Int) (w : World) (ha : NumOk a) (hb : NumOk b) :
    Calls Tryz.prog 102 #[.int .i64 a, .int .i64 b] w fun e w' => e = .returned (.agg #[.int .i64 (wS a b / 4294967296), .int .i64 (wS a b % 4294967296), .int .i64 (wR a b % 4294967296), .int .i64 (wU a b % 4294967296)]) ∧ Below w.heap.size w w' := by
  obtain ⟨⟨u0, u1⟩, ⟨q0, q1⟩, ⟨r0, r1⟩, ⟨s0, s1⟩, ⟨t0, t1⟩, ⟨y0, y1⟩, ⟨z0, z1⟩, ⟨x0, x1⟩, -⟩ := wide_parts ha hb
  obtain ⟨ha1, ha2⟩ := ha
  obtain ⟨hb1, hb2⟩ := hb
  have ta : a.tmod 4294967296 = a % 4294967296 := tm_id ha1
  have tb : b.tmod 4294967296 = b % 4294967296 := tm_id hb1
  have da : a.tdiv 4294967296 = a / 4294967296 := td_id ha1
  have db : b.tdiv 4294967296 = b / 4294967296 := td_id hb1
  have k1 : IntKind.u64.wrap (a % 4294967296 * (b % 4294967296)) = wU a b := wrapU_id u0 u1
  have k2 : IntKind.u64.wrap (a / 4294967296 * (b % 4294967296)) = a / 4294967296 * (b % 4294967296) := wrapU_id y0 y1
  have k3 : IntKind.u64.wrap (a / 4294967296 * (b % 4294967296) + wU a b / 4294967296) = wQ a b := wrapU_id q0 q1
  have k4 : IntKind.u64.wrap (a % 4294967296 * (b / 4294967296)) = a % 4294967296 * (b / 4294967296) := wrapU_id z0 z1
  have k5 : IntKind.u64.wrap (a % 4294967296 * (b / 4294967296) + wQ a b % 4294967296) = wR a b := wrapU_id r0 r1
  have k6 : IntKind.u64.wrap (a / 4294967296 * (b / 4294967296)) = a / 4294967296 * (b / 4294967296) := wrapU_id x0 x1
  have k7 : IntKind.u64.wrap (a / 4294967296 * (b / 4294967296) + wQ a b / 4294967296) = a / 4294967296 * (b / 4294967296) + wQ a b / 4294967296 := wrapU_id t0 t1
  have k8 : IntKind.u64.wrap (a / 4294967296 * (b / 4294967296) + wQ a b / 4294967296 + wR a b / 4294967296) = wS a b := wrapU_id s0 s1
  generalize hx : a / 4294967296 * (b / 4294967296) = x at *
  generalize hy : a / 4294967296 * (b % 4294967296) = y at *
  generalize hz : a % 4294967296 * (b / 4294967296) = z at *
  generalize ht : a % 4294967296 * (b % 4294967296) = t at *
  generalize wS a b = s at *
  generalize wR a b = r at *
  generalize wQ a b = q at *
  generalize wU a b = u at *
  have m1 := tm_id u0
  have m2 := td_id u0
  have m3 := tm_id q0
  have m4 := td_id q0
  have m5 := tm_id r0
  have m6 := td_id r0
  have m7 := tm_id s0
  have m8 := td_id s0
  have n1 := wrapI_id (x := u % 4294967296) (by omega) (by omega)
  have n2 := wrapI_id (x := u / 4294967296) (by omega) (by omega)
  have n3 := wrapI_id (x := r % 4294967296) (by omega) (by omega)
  have n4 := wrapI_id (x := s % 4294967296) (by omega) (by omega)
  have n5 := wrapI_id (x := s / 4294967296) (by omega) (by omega)
  have p1 := wrapU_id (x := u / 4294967296) (by omega) (by omega)
  have p2 := wrapU_id (x := q / 4294967296) (by omega) (by omega)
  have p3 := wrapU_id (x := r / 4294967296) (by omega) (by omega)
  have p4 := wrapU_id (x := s / 4294967296) (by omega) (by omega)
  go_enter Tryz.func102, Tryz.ntmps102
  go_wp2_with fail
  go_quiet (fail)
  go_wp2_with fail
  try go_quiet (fail)
  go_wp2_with fail
  try go_quiet (fail)
  go_wp2_with fail
  try go_quiet (fail)
  go_wp2_with fail
  rename_i nq1 nq2 nq3
  have hfin := fun n => set4 (w := (w.alloc (.cells #[.int .i64 0, .int .i64 0, .int .i64 0, .int .i64 0] 151)).drewN n) (b := w.heap.size) (ha_at rfl) (.int .i64 (s / 4294967296)) (.int .i64 (s % 4294967296)) (.int .i64 (r % 4294967296)) (.int .i64 (u % 4294967296))
  refine bodyPost_ret (v := .agg #[.int .i64 (s / 4294967296), .int .i64 (s % 4294967296), .int .i64 (r % 4294967296), .int .i64 (u % 4294967296)]) ?_ rfl ⟨rfl, ?_⟩
  · have m0 := blk_cell (hfin (nq1 + nq2 + nq3 + nq)).1 0
    have m1 := blk_cell (hfin (nq1 + nq2 + nq3 + nq)).1 1
    have m2 := blk_cell (hfin (nq1 + nq2 + nq3 + nq)).1 2
    have m3 := blk_cell (hfin (nq1 + nq2 + nq3 + nq)).1 3
    simp [results, Tryz.results102, go_sem, m0, m1, m2, m3]
  · exact below_step (pw_below_drewN ((Below.refl _ w).alloc (Nat.le_refl _) _) _) (by simp) (hfin _).2 (fun k e => by cases e; exact Nat.le_refl _)
/-- The parts of a product, a list. -/
def wParts (a b : Int) : List Int := [wS a b / 4294967296, wS a b % 4294967296, wR a b % 4294967296, wU a b % 4294967296]
/-- What a look at the parts from the front tells. -/
def lexMore : List Int → List Int → Bool
  | x :: xs, y :: ys => if x = y then lexMore xs ys else decide (y < x)
  | _, _ => false
theorem lex_parts {a b c d : Int} (ha : NumOk a) (hb : NumOk b) (hc : NumOk c) (hd : NumOk d) : lexMore (wParts a b) (wParts c d) = decide (c * d < a * b) := by
  obtain ⟨⟨u0, u1⟩, _, ⟨r0, r1⟩, ⟨s0, s1⟩, _, _, _, _, e⟩ := wide_parts ha hb
  obtain ⟨⟨u0', u1'⟩, _, ⟨r0', r1'⟩, ⟨s0', s1'⟩, _, _, _, _, e'⟩ := wide_parts hc hd
  rw [e, e']
  unfold wParts
  generalize wS a b = s at *
  generalize wR a b = r at *
  generalize wU a b = u at *
  generalize wS c d = s' at *
  generalize wR c d = r' at *
  generalize wU c d = u' at *
  clear e e'
  rw [Bool.eq_iff_iff]
  simp only [lexMore]
  by_cases h1 : s / 4294967296 = s' / 4294967296
  · rw [if_pos h1]
    by_cases h2 : s % 4294967296 = s' % 4294967296
    · rw [if_pos h2]
      by_cases h3 : r % 4294967296 = r' % 4294967296
      · rw [if_pos h3]
        by_cases h4 : u % 4294967296 = u' % 4294967296
        · rw [if_pos h4]; simp only [decide_eq_true_eq, Bool.false_eq_true, false_iff]; omega
        · rw [if_neg h4]; simp only [decide_eq_true_eq]; omega
      · rw [if_neg h3]; simp only [decide_eq_true_eq]; omega
    · rw [if_neg h2]; simp only [decide_eq_true_eq]; omega
  · rw [if_neg h1]; simp only [decide_eq_true_eq]; omega
theorem lexMore_drop {p q : List Int} {j : Nat} (h1 : j < p.length) (h2 : j < q.length) : lexMore (p.drop j) (q.drop j) = if p[j] = q[j] then lexMore (p.drop (j + 1)) (q.drop (j + 1)) else decide (q[j] < p[j]) := by
  rw [List.drop_eq_getElem_cons h1, List.drop_eq_getElem_cons h2]
  rfl
set_option maxRecDepth 100000 in
set_option maxHeartbeats 4000000 in
theorem rrmore_any (a b c d : Int) (w : World) :
    Calls Tryz.prog 69 #[.int .i64 a, .int .i64 b, .int .i64 c, .int .i64 d] w fun e w' => e = .returned (.bool (moreB a b c d)) ∧ Below w.heap.size w w' := by
  have hma := rrmay_any a
  have hmb := rrmay_any b
  have hmc := rrmay_any c
  have hmd := rrmay_any d
  have hlex := fun ha hb hc hd => lex_parts (a := a) (b := b) (c := c) (d := d) ha hb hc hd
  by_cases h : NumOk a ∧ NumOk b ∧ NumOk c ∧ NumOk d
  · obtain ⟨ha, hb, hc, hd⟩ := h
    have hres : moreB a b c d = lexMore (wParts a b) (wParts c d) := by
      rw [hlex ha hb hc hd]
      unfold moreB
      rw [Bool.eq_iff_iff]
      simp only [decide_eq_true_eq]
      exact ⟨fun h => h.2, fun h => ⟨⟨ha, hb, hc, hd⟩, h⟩⟩
    have hw1 := fun V => wide_any a b V ha hb
    have hw2 := fun V => wide_any c d V hc hd
    rw [hres]
    rw [decide_eq_true ha] at hma
    rw [decide_eq_true hb] at hmb
    rw [decide_eq_true hc] at hmc
    rw [decide_eq_true hd] at hmd
    have hp : ∃ p0 p1 p2 p3, wParts a b = [p0, p1, p2, p3] ∧ wS a b / 4294967296 = p0 ∧ wS a b % 4294967296 = p1 ∧ wR a b % 4294967296 = p2 ∧ wU a b % 4294967296 = p3 := ⟨_, _, _, _, rfl, rfl, rfl, rfl, rfl⟩
    have hq : ∃ p0 p1 p2 p3, wParts c d = [p0, p1, p2, p3] ∧ wS c d / 4294967296 = p0 ∧ wS c d % 4294967296 = p1 ∧ wR c d % 4294967296 = p2 ∧ wU c d % 4294967296 = p3 := ⟨_, _, _, _, rfl, rfl, rfl, rfl, rfl⟩
    obtain ⟨p0, p1, p2, p3, hp, e0, e1, e2, e3⟩ := hp
    obtain ⟨q0, q1, q2, q3, hq, f0, f1, f2, f3⟩ := hq
    rw [e0, e1, e2, e3] at hw1
    rw [f0, f1, f2, f3] at hw2
    rw [hp, hq]
    have hlexd := Lib.hid (fun (j : Nat) (h : j < 4) => lexMore_drop (p := [p0, p1, p2, p3]) (q := [q0, q1, q2, q3]) (j := j) h h)
    have hl0 := Lib.hid (show lexMore ([p0, p1, p2, p3].drop 0) ([q0, q1, q2, q3].drop 0) = lexMore [p0, p1, p2, p3] [q0, q1, q2, q3] from rfl)
    obtain ⟨r, hr⟩ : ∃ r, lexMore [p0, p1, p2, p3] [q0, q1, q2, q3] = r := ⟨_, rfl⟩
    rw [hr] at hl0 ⊢
    clear e0 e1 e2 e3 f0 f1 f2 f3 hp hq hres hlex ha hb hc hd hr
    go_enter Tryz.func69, Tryz.ntmps69
    go_wp2_with (first
      | (go_at_call 101; (with_reducible refine (hma _).mono ?_); clear hma; rintro e w' ⟨rfl, hw⟩; subst hw)
      | (go_at_call 101; (with_reducible refine (hmb _).mono ?_); clear hmb; rintro e w' ⟨rfl, hw⟩; subst hw)
      | (go_at_call 101; (with_reducible refine (hmc _).mono ?_); clear hmc; rintro e w' ⟨rfl, hw⟩; subst hw)
      | (go_at_call 101; (with_reducible refine (hmd _).mono ?_); clear hmd; rintro e w' ⟨rfl, hw⟩; subst hw)
      | (go_at_call 102; (with_reducible refine (hw1 _).mono ?_); clear hw1; rintro e w1 ⟨rfl, hb1⟩; have hb2 := hb1.alloc hb1.size (.cells #[.int .i64 p0, .int .i64 p1, .int .i64 p2, .int .i64 p3] 151); have k1 := ha_at (w := w1) (o := .cells #[.int .i64 p0, .int .i64 p1, .int .i64 p2, .int .i64 p3] 151) (k := w1.heap.size) rfl)
      | (go_at_call 102; (with_reducible refine (hw2 _).mono ?_); clear hw2; rintro e w2 ⟨rfl, hb3⟩; have hb4 := below_call hb2 hb2.size hb3; have hb5 := hb4.alloc hb4.size (.cells #[.int .i64 q0, .int .i64 q1, .int .i64 q2, .int .i64 q3] 151); have k2 := ha_lt (o := .cells #[.int .i64 q0, .int .i64 q1, .int .i64 q2, .int .i64 q3] 151) (bl_own hb3 k1); have k3 := ha_at (w := w2) (o := .cells #[.int .i64 q0, .int .i64 q1, .int .i64 q2, .int .i64 q3] 151) (k := w2.heap.size) rfl))
    generalize w2.alloc (.cells #[.int .i64 q0, .int .i64 q1, .int .i64 q2, .int .i64 q3] 151) = W at hb5 k2 k3 ⊢
    clear hb1 hb2 k1 hb3 hb4
    go_loopw [15] (fun i wr => ∃ j : Nat, j ≤ 4 ∧ i = .int .i64 j ∧ Hid (lexMore ([p0, p1, p2, p3].drop j) ([q0, q1, q2, q3].drop j) = r) ∧ Below W.heap.size W wr) (fun i _ => 4 - (intOf i).toNat)
    case atStart => exact ⟨0, by omega, rfl, hl0, Below.refl _ _⟩
    case round =>
      obtain ⟨j, hj, rfl, hl, hB⟩ := hrel
      have hBr := below_call hb5 hb5.size hB
      obtain ⟨c0, c1, c2, c3⟩ := blk4 (bl_own hB k2)
      obtain ⟨d0, d1, d2, d3⟩ := blk4 (bl_own hB k3)
      have hdj := fun h => Lib.hid (hlexd.out j h)
      by_cases hlt : j < 4
      · have hd := hdj hlt
        clear hdj hj
        have hcases : j = 0 ∨ j = 1 ∨ j = 2 ∨ j = 3 := by omega
        rcases hcases with rfl | rfl | rfl | rfl
        · have hd' := Lib.hid (show r = (if p0 = q0 then lexMore ([p0, p1, p2, p3].drop 1) ([q0, q1, q2, q3].drop 1) else decide (q0 < p0)) from hl.out.symm.trans hd.out)
          clear hd hlt
          by_cases he : p0 = q0
          · have hn := Lib.hid (hd'.out.trans (if_pos he)).symm
            have hb : (p0 == q0) = true := beq_iff_eq.2 he
            clear he hd'
            go_wp2_with fail
            go_quiet (fail)
            go_wp2_with fail
            go_roundw
            case rel => exact ⟨1, by omega, by go_num, hn, pw_below_drewN hB _⟩
            case measure => simp [intOf]
          · have hn := Lib.hid (hd'.out.trans (if_neg he)).symm
            have hb : (p0 == q0) = false := beq_eq_false_iff_ne.2 he
            clear he hd'
            go_wp2_with fail
            go_quiet (fail)
            go_wp2_with fail
            go_quiet (fail)
            go_wp2_with fail
            go_ret
            exact ⟨ret_bool hn.out, pw_below_drewN (pw_below_drewN hBr _) _⟩
        · have hd' := Lib.hid (show r = (if p1 = q1 then lexMore ([p0, p1, p2, p3].drop 2) ([q0, q1, q2, q3].drop 2) else decide (q1 < p1)) from hl.out.symm.trans hd.out)
          clear hd hlt
          by_cases he : p1 = q1
          · have hn := Lib.hid (hd'.out.trans (if_pos he)).symm
            have hb : (p1 == q1) = true := beq_iff_eq.2 he
            clear he hd'
            go_wp2_with fail
            go_quiet (fail)
            go_wp2_with fail
            go_roundw
            case rel => exact ⟨2, by omega, by go_num, hn, pw_below_drewN hB _⟩
            case measure => simp [intOf]
          · have hn := Lib.hid (hd'.out.trans (if_neg he)).symm
            have hb : (p1 == q1) = false := beq_eq_false_iff_ne.2 he
            clear he hd'
            go_wp2_with fail
            go_quiet (fail)
            go_wp2_with fail
            go_quiet (fail)
            go_wp2_with fail
            go_ret
            exact ⟨ret_bool hn.out, pw_below_drewN (pw_below_drewN hBr _) _⟩
        · have hd' := Lib.hid (show r = (if p2 = q2 then lexMore ([p0, p1, p2, p3].drop 3) ([q0, q1, q2, q3].drop 3) else decide (q2 < p2)) from hl.out.symm.trans hd.out)
          clear hd hlt
          by_cases he : p2 = q2
          · have hn := Lib.hid (hd'.out.trans (if_pos he)).symm
            have hb : (p2 == q2) = true := beq_iff_eq.2 he
            clear he hd'
            go_wp2_with fail
            go_quiet (fail)
            go_wp2_with fail
            go_roundw
            case rel => exact ⟨3, by omega, by go_num, hn, pw_below_drewN hB _⟩
            case measure => simp [intOf]
          · have hn := Lib.hid (hd'.out.trans (if_neg he)).symm
            have hb : (p2 == q2) = false := beq_eq_false_iff_ne.2 he
            clear he hd'
            go_wp2_with fail
            go_quiet (fail)
            go_wp2_with fail
            go_quiet (fail)
            go_wp2_with fail
            go_ret
            exact ⟨ret_bool hn.out, pw_below_drewN (pw_below_drewN hBr _) _⟩
        · have hd' := Lib.hid (show r = (if p3 = q3 then lexMore ([p0, p1, p2, p3].drop 4) ([q0, q1, q2, q3].drop 4) else decide (q3 < p3)) from hl.out.symm.trans hd.out)
          clear hd hlt
          by_cases he : p3 = q3
          · have hn := Lib.hid (hd'.out.trans (if_pos he)).symm
            have hb : (p3 == q3) = true := beq_iff_eq.2 he
            clear he hd'
            go_wp2_with fail
            go_quiet (fail)
            go_wp2_with fail
            go_roundw
            case rel => exact ⟨4, by omega, by go_num, hn, pw_below_drewN hB _⟩
            case measure => simp [intOf]
          · have hn := Lib.hid (hd'.out.trans (if_neg he)).symm
            have hb : (p3 == q3) = false := beq_eq_false_iff_ne.2 he
            clear he hd'
            go_wp2_with fail
            go_quiet (fail)
            go_wp2_with fail
            go_quiet (fail)
            go_wp2_with fail
            go_ret
            exact ⟨ret_bool hn.out, pw_below_drewN (pw_below_drewN hBr _) _⟩
      · obtain rfl : j = 4 := by omega
        have hn := Lib.hid (show false = r from hl.out)
        clear hl hdj
        go_wp2_with fail
        go_ret
        exact ⟨ret_bool hn.out, hBr⟩
  · have hres : moreB a b c d = false := by unfold moreB; exact decide_eq_false fun e => h e.1
    rw [hres]
    clear hres hlex
    have hd : (!decide (NumOk a) || !decide (NumOk b) || !decide (NumOk c) || !decide (NumOk d)) = true := by
      rw [Bool.eq_iff_iff]
      simp only [Bool.or_eq_true, Bool.not_eq_true', decide_eq_false_iff_not, iff_true]
      by_cases ha : NumOk a
      · by_cases hb : NumOk b
        · by_cases hc : NumOk c
          · exact .inr fun hd => h ⟨ha, hb, hc, hd⟩
          · exact .inl (.inr hc)
        · exact .inl (.inl (.inr hb))
      · exact .inl (.inl (.inl ha))
    generalize decide (NumOk a) = da at hma hd
    generalize decide (NumOk b) = db at hmb hd
    generalize decide (NumOk c) = dc at hmc hd
    generalize decide (NumOk d) = dd at hmd hd
    clear h
    cases da <;> cases db <;> cases dc <;> cases dd <;> first | (cases hd; done) | skip
    all_goals
      clear hd
      go_enter Tryz.func69, Tryz.ntmps69
      go_wp2_with (first
        | (go_at_call 101; (with_reducible refine (hma _).mono ?_); clear hma; rintro e w' ⟨rfl, hw⟩; subst hw)
        | (go_at_call 101; (with_reducible refine (hmb _).mono ?_); clear hmb; rintro e w' ⟨rfl, hw⟩; subst hw)
        | (go_at_call 101; (with_reducible refine (hmc _).mono ?_); clear hmc; rintro e w' ⟨rfl, hw⟩; subst hw)
        | (go_at_call 101; (with_reducible refine (hmd _).mono ?_); clear hmd; rintro e w' ⟨rfl, hw⟩; subst hw))
      go_ret
      exact ⟨rfl, Below.refl _ _⟩
end Go.Proofs.YtaohkcdfjjiggaaGreat
/-! Products, and which is more, walked. -/
namespace Go.Proofs.YtaohkcdfjjiggaaGreat
open Go.RowKit
def wHi (a b : Int) : Int := a * b / 18446744073709551616
def wLo (a b : Int) : Int := a * b % 18446744073709551616
set_option maxRecDepth 100000 in
set_option maxHeartbeats 1000000 in
theorem times_any (a b : Int) (w : World) (ha : NumOk a) (hb : NumOk b) :
    Calls Tryz.prog 137 #[.int .i64 a, .int .i64 b] w fun e w' => e = .returned (.agg #[.int .u64 (wHi a b), .int .u64 (wLo a b)]) ∧ Below w.heap.size w w' := by
  obtain ⟨ha1, ha2⟩ := ha
  obtain ⟨hb1, hb2⟩ := hb
  have k1 := wrapU_id (x := a) ha1 (by omega)
  have k2 := wrapU_id (x := b) hb1 (by omega)
  have hmul := fun V => sh_bits_Mul64 a.toNat b.toNat (by omega) (by omega) V
  have e1 : (a.toNat : Int) = a := by omega
  have e2 : (b.toNat : Int) = b := by omega
  have e3 : ((a.toNat * b.toNat / 18446744073709551616 : Nat) : Int) = wHi a b := by unfold wHi; rw [Int.natCast_ediv, Int.natCast_mul, e1, e2]; rfl
  have e4 : ((a.toNat * b.toNat % 18446744073709551616 : Nat) : Int) = wLo a b := by unfold wLo; rw [Int.natCast_emod, Int.natCast_mul, e1, e2]; rfl
  rw [e3, e4, e1, e2] at hmul
  clear e3 e4 e1 e2
  generalize wHi a b = hi at hmul ⊢
  generalize wLo a b = lo at hmul ⊢
  go_enter Tryz.func137, Tryz.ntmps137
  go_wp2_with (go_at_call 159; (with_reducible refine (hmul _).mono ?_); rintro e w' ⟨rfl, hw⟩; subst hw)
  have b0 : (w.alloc (.cells #[.int .u64 hi, .int .u64 lo] 175)).heap[w.heap.size]? = some (.cells #[.int .u64 hi, .int .u64 lo] 175 (0, 0)) := ha_at rfl
  obtain ⟨m0, m1, _, _⟩ := blk2 b0
  refine bodyPost_ret (v := .agg #[.int .u64 hi, .int .u64 lo]) ?_ rfl ⟨rfl, ?_⟩
  · simp [results, Tryz.results137, go_sem, m0, m1]
  · exact (Below.refl _ w).alloc (Nat.le_refl _) _
theorem eqlIn_w (d : Nat) (x y : ID) (w : World) : (Op.equalIn (d + 2) 175 (idv x) (idv y)).run Tryz.prog w = .ok (decide (x = y)) w := by
  have u := Tryz.underlying175
  have z := Tryz.sizeOf23
  have u3 := Tryz.underlying23
  have p := fun cs off v h w => part_int (P := Tryz.prog) u3 cs off v h w
  unfold idv Op.equalIn
  simp only [Sem.run_bind, run_underlying u, Result.andThen_ok, z]
  simp [List.range', List.forIn_cons, p, run_equalIn_int _ _ _ _ _ _ _ u3]
  obtain ⟨x1, x2⟩ := x
  obtain ⟨y1, y2⟩ := y
  by_cases h1 : x1 = y1 <;> by_cases h2 : x2 = y2 <;> simp [h1, h2]
theorem neq_w (x y : ID) (w : World) : (binOp .neq 175 (.agg #[.int .u64 x.hi, .int .u64 x.lo]) (.agg #[.int .u64 y.hi, .int .u64 y.lo])).run Tryz.prog w = .ok (.bool (!decide (x = y))) w := by
  have h := eqlIn_w 9998 x y w
  unfold idv at *
  rw [run_neq_struct, h]
  rfl
theorem more_words {a b c d : Int} (ha : NumOk a ∧ NumOk b ∧ NumOk c ∧ NumOk d) : moreB a b c d = decide (cmpID ⟨wHi a b, wLo a b⟩ ⟨wHi c d, wLo c d⟩ > 0) := by
  unfold moreB cmpID cmpU wHi wLo
  generalize a * b = x
  generalize c * d = y
  rw [Bool.eq_iff_iff]
  simp only [decide_eq_true_eq]
  constructor
  · rintro ⟨_, h⟩
    repeat' split
    all_goals omega
  · intro h
    refine ⟨ha, ?_⟩
    revert h
    repeat' split
    all_goals omega
theorem cmpID_self (x : ID) : cmpID x x = 0 := by simp [cmpID, cmpU]
set_option maxRecDepth 100000 in
set_option maxHeartbeats 4000000 in
theorem more_any (a b c d : Int) (w : World) :
    Calls Tryz.prog 105 #[.int .i64 a, .int .i64 b, .int .i64 c, .int .i64 d] w fun e w' => e = .returned (.bool (moreB a b c d)) ∧ Below w.heap.size w w' := by
  obtain ⟨W, hW⟩ : ∃ W, w.alloc (.cells #[.int .i64 a, .int .i64 b, .int .i64 c, .int .i64 d] 3) = W := ⟨_, rfl⟩
  have hB : Below w.heap.size w W := by subst hW; exact (Below.refl _ w).alloc (Nat.le_refl _) _
  have hR : Rd 1 encI W (some ⟨w.heap.size, 0, none⟩) [a, b, c, d] := by subst hW; exact Rd_flat encI_len (by simp) (ha_at rfl) rfl
  have hf := rtfine_any [a, b, c, d] (some ⟨w.heap.size, 0, none⟩) 4 W hR
  have hd : decide (∀ x ∈ [a, b, c, d], NumOk x) = decide (NumOk a ∧ NumOk b ∧ NumOk c ∧ NumOk d) := by simp
  rw [hd] at hf
  simp only [List.length_cons, List.length_nil, Nat.zero_add, Nat.reduceAdd] at hf
  clear hd
  by_cases h : NumOk a ∧ NumOk b ∧ NumOk c ∧ NumOk d
  · rw [decide_eq_true h] at hf
    have hres := more_words h
    obtain ⟨ha, hb, hc, hd⟩ := h
    have h1 := fun V => times_any a b V ha hb
    have h2 := fun V => times_any c d V hc hd
    obtain ⟨p, hp⟩ : ∃ p : ID, (⟨wHi a b, wLo a b⟩ : ID) = p := ⟨_, rfl⟩
    obtain ⟨q, hq⟩ : ∃ q : ID, (⟨wHi c d, wLo c d⟩ : ID) = q := ⟨_, rfl⟩
    have hp1 : wHi a b = p.hi := by rw [← hp]
    have hp2 : wLo a b = p.lo := by rw [← hp]
    have hq1 : wHi c d = q.hi := by rw [← hq]
    have hq2 : wLo c d = q.lo := by rw [← hq]
    rw [hp1, hp2] at h1
    rw [hq1, hq2] at h2
    rw [hp, hq] at hres
    clear hp hq hp1 hp2 hq1 hq2 ha hb hc hd
    have hres' := Lib.hid hres
    clear hres
    have hs := fun V A B k k' hA hB => scmp_any p q A B k k' V hA hB
    go_enter Tryz.func105, Tryz.ntmps105
    go_wp2_with (first
      | (go_at_call 136; (with_reducible refine hf.mono ?_); clear hf; rintro e w' ⟨rfl, hw⟩; subst hw)
      | (go_at_call 137; (with_reducible refine (h1 _).mono ?_); clear h1; rintro e w1 ⟨rfl, hb1⟩; have hB1 := below_call hB hB.size hb1)
      | (go_at_call 137; (with_reducible refine (h2 _).mono ?_); clear h2; rintro e w2 ⟨rfl, hb2⟩; have hB2 := below_call hB1 hB1.size hb2))
    have hV : ∃ V, ((w2.alloc (.cells #[.int .u64 p.hi, .int .u64 p.lo] 175)).alloc (.cells #[.int .u64 q.hi, .int .u64 q.lo] 175)) = V := ⟨_, rfl⟩
    obtain ⟨V, hV⟩ := hV
    have hBV : Below w.heap.size w V := by subst hV; exact (hB2.alloc hB2.size _).alloc (by have := hB2.size; simp; omega) _
    have b0 : V.heap[w2.heap.size]? = some (.cells #[.int .u64 p.hi, .int .u64 p.lo] 175 (0, 0)) := by subst hV; exact ha_lt (ha_at rfl)
    have b1 : V.heap[w2.heap.size + 1]? = some (.cells #[.int .u64 q.hi, .int .u64 q.lo] 175 (0, 0)) := by subst hV; exact ha_at (by simp)
    have hR0 : Rd 1 encU V (some ⟨w2.heap.size, 0, none⟩) [p.hi, p.lo] := Rd_blk (by simp) b0 (fun i z hz j u hu => by
      rcases i with _ | _ | i <;> rcases j with _ | j <;> simp [encU] at hz hu <;> subst hz <;> simpa using hu)
    have hR1 : Rd 1 encU V (some ⟨w2.heap.size + 1, 0, none⟩) [q.hi, q.lo] := Rd_blk (by simp) b1 (fun i z hz j u hu => by
      rcases i with _ | _ | i <;> rcases j with _ | j <;> simp [encU] at hz hu <;> subst hz <;> simpa using hu)
    have h3 := fun g k k' => hs (gr V g) _ _ k k' (hR0.below (gr_below V g)) (hR1.below (gr_below V g))
    have hBg : ∀ g, Below w.heap.size w (gr V g) := fun g => hBV.trans ((gr_below _ _).mono hBV.size)
    obtain ⟨c0, c1, _, _⟩ := blk2 b0
    obtain ⟨d0, d1, _, _⟩ := blk2 b1
    have g0 := gr_cell c0
    have g1 := gr_cell c1
    have g2 := gr_cell d0
    have g3 := gr_cell d1
    have hne := neq_w p q
    rw [hV]
    clear hs hR0 hR1 hV b0 b1 hb1 hb2 hB1 hB2 hR hW hB c0 c1 d0 d1
    by_cases he : p = q
    · have hz := Lib.hid (hres'.out.trans (show decide (cmpID p q > 0) = false by simp [he, cmpID_self]))
      have hn : (!decide (p = q)) = false := by simpa using he
      rw [hn] at hne
      clear hn he h3
      refine wp_region_gr (by kernel_rfl) (by kernel_rfl) ?_
      repeat (go_big_quiet_step (fail))
      refine wpQuiet_nil ?_
      rintro _ ⟨pq, rfl⟩
      go_wp2
      go_ret
      exact ⟨ret_bool hz.out.symm, hBg _⟩
    · have hn : (!decide (p = q)) = true := by simpa using he
      rw [hn] at hne
      obtain ⟨r, hr⟩ : ∃ r, cmpID p q = r := ⟨_, rfl⟩
      rw [hr] at h3 hres'
      clear hn he hr
      refine wp_region_gr (by kernel_rfl) (by kernel_rfl) ?_
      repeat (go_big_quiet_step ((go_at_call 138; with_reducible exact Calls.gr_of (h3 _ _ _))))
      refine wpQuiet_nil ?_
      rintro _ ⟨pq, rfl⟩
      go_wp2
      go_ret
      exact ⟨ret_bool hres'.out.symm, hBg _⟩
  · rw [decide_eq_false h] at hf
    have hres : moreB a b c d = false := by unfold moreB; exact decide_eq_false fun e => h e.1
    rw [hres]
    clear hres h
    go_enter Tryz.func105, Tryz.ntmps105
    go_wp2_with (go_at_call 136; (with_reducible refine hf.mono ?_); clear hf; rintro e w' ⟨rfl, hw⟩; subst hw)
    go_ret
    exact ⟨rfl, hB⟩
end Go.Proofs.YtaohkcdfjjiggaaGreat
