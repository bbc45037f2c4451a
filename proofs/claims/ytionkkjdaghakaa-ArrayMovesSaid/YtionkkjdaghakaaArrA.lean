/- Comparisons of IDs and of items, walked. -/
import Derived.Test.YtionkkjdaghakaaMix
import Derived.Test.YtionkkjdaghakaaArrP
namespace Go.Proofs.Ytionkkjdaghakaa
open Go.RowKit
def cmpU (x y : Int) : Int := if x < y then -1 else if y < x then 1 else 0
set_option maxRecDepth 100000 in
set_option maxHeartbeats 1000000 in
theorem isnan_any (x : Int) (w : World) : Calls Try.prog 60 #[.int .u64 x] w fun e w' => e = .returned (.bool false) ∧ Below w.heap.size w w' := by
  have hB := Below.refl w.heap.size w
  go_enter Try.func60, Try.ntmps60
  go_wp2_with fail
  go_ret
  exact ⟨ret_bool (by simp), hB⟩
set_option maxRecDepth 100000 in
set_option maxHeartbeats 1000000 in
theorem cmpu_any (x y : Int) (w : World) : Calls Try.prog 58 #[.int .u64 x, .int .u64 y] w fun e w' => e = .returned (.int .i64 (cmpU x y)) ∧ Below w.heap.size w w' := by
  have hx := fun V => isnan_any x V
  have hy := fun V => isnan_any y V
  go_enter Try.func58, Try.ntmps58
  go_wp2_with (first
    | (go_at_call 60; with_reducible refine (hx _).mono ?_; clear hx; rintro e w1 ⟨rfl, hb1⟩)
    | (go_at_call 60; with_reducible refine (hy _).mono ?_; clear hy; rintro e w2 ⟨rfl, hb2⟩; have hB := below_call hb1 hb1.size hb2))
  all_goals
    go_ret
    refine ⟨?_, hB⟩
    unfold cmpU
    (first | rw [if_pos (by omega)] | rw [if_neg (by omega), if_pos (by omega)] | rw [if_neg (by omega), if_neg (by omega)])
    try rfl
def cmpID (x y : ID) : Int := if cmpU x.hi y.hi = 0 then cmpU x.lo y.lo else cmpU x.hi y.hi
theorem cmpID_less (x y : ID) : decide (cmpID x y < 0) = idLess x y := by
  unfold cmpID cmpU idLess
  rw [Bool.eq_iff_iff]
  simp only [Bool.or_eq_true, Bool.and_eq_true, decide_eq_true_eq]
  split <;> split <;> (try split) <;> (try split) <;> omega
theorem at0 {w : World} {A : Option Addr} {x y : Int} (h : Rd 1 encU w A [x, y]) : ∃ b o, A = some ⟨b, o, none⟩ ∧ b < w.heap.size ∧ w.cell? ⟨b, o, none⟩ = some (.int .u64 x) ∧ w.cell? ⟨b, o + 1, none⟩ = some (.int .u64 y) := by
  obtain ⟨b, o, hA, hb, d0⟩ := h.atU (i := 0) (by simp)
  obtain ⟨b', o', hA', _, d1⟩ := h.atU (i := 1) (by simp)
  rw [hA] at hA'
  cases hA'
  exact ⟨b, o, hA, hb, d0, d1⟩
set_option maxRecDepth 100000 in
set_option maxHeartbeats 1000000 in
theorem scmp_any (x y : ID) (A B : Option Addr) (c d : Nat) (w : World) (hA : Rd 1 encU w A [x.hi, x.lo]) (hB : Rd 1 encU w B [y.hi, y.lo]) :
    Calls Try.prog 55 #[.slice A 2 c, .slice B 2 d] w fun e w' => e = .returned (.int .i64 (cmpID x y)) ∧ Below w.heap.size w w' := by
  have h0 := fun V => cmpu_any x.hi y.hi V
  have h1 := fun V => cmpu_any x.lo y.lo V
  have hq : ∃ q, cmpID x y = q := ⟨_, rfl⟩
  obtain ⟨q, hq⟩ := hq
  rw [hq]
  unfold cmpID at hq
  obtain ⟨m, hm⟩ : ∃ m, cmpU x.hi y.hi = m := ⟨_, rfl⟩
  obtain ⟨n, hn⟩ : ∃ n, cmpU x.lo y.lo = n := ⟨_, rfl⟩
  rw [hm] at h0 hq
  rw [hn] at h1 hq
  clear hm hn
  have hq' := Lib.hid hq
  clear hq
  go_enter Try.func55, Try.ntmps55
  go_wp2_with fail
  go_loopw [5, 6, 7, 8, 11] (fun x5 x6 x7 x8 i wr => ∃ k : Nat, k ≤ 2 ∧ i = .int .i64 k ∧ (1 ≤ k → m = 0) ∧ (k = 2 → n = 0) ∧ Below w.heap.size w wr) (fun _ _ _ _ i _ => 2 - (intOf i).toNat)
  case atStart => exact ⟨0, by omega, rfl, by omega, by omega, Below.refl _ _⟩
  case round =>
    obtain ⟨k, hk, rfl, hm0, hn0, hW⟩ := hrel
    obtain ⟨b, o, rfl, hb, c0, c1⟩ := at0 (hA.below hW)
    obtain ⟨b', o', rfl, hb', d0, d1⟩ := at0 (hB.below hW)
    rcases (show k = 0 ∨ k = 1 ∨ k = 2 by omega) with rfl | rfl | rfl
    · by_cases hz : m = 0
      · clear hm0 hn0
        go_wp2_with (go_at_call 58; with_reducible refine (h0 _).mono ?_; clear h0; rintro e w1 ⟨rfl, hb1⟩; have hB1 := below_call hW hW.size hb1)
        go_roundw
        case rel => exact ⟨1, by omega, rfl, fun _ => hz, by omega, hB1⟩
        case measure => simp [intOf]
      · clear hm0 hn0
        go_wp2_with (go_at_call 58; with_reducible refine (h0 _).mono ?_; clear h0; rintro e w1 ⟨rfl, hb1⟩; have hB1 := below_call hW hW.size hb1)
        go_ret
        exact ⟨ret_int (by rw [← hq'.out, if_neg hz]), hB1⟩
    · have hz := hm0 (Nat.le_refl _)
      by_cases hy : n = 0
      · clear hm0 hn0
        go_wp2_with (go_at_call 58; with_reducible refine (h1 _).mono ?_; clear h1; rintro e w1 ⟨rfl, hb1⟩; have hB1 := below_call hW hW.size hb1)
        go_roundw
        case rel => exact ⟨2, by omega, rfl, fun _ => hz, fun _ => hy, hB1⟩
        case measure => simp [intOf]
      · clear hm0 hn0
        go_wp2_with (go_at_call 58; with_reducible refine (h1 _).mono ?_; clear h1; rintro e w1 ⟨rfl, hb1⟩; have hB1 := below_call hW hW.size hb1)
        go_ret
        exact ⟨ret_int (by rw [← hq'.out, if_pos hz]), hB1⟩
    · have hz := hm0 (by omega)
      have hy := hn0 rfl
      clear hm0 hn0
      go_wp2_with fail
      go_ret
      exact ⟨ret_int (by rw [← hq'.out, if_pos hz, hy]), hW⟩
set_option maxRecDepth 100000 in
set_option maxHeartbeats 1000000 in
theorem mless_any (x y : ID) (w : World) : Calls Try.prog 49 #[idv x, idv y] w fun e w' => e = .returned (.bool (idLess x y)) ∧ Below w.heap.size w w' := by
  have hs := fun V A B c d hA hB => scmp_any x y A B c d V hA hB
  rw [← cmpID_less]
  obtain ⟨q, hq⟩ : ∃ q, cmpID x y = q := ⟨_, rfl⟩
  rw [hq] at hs ⊢
  clear hq
  unfold idv
  have hW : ∃ W, (w.alloc (.cells #[.int .u64 x.hi, .int .u64 x.lo] 25)).alloc (.cells #[.int .u64 y.hi, .int .u64 y.lo] 25) = W := ⟨_, rfl⟩
  obtain ⟨W, hW⟩ := hW
  have hB : Below w.heap.size w W := by subst hW; exact ((Below.refl _ w).alloc (Nat.le_refl _) _).alloc (by simp) _
  have b0 : W.heap[w.heap.size]? = some (.cells #[.int .u64 x.hi, .int .u64 x.lo] 25 (0, 0)) := by subst hW; exact ha_lt (ha_at rfl)
  have b1 : W.heap[w.heap.size + 1]? = some (.cells #[.int .u64 y.hi, .int .u64 y.lo] 25 (0, 0)) := by subst hW; exact ha_at (by simp)
  have hR0 : Rd 1 encU W (some ⟨w.heap.size, 0, none⟩) [x.hi, x.lo] := Rd_blk (by simp) b0 (fun i z hz j u hu => by
    rcases i with _ | _ | i <;> rcases j with _ | j <;> simp [encU] at hz hu <;> subst hz <;> simpa using hu)
  have hR1 : Rd 1 encU W (some ⟨w.heap.size + 1, 0, none⟩) [y.hi, y.lo] := Rd_blk (by simp) b1 (fun i z hz j u hu => by
    rcases i with _ | _ | i <;> rcases j with _ | j <;> simp [encU] at hz hu <;> subst hz <;> simpa using hu)
  have h1 := fun p c d => hs (gr W p) _ _ c d (hR0.below (gr_below W p)) (hR1.below (gr_below W p))
  have hBg : ∀ p, Below w.heap.size w (gr W p) := fun p => hB.trans ((gr_below _ _).mono hB.size)
  clear hs hR0 hR1
  go_enter Try.func49, Try.ntmps49
  go_wp2_with fail
  refine wp_region_gr (by kernel_rfl) (by kernel_rfl) ?_
  repeat (go_big_quiet_step ((go_at_call 55; with_reducible exact Calls.gr_of (h1 _ _ _))))
  refine wpQuiet_nil ?_
  rintro _ ⟨pq, rfl⟩
  go_wp2
  go_ret
  exact ⟨rfl, hBg _⟩
theorem rless_dec (x y : ID) : idLess x y = decide (x.hi < y.hi ∨ x.hi = y.hi ∧ x.lo < y.lo) := by
  unfold idLess
  rw [Bool.eq_iff_iff]
  simp
set_option maxRecDepth 100000 in
set_option maxHeartbeats 1000000 in
theorem rless_any (x y : ID) (w : World) : Calls Try.prog 42 #[idv x, idv y] w fun e w' => e = .returned (.bool (idLess x y)) ∧ Below w.heap.size w w' := by
  rw [rless_dec]
  unfold idv
  have hW : ∃ W, (w.alloc (.cells #[.int .u64 x.hi, .int .u64 x.lo] 25)).alloc (.cells #[.int .u64 y.hi, .int .u64 y.lo] 25) = W := ⟨_, rfl⟩
  obtain ⟨W, hW⟩ := hW
  have hB : Below w.heap.size w W := by subst hW; exact ((Below.refl _ w).alloc (Nat.le_refl _) _).alloc (by simp) _
  have b0 : W.heap[w.heap.size]? = some (.cells #[.int .u64 x.hi, .int .u64 x.lo] 25 (0, 0)) := by subst hW; exact ha_lt (ha_at rfl)
  have b1 : W.heap[w.heap.size + 1]? = some (.cells #[.int .u64 y.hi, .int .u64 y.lo] 25 (0, 0)) := by subst hW; exact ha_at (by simp)
  obtain ⟨c0, c1, _, _⟩ := blk2 b0
  obtain ⟨c2, c3, _, _⟩ := blk2 b1
  obtain ⟨xh, xl⟩ := x
  obtain ⟨yh, yl⟩ := y
  go_enter Try.func42, Try.ntmps42
  go_wp2_with fail
  all_goals
    go_ret
    refine ⟨ret_bool ?_, hB⟩
    first | (rw [Bool.eq_iff_iff]; done) | (rw [Bool.eq_iff_iff]; simp only [Bool.and_eq_true, decide_eq_true_eq, Bool.false_eq_true, false_iff]; omega)
end Go.Proofs.Ytionkkjdaghakaa
