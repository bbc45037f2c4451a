/- GJ: several texts in one. -/
import Derived.Test.YtdocgemfedohdaaGI
import Derived.Test.YtdocgemfedohdaaGA
import Derived.Test.YtdocgemfedohdaaGF
import Derived.Test.YtdocgemfedohdaaShelf
/-! The document's products, walked. -/
namespace Go.Proofs.Ytdocgemfedohdaa
open Go.RowKit
theorem wrapU_id {x : Int} (h0 : 0 ≤ x) (h1 : x < 18446744073709551616) : IntKind.u64.wrap x = x := by
  obtain ⟨n, rfl⟩ := Int.eq_ofNat_of_zero_le h0
  show ((n : Int) % 18446744073709551616) = n
  omega
theorem set4 {w : World} {b : Nat} {x y z t : Value} {T : TypeId} (h : w.heap[b]? = some (.cells #[x, y, z, t] T (0, 0))) (u v r s : Value) :
    ((((w.setCell ⟨b, 0, none⟩ u).setCell ⟨b, 1, none⟩ v).setCell ⟨b, 2, none⟩ r).setCell ⟨b, 3, none⟩ s).heap[b]? = some (.cells #[u, v, r, s] T (0, 0)) ∧ w.grownBy ((((w.setCell ⟨b, 0, none⟩ u).setCell ⟨b, 1, none⟩ v).setCell ⟨b, 2, none⟩ r).setCell ⟨b, 3, none⟩ s) (some b) := by
  refine ⟨?_, grown_trans (grown_trans (grown_trans (grown_set _ _ _) (grown_set _ _ _)) (grown_set _ _ _)) (grown_set _ _ _)⟩
  rw [heap_setCell_same _ _ _ _ _ _ (heap_setCell_same _ _ _ _ _ _ (heap_setCell_same _ _ _ _ _ _ (heap_setCell_same _ _ _ _ _ _ h)))]
  rfl
theorem wrapI_id {x : Int} (h0 : 0 ≤ x) (h1 : x < 4294967296) : wrap64 x = x := by unfold wrap64; omega
theorem tm_id {x : Int} (h0 : 0 ≤ x) : x.tmod 4294967296 = x % 4294967296 := Int.tmod_eq_emod_of_nonneg h0
theorem td_id {x : Int} (h0 : 0 ≤ x) : x.tdiv 4294967296 = x / 4294967296 := Int.tdiv_eq_ediv_of_nonneg h0
/-- The parts of a product, a list. -/
def wParts (a b : Int) : List Int := [wS a b / 4294967296, wS a b % 4294967296, wR a b % 4294967296, wU a b % 4294967296]
/-- What a look at the parts from the front tells. -/
def lexMore : List Int → List Int → Bool
  | x :: xs, y :: ys => if x = y then lexMore xs ys else decide (y < x)
  | _, _ => false
theorem lex_parts {a b c d : Int} (ha : NumOk a) (hb : NumOk b) (hc : NumOk c) (hd : NumOk d) : lexMore (wParts a b) (wParts c d) = decide (c * d < a * b) := by
  obtain ⟨⟨u0, u1⟩, _, ⟨r0, r1⟩, ⟨s0, s1⟩, _, _, _, _, e⟩ := wide_parts ha hb
  obtain ⟨⟨u0', u1'⟩, _, ⟨r0', r1'⟩, ⟨s0', s1'⟩, _, _, _, _, e'⟩ := wide_parts hc hd
  rw [e, e']
  unfold wParts
  generalize wS a b = s at *
  generalize wR a b = r at *
  generalize wU a b = u at *
  generalize wS c d = s' at *
  generalize wR c d = r' at *
  generalize wU c d = u' at *
  clear e e'
  rw [Bool.eq_iff_iff]
  simp only [lexMore]
  by_cases h1 : s / 4294967296 = s' / 4294967296
  · rw [if_pos h1]
    by_cases h2 : s % 4294967296 = s' % 4294967296
    · rw [if_pos h2]
      by_cases h3 : r % 4294967296 = r' % 4294967296
      · rw [if_pos h3]
        by_cases h4 : u % 4294967296 = u' % 4294967296
        · rw [if_pos h4]; simp only [decide_eq_true_eq, Bool.false_eq_true, false_iff]; omega
        · rw [if_neg h4]; simp only [decide_eq_true_eq]; omega
      · rw [if_neg h3]; simp only [decide_eq_true_eq]; omega
    · rw [if_neg h2]; simp only [decide_eq_true_eq]; omega
  · rw [if_neg h1]; simp only [decide_eq_true_eq]; omega
theorem lexMore_drop {p q : List Int} {j : Nat} (h1 : j < p.length) (h2 : j < q.length) : lexMore (p.drop j) (q.drop j) = if p[j] = q[j] then lexMore (p.drop (j + 1)) (q.drop (j + 1)) else decide (q[j] < p[j]) := by
  rw [List.drop_eq_getElem_cons h1, List.drop_eq_getElem_cons h2]
  rfl
end Go.Proofs.Ytdocgemfedohdaa
/-! Comparisons of IDs and of items, walked. -/
namespace Go.Proofs.Ytdocgemfedohdaa
open Go.RowKit
def cmpU (x y : Int) : Int := if x < y then -1 else if y < x then 1 else 0
set_option maxRecDepth 100000 in
set_option maxHeartbeats 1000000 in
theorem isnanU_any (x : Int) (w : World) : Calls Try.prog 131 #[.int .u64 x] w fun e w' => e = .returned (.bool false) ∧ Below w.heap.size w w' := by
  have hB := Below.refl w.heap.size w
  go_enter Try.func131, Try.ntmps131
  go_wp2_with fail
  go_ret
  exact ⟨ret_bool (by simp), hB⟩
set_option maxRecDepth 100000 in
set_option maxHeartbeats 1000000 in
theorem cmpu_any (x y : Int) (w : World) : Calls Try.prog 114 #[.int .u64 x, .int .u64 y] w fun e w' => e = .returned (.int .i64 (cmpU x y)) ∧ Below w.heap.size w w' := by
  have hx := fun V => isnanU_any x V
  have hy := fun V => isnanU_any y V
  go_enter Try.func114, Try.ntmps114
  go_wp2_with (first
    | (go_at_call 131; with_reducible refine (hx _).mono ?_; clear hx; rintro e w1 ⟨rfl, hb1⟩)
    | (go_at_call 131; with_reducible refine (hy _).mono ?_; clear hy; rintro e w2 ⟨rfl, hb2⟩; have hB := below_call hb1 hb1.size hb2))
  all_goals
    go_ret
    refine ⟨?_, hB⟩
    unfold cmpU
    (first | rw [if_pos (by omega)] | rw [if_neg (by omega), if_pos (by omega)] | rw [if_neg (by omega), if_neg (by omega)])
    try rfl
def cmpID (x y : ID) : Int := if cmpU x.hi y.hi = 0 then cmpU x.lo y.lo else cmpU x.hi y.hi
theorem cmpID_less (x y : ID) : decide (cmpID x y < 0) = idLess x y := by
  unfold cmpID cmpU idLess
  rw [Bool.eq_iff_iff]
  simp only [Bool.or_eq_true, Bool.and_eq_true, decide_eq_true_eq]
  split <;> split <;> (try split) <;> (try split) <;> omega
theorem at0 {w : World} {A : Option Addr} {x y : Int} (h : Rd 1 encU w A [x, y]) : ∃ b o, A = some ⟨b, o, none⟩ ∧ b < w.heap.size ∧ w.cell? ⟨b, o, none⟩ = some (.int .u64 x) ∧ w.cell? ⟨b, o + 1, none⟩ = some (.int .u64 y) := by
  obtain ⟨b, o, hA, hb, d0⟩ := h.atU (i := 0) (by simp)
  obtain ⟨b', o', hA', _, d1⟩ := h.atU (i := 1) (by simp)
  rw [hA] at hA'
  cases hA'
  exact ⟨b, o, hA, hb, d0, d1⟩
set_option maxRecDepth 100000 in
set_option maxHeartbeats 1000000 in
theorem scmp_any (x y : ID) (A B : Option Addr) (c d : Nat) (w : World) (hA : Rd 1 encU w A [x.hi, x.lo]) (hB : Rd 1 encU w B [y.hi, y.lo]) :
    Calls Try.prog 90 #[.slice A 2 c, .slice B 2 d] w fun e w' => e = .returned (.int .i64 (cmpID x y)) ∧ Below w.heap.size w w' := by
  have h0 := fun V => cmpu_any x.hi y.hi V
  have h1 := fun V => cmpu_any x.lo y.lo V
  have hq : ∃ q, cmpID x y = q := ⟨_, rfl⟩
  obtain ⟨q, hq⟩ := hq
  rw [hq]
  unfold cmpID at hq
  obtain ⟨m, hm⟩ : ∃ m, cmpU x.hi y.hi = m := ⟨_, rfl⟩
  obtain ⟨n, hn⟩ : ∃ n, cmpU x.lo y.lo = n := ⟨_, rfl⟩
  rw [hm] at h0 hq
  rw [hn] at h1 hq
  clear hm hn
  have hq' := Lib.hid hq
  clear hq
  go_enter Try.func90, Try.ntmps90
  go_wp2_with fail
  go_loopw [5, 6, 7, 8, 11] (fun x5 x6 x7 x8 i wr => ∃ k : Nat, k ≤ 2 ∧ i = .int .i64 k ∧ (1 ≤ k → m = 0) ∧ (k = 2 → n = 0) ∧ Below w.heap.size w wr) (fun _ _ _ _ i _ => 2 - (intOf i).toNat)
  case atStart => exact ⟨0, by omega, rfl, by omega, by omega, Below.refl _ _⟩
  case round =>
    obtain ⟨k, hk, rfl, hm0, hn0, hW⟩ := hrel
    obtain ⟨b, o, rfl, hb, c0, c1⟩ := at0 (hA.below hW)
    obtain ⟨b', o', rfl, hb', d0, d1⟩ := at0 (hB.below hW)
    rcases (show k = 0 ∨ k = 1 ∨ k = 2 by omega) with rfl | rfl | rfl
    · by_cases hz : m = 0
      · clear hm0 hn0
        go_wp2_with (go_at_call 114; with_reducible refine (h0 _).mono ?_; clear h0; rintro e w1 ⟨rfl, hb1⟩; have hB1 := below_call hW hW.size hb1)
        go_roundw
        case rel => exact ⟨1, by omega, rfl, fun _ => hz, by omega, hB1⟩
        case measure => simp [intOf]
      · clear hm0 hn0
        go_wp2_with (go_at_call 114; with_reducible refine (h0 _).mono ?_; clear h0; rintro e w1 ⟨rfl, hb1⟩; have hB1 := below_call hW hW.size hb1)
        go_ret
        exact ⟨ret_int (by rw [← hq'.out, if_neg hz]), hB1⟩
    · have hz := hm0 (Nat.le_refl _)
      by_cases hy : n = 0
      · clear hm0 hn0
        go_wp2_with (go_at_call 114; with_reducible refine (h1 _).mono ?_; clear h1; rintro e w1 ⟨rfl, hb1⟩; have hB1 := below_call hW hW.size hb1)
        go_roundw
        case rel => exact ⟨2, by omega, rfl, fun _ => hz, fun _ => hy, hB1⟩
        case measure => simp [intOf]
      · clear hm0 hn0
        go_wp2_with (go_at_call 114; with_reducible refine (h1 _).mono ?_; clear h1; rintro e w1 ⟨rfl, hb1⟩; have hB1 := below_call hW hW.size hb1)
        go_ret
        exact ⟨ret_int (by rw [← hq'.out, if_pos hz]), hB1⟩
    · have hz := hm0 (by omega)
      have hy := hn0 rfl
      clear hm0 hn0
      go_wp2_with fail
      go_ret
      exact ⟨ret_int (by rw [← hq'.out, if_pos hz, hy]), hW⟩
set_option maxRecDepth 100000 in
set_option maxHeartbeats 1000000 in
theorem mless_any (x y : ID) (w : World) : Calls Try.prog 87 #[idv x, idv y] w fun e w' => e = .returned (.bool (idLess x y)) ∧ Below w.heap.size w w' := by
  have hs := fun V A B c d hA hB => scmp_any x y A B c d V hA hB
  rw [← cmpID_less]
  obtain ⟨q, hq⟩ : ∃ q, cmpID x y = q := ⟨_, rfl⟩
  rw [hq] at hs ⊢
  clear hq
  unfold idv
  have hW : ∃ W, (w.alloc (.cells #[.int .u64 x.hi, .int .u64 x.lo] 29)).alloc (.cells #[.int .u64 y.hi, .int .u64 y.lo] 29) = W := ⟨_, rfl⟩
  obtain ⟨W, hW⟩ := hW
  have hB : Below w.heap.size w W := by subst hW; exact ((Below.refl _ w).alloc (Nat.le_refl _) _).alloc (by simp) _
  have b0 : W.heap[w.heap.size]? = some (.cells #[.int .u64 x.hi, .int .u64 x.lo] 29 (0, 0)) := by subst hW; exact ha_lt (ha_at rfl)
  have b1 : W.heap[w.heap.size + 1]? = some (.cells #[.int .u64 y.hi, .int .u64 y.lo] 29 (0, 0)) := by subst hW; exact ha_at (by simp)
  have hR0 : Rd 1 encU W (some ⟨w.heap.size, 0, none⟩) [x.hi, x.lo] := Rd_blk (by simp) b0 (fun i z hz j u hu => by
    rcases i with _ | _ | i <;> rcases j with _ | j <;> simp [encU] at hz hu <;> subst hz <;> simpa using hu)
  have hR1 : Rd 1 encU W (some ⟨w.heap.size + 1, 0, none⟩) [y.hi, y.lo] := Rd_blk (by simp) b1 (fun i z hz j u hu => by
    rcases i with _ | _ | i <;> rcases j with _ | j <;> simp [encU] at hz hu <;> subst hz <;> simpa using hu)
  have h1 := fun p c d => hs (gr W p) _ _ c d (hR0.below (gr_below W p)) (hR1.below (gr_below W p))
  have hBg : ∀ p, Below w.heap.size w (gr W p) := fun p => hB.trans ((gr_below _ _).mono hB.size)
  clear hs hR0 hR1
  go_enter Try.func87, Try.ntmps87
  go_wp2_with fail
  refine wp_region_gr (by kernel_rfl) (by kernel_rfl) ?_
  repeat (go_big_quiet_step ((go_at_call 90; with_reducible exact Calls.gr_of (h1 _ _ _))))
  refine wpQuiet_nil ?_
  rintro _ ⟨pq, rfl⟩
  go_wp2
  go_ret
  exact ⟨rfl, hBg _⟩
theorem rless_dec (x y : ID) : idLess x y = decide (x.hi < y.hi ∨ x.hi = y.hi ∧ x.lo < y.lo) := by
  unfold idLess
  rw [Bool.eq_iff_iff]
  simp
set_option maxRecDepth 100000 in
set_option maxHeartbeats 1000000 in
theorem rless_any (x y : ID) (w : World) : Calls Try.prog 91 #[idv x, idv y] w fun e w' => e = .returned (.bool (idLess x y)) ∧ Below w.heap.size w w' := by
  rw [rless_dec]
  unfold idv
  have hW : ∃ W, (w.alloc (.cells #[.int .u64 x.hi, .int .u64 x.lo] 29)).alloc (.cells #[.int .u64 y.hi, .int .u64 y.lo] 29) = W := ⟨_, rfl⟩
  obtain ⟨W, hW⟩ := hW
  have hB : Below w.heap.size w W := by subst hW; exact ((Below.refl _ w).alloc (Nat.le_refl _) _).alloc (by simp) _
  have b0 : W.heap[w.heap.size]? = some (.cells #[.int .u64 x.hi, .int .u64 x.lo] 29 (0, 0)) := by subst hW; exact ha_lt (ha_at rfl)
  have b1 : W.heap[w.heap.size + 1]? = some (.cells #[.int .u64 y.hi, .int .u64 y.lo] 29 (0, 0)) := by subst hW; exact ha_at (by simp)
  obtain ⟨c0, c1, _, _⟩ := blk2 b0
  obtain ⟨c2, c3, _, _⟩ := blk2 b1
  obtain ⟨xh, xl⟩ := x
  obtain ⟨yh, yl⟩ := y
  go_enter Try.func91, Try.ntmps91
  go_wp2_with fail
  all_goals
    go_ret
    refine ⟨ret_bool ?_, hB⟩
    first | (rw [Bool.eq_iff_iff]; done) | (rw [Bool.eq_iff_iff]; simp only [Bool.and_eq_true, decide_eq_true_eq, Bool.false_eq_true, false_iff]; omega)
end Go.Proofs.Ytdocgemfedohdaa
/-! Products, and which is more, walked. -/
namespace Go.Proofs.Ytdocgemfedohdaa
open Go.RowKit
def wHi (a b : Int) : Int := a * b / 18446744073709551616
def wLo (a b : Int) : Int := a * b % 18446744073709551616
set_option maxRecDepth 100000 in
set_option maxHeartbeats 1000000 in
theorem times_any (a b : Int) (w : World) (ha : NumOk a) (hb : NumOk b) :
    Calls Try.prog 89 #[.int .i64 a, .int .i64 b] w fun e w' => e = .returned (.agg #[.int .u64 (wHi a b), .int .u64 (wLo a b)]) ∧ Below w.heap.size w w' := by
  obtain ⟨ha1, ha2⟩ := ha
  obtain ⟨hb1, hb2⟩ := hb
  have k1 := wrapU_id (x := a) ha1 (by omega)
  have k2 := wrapU_id (x := b) hb1 (by omega)
  have hmul := fun V => sh_bits_Mul64 a.toNat b.toNat (by omega) (by omega) V
  have e1 : (a.toNat : Int) = a := by omega
  have e2 : (b.toNat : Int) = b := by omega
  have e3 : ((a.toNat * b.toNat / 18446744073709551616 : Nat) : Int) = wHi a b := by unfold wHi; rw [Int.natCast_ediv, Int.natCast_mul, e1, e2]; rfl
  have e4 : ((a.toNat * b.toNat % 18446744073709551616 : Nat) : Int) = wLo a b := by unfold wLo; rw [Int.natCast_emod, Int.natCast_mul, e1, e2]; rfl
  rw [e3, e4, e1, e2] at hmul
  clear e3 e4 e1 e2
  generalize wHi a b = hi at hmul ⊢
  generalize wLo a b = lo at hmul ⊢
  go_enter Try.func89, Try.ntmps89
  go_wp2_with (go_at_call 113; (with_reducible refine (hmul _).mono ?_); rintro e w' ⟨rfl, hw⟩; subst hw)
  have b0 : (w.alloc (.cells #[.int .u64 hi, .int .u64 lo] 117)).heap[w.heap.size]? = some (.cells #[.int .u64 hi, .int .u64 lo] 117 (0, 0)) := ha_at rfl
  obtain ⟨m0, m1, _, _⟩ := blk2 b0
  refine bodyPost_ret (v := .agg #[.int .u64 hi, .int .u64 lo]) ?_ rfl ⟨rfl, ?_⟩
  · simp [results, Try.results89, go_sem, m0, m1]
  · exact (Below.refl _ w).alloc (Nat.le_refl _) _
theorem eqlIn_w (d : Nat) (x y : ID) (w : World) : (Op.equalIn (d + 2) 117 (idv x) (idv y)).run Try.prog w = .ok (decide (x = y)) w := by
  have u := Try.underlying117
  have z := Try.sizeOf23
  have u3 := Try.underlying23
  have p := fun cs off v h w => part_int (P := Try.prog) u3 cs off v h w
  unfold idv Op.equalIn
  simp only [Sem.run_bind, run_underlying u, Result.andThen_ok, z]
  simp [List.range', List.forIn_cons, p, run_equalIn_int _ _ _ _ _ _ _ u3]
  obtain ⟨x1, x2⟩ := x
  obtain ⟨y1, y2⟩ := y
  by_cases h1 : x1 = y1 <;> by_cases h2 : x2 = y2 <;> simp [h1, h2]
theorem neq_w (x y : ID) (w : World) : (binOp .neq 117 (.agg #[.int .u64 x.hi, .int .u64 x.lo]) (.agg #[.int .u64 y.hi, .int .u64 y.lo])).run Try.prog w = .ok (.bool (!decide (x = y))) w := by
  have h := eqlIn_w 9998 x y w
  unfold idv at *
  rw [run_neq_struct, h]
  rfl
theorem more_words {a b c d : Int} (ha : NumOk a ∧ NumOk b ∧ NumOk c ∧ NumOk d) : moreB a b c d = decide (cmpID ⟨wHi a b, wLo a b⟩ ⟨wHi c d, wLo c d⟩ > 0) := by
  unfold moreB cmpID cmpU wHi wLo
  generalize a * b = x
  generalize c * d = y
  rw [Bool.eq_iff_iff]
  simp only [decide_eq_true_eq]
  constructor
  · rintro ⟨_, h⟩
    repeat' split
    all_goals omega
  · intro h
    refine ⟨ha, ?_⟩
    revert h
    repeat' split
    all_goals omega
theorem cmpID_self (x : ID) : cmpID x x = 0 := by simp [cmpID, cmpU]
set_option maxRecDepth 100000 in
set_option maxHeartbeats 4000000 in
theorem more_any (a b c d : Int) (w : World) :
    Calls Try.prog 67 #[.int .i64 a, .int .i64 b, .int .i64 c, .int .i64 d] w fun e w' => e = .returned (.bool (moreB a b c d)) ∧ Below w.heap.size w w' := by
  obtain ⟨W, hW⟩ : ∃ W, w.alloc (.cells #[.int .i64 a, .int .i64 b, .int .i64 c, .int .i64 d] 3) = W := ⟨_, rfl⟩
  have hB : Below w.heap.size w W := by subst hW; exact (Below.refl _ w).alloc (Nat.le_refl _) _
  have hR : Rd 1 encI W (some ⟨w.heap.size, 0, none⟩) [a, b, c, d] := by subst hW; exact Rd_flat encI_len (by simp) (ha_at rfl) rfl
  have hf := rtfine_any [a, b, c, d] (some ⟨w.heap.size, 0, none⟩) 4 W hR
  have hd : decide (∀ x ∈ [a, b, c, d], NumOk x) = decide (NumOk a ∧ NumOk b ∧ NumOk c ∧ NumOk d) := by simp
  rw [hd] at hf
  simp only [List.length_cons, List.length_nil, Nat.zero_add, Nat.reduceAdd] at hf
  clear hd
  by_cases h : NumOk a ∧ NumOk b ∧ NumOk c ∧ NumOk d
  · rw [decide_eq_true h] at hf
    have hres := more_words h
    obtain ⟨ha, hb, hc, hd⟩ := h
    have h1 := fun V => times_any a b V ha hb
    have h2 := fun V => times_any c d V hc hd
    obtain ⟨p, hp⟩ : ∃ p : ID, (⟨wHi a b, wLo a b⟩ : ID) = p := ⟨_, rfl⟩
    obtain ⟨q, hq⟩ : ∃ q : ID, (⟨wHi c d, wLo c d⟩ : ID) = q := ⟨_, rfl⟩
    have hp1 : wHi a b = p.hi := by rw [← hp]
    have hp2 : wLo a b = p.lo := by rw [← hp]
    have hq1 : wHi c d = q.hi := by rw [← hq]
    have hq2 : wLo c d = q.lo := by rw [← hq]
    rw [hp1, hp2] at h1
    rw [hq1, hq2] at h2
    rw [hp, hq] at hres
    clear hp hq hp1 hp2 hq1 hq2 ha hb hc hd
    have hres' := Lib.hid hres
    clear hres
    have hs := fun V A B k k' hA hB => scmp_any p q A B k k' V hA hB
    go_enter Try.func67, Try.ntmps67
    go_wp2_with (first
      | (go_at_call 88; (with_reducible refine hf.mono ?_); clear hf; rintro e w' ⟨rfl, hw⟩; subst hw)
      | (go_at_call 89; (with_reducible refine (h1 _).mono ?_); clear h1; rintro e w1 ⟨rfl, hb1⟩; have hB1 := below_call hB hB.size hb1)
      | (go_at_call 89; (with_reducible refine (h2 _).mono ?_); clear h2; rintro e w2 ⟨rfl, hb2⟩; have hB2 := below_call hB1 hB1.size hb2))
    have hV : ∃ V, ((w2.alloc (.cells #[.int .u64 p.hi, .int .u64 p.lo] 117)).alloc (.cells #[.int .u64 q.hi, .int .u64 q.lo] 117)) = V := ⟨_, rfl⟩
    obtain ⟨V, hV⟩ := hV
    have hBV : Below w.heap.size w V := by subst hV; exact (hB2.alloc hB2.size _).alloc (by have := hB2.size; simp; omega) _
    have b0 : V.heap[w2.heap.size]? = some (.cells #[.int .u64 p.hi, .int .u64 p.lo] 117 (0, 0)) := by subst hV; exact ha_lt (ha_at rfl)
    have b1 : V.heap[w2.heap.size + 1]? = some (.cells #[.int .u64 q.hi, .int .u64 q.lo] 117 (0, 0)) := by subst hV; exact ha_at (by simp)
    have hR0 : Rd 1 encU V (some ⟨w2.heap.size, 0, none⟩) [p.hi, p.lo] := Rd_blk (by simp) b0 (fun i z hz j u hu => by
      rcases i with _ | _ | i <;> rcases j with _ | j <;> simp [encU] at hz hu <;> subst hz <;> simpa using hu)
    have hR1 : Rd 1 encU V (some ⟨w2.heap.size + 1, 0, none⟩) [q.hi, q.lo] := Rd_blk (by simp) b1 (fun i z hz j u hu => by
      rcases i with _ | _ | i <;> rcases j with _ | j <;> simp [encU] at hz hu <;> subst hz <;> simpa using hu)
    have h3 := fun g k k' => hs (gr V g) _ _ k k' (hR0.below (gr_below V g)) (hR1.below (gr_below V g))
    have hBg : ∀ g, Below w.heap.size w (gr V g) := fun g => hBV.trans ((gr_below _ _).mono hBV.size)
    obtain ⟨c0, c1, _, _⟩ := blk2 b0
    obtain ⟨d0, d1, _, _⟩ := blk2 b1
    have g0 := gr_cell c0
    have g1 := gr_cell c1
    have g2 := gr_cell d0
    have g3 := gr_cell d1
    have hne := neq_w p q
    rw [hV]
    clear hs hR0 hR1 hV b0 b1 hb1 hb2 hB1 hB2 hR hW hB c0 c1 d0 d1
    by_cases he : p = q
    · have hz := Lib.hid (hres'.out.trans (show decide (cmpID p q > 0) = false by simp [he, cmpID_self]))
      have hn : (!decide (p = q)) = false := by simpa using he
      rw [hn] at hne
      clear hn he h3
      refine wp_region_gr (by kernel_rfl) (by kernel_rfl) ?_
      repeat (go_big_quiet_step (fail))
      refine wpQuiet_nil ?_
      rintro _ ⟨pq, rfl⟩
      go_wp2
      go_ret
      exact ⟨ret_bool hz.out.symm, hBg _⟩
    · have hn : (!decide (p = q)) = true := by simpa using he
      rw [hn] at hne
      obtain ⟨r, hr⟩ : ∃ r, cmpID p q = r := ⟨_, rfl⟩
      rw [hr] at h3 hres'
      clear hn he hr
      refine wp_region_gr (by kernel_rfl) (by kernel_rfl) ?_
      repeat (go_big_quiet_step ((go_at_call 90; with_reducible exact Calls.gr_of (h3 _ _ _))))
      refine wpQuiet_nil ?_
      rintro _ ⟨pq, rfl⟩
      go_wp2
      go_ret
      exact ⟨ret_bool hres'.out.symm, hBg _⟩
  · rw [decide_eq_false h] at hf
    have hres : moreB a b c d = false := by unfold moreB; exact decide_eq_false fun e => h e.1
    rw [hres]
    clear hres h
    go_enter Try.func67, Try.ntmps67
    go_wp2_with (go_at_call 88; (with_reducible refine hf.mono ?_); clear hf; rintro e w' ⟨rfl, hw⟩; subst hw)
    go_ret
    exact ⟨rfl, hB⟩
end Go.Proofs.Ytdocgemfedohdaa
/-! The ways that there are enough for, walked: ffg.strong. -/
namespace Go.Proofs.Ytdocgemfedohdaa
open Go.RowKit
theorem whoW_snoc (c : Cfg) (l : List Blk) (v : List Lnk) (x : Lnk) (p : Way) : whoW c l (v ++ [x]) p = whoW c l v p ++ (if MayL c l x ∧ wayOf x = p then [x.frm] else []) := by
  unfold whoW
  rw [List.filter_append, List.map_append]
  congr 1
  by_cases h1 : MayL c l x <;> by_cases h2 : wayOf x = p <;> simp [h1, h2]
theorem whoW_len (c : Cfg) (l : List Blk) (v : List Lnk) (p : Way) : (whoW c l v p).length ≤ v.length := by
  unfold whoW
  rw [List.length_map]
  exact List.length_filter_le _ _
theorem own_some {α : Type} {w : World} {base : Nat} {e : TypeId} {k : Nat} {enc : α → List Value} {v : Value} {xs : List α} (h : Own w base e k enc v xs) (hne : xs ≠ []) : ∃ g, v.ownBlock = some g := by
  rcases h.block with ⟨_, h2⟩ | ⟨g, cap, cur, rfl, _⟩
  · exact absurd h2 hne
  · exact ⟨g, rfl⟩
/-- Who is told of each way. -/
structure WhoAt (c : Cfg) (l : List Blk) (v : List Lnk) (base : Nat) (w : World) (m : List (Way × Value)) : Prop where
  own : ∀ p u, (p, u) ∈ m → Own w base 3 1 encI u (whoW c l v p)
  ne : ∀ p u, (p, u) ∈ m → whoW c l v p ≠ []
  keys : ∀ p, whoW c l v p ≠ [] → p ∈ m.map (·.1)
  apart : ∀ p u q u', (p, u) ∈ m → (q, u') ∈ m → p ≠ q → u.ownBlock ≠ u'.ownBlock
  nodup : (m.map (·.1)).Nodup
theorem who_nil (c : Cfg) (l : List Blk) (base : Nat) (w : World) : WhoAt c l [] base w [] :=
  ⟨fun _ _ h => (by cases h), fun _ _ h => (by cases h), fun _ h => absurd rfl h, fun _ _ _ _ h => (by cases h), List.nodup_nil⟩
theorem WhoAt.below {c : Cfg} {l : List Blk} {v : List Lnk} {base : Nat} {w w' : World} {m : List (Way × Value)} (h : WhoAt c l v base w m) (hb : Below w.heap.size w w') : WhoAt c l v base w' m :=
  ⟨fun p u hm => (h.own p u hm).below hb, h.ne, h.keys, h.apart, h.nodup⟩
theorem WhoAt.grown {c : Cfg} {l : List Blk} {v : List Lnk} {base B : Nat} {w w' : World} {m : List (Way × Value)} (h : WhoAt c l v base w m) (hg : w.grownBy w' (some B)) {κ ν : Type} {ek : κ → Value} {ev : ν → Value} {m2 : List (κ × ν)} (hM : MapIs ek ev w B m2) : WhoAt c l v base w' m :=
  ⟨fun p u hm => (h.own p u hm).grown hg (.inr (own_ne_map (h.own p u hm) hM)), h.ne, h.keys, h.apart, h.nodup⟩
theorem WhoAt.skip {c : Cfg} {l : List Blk} {v : List Lnk} {base : Nat} {w : World} {m : List (Way × Value)} (h : WhoAt c l v base w m) {x : Lnk} (hx : ¬ MayL c l x) : WhoAt c l (v ++ [x]) base w m := by
  have e : ∀ p, whoW c l (v ++ [x]) p = whoW c l v p := fun p => by rw [whoW_snoc, if_neg (fun h => hx h.1), List.append_nil]
  exact ⟨fun p u hm => by rw [e]; exact h.own p u hm, fun p u hm => by rw [e]; exact h.ne p u hm, fun p => by rw [e]; exact h.keys p, h.apart, h.nodup⟩
def curOf (m : List (Way × Value)) (p : Way) : Value := (mget m p).getD (.slice none 0 0)
theorem mget_mem' {κ ν : Type} [DecidableEq κ] {m : List (κ × ν)} {x : κ} {v : ν} (h : mget m x = some v) : (x, v) ∈ m := by
  unfold mget at h
  obtain ⟨p, hp, rfl⟩ := Option.map_eq_some_iff.1 h
  have h1 := List.find?_some hp
  simp only [decide_eq_true_eq] at h1
  have h2 := List.mem_of_find?_eq_some hp
  rw [← h1]
  exact h2
theorem WhoAt.cur {c : Cfg} {l : List Blk} {v : List Lnk} {base : Nat} {w : World} {m : List (Way × Value)} (h : WhoAt c l v base w m) (p : Way) : Own w base 3 1 encI (curOf m p) (whoW c l v p) := by
  unfold curOf
  cases hg : mget m p with
  | none =>
    have : whoW c l v p = [] := Classical.byContradiction fun hne => mget_none.1 hg (h.keys p hne)
    rw [this]
    exact Own.nil _ _ _ _ _
  | some u => exact h.own p u (mget_mem' hg)
theorem mput_mem {κ ν : Type} [DecidableEq κ] {m : List (κ × ν)} (hnd : (m.map (·.1)).Nodup) {x : κ} {v : ν} {q : κ × ν} (h : q ∈ mput m x v) : (q.1 = x ∧ q.2 = v) ∨ (q.1 ≠ x ∧ q ∈ m) := by
  by_cases hq : q.1 = x
  · left
    refine ⟨hq, ?_⟩
    have h1 := mput_nodup hnd x v
    have h2 : mget (mput m x v) x = some v := by rw [mget_mput, if_pos rfl]
    have h3 := mget_mem' h2
    obtain ⟨i, hi, hi'⟩ := List.getElem_of_mem h
    obtain ⟨j, hj, hj'⟩ := List.getElem_of_mem h3
    have : i = j := (List.getElem?_inj (by simpa using hi) h1).1 (by simp [hi, hj, hi', hj', hq])
    subst this
    rw [hi'] at hj'
    rw [hj']
  · right
    refine ⟨hq, ?_⟩
    rcases mem_mput h with h | h
    · exact h
    · exact absurd (by rw [h]) hq
theorem WhoAt.step {c : Cfg} {l : List Blk} {v : List Lnk} {base : Nat} {w w' : World} {m : List (Way × Value)} (h : WhoAt c l v base w m) {x : Lnk} (hx : MayL c l x) {u : Value}
    (hu : Own w' base 3 1 encI u (whoW c l v (wayOf x) ++ [x.frm])) (hg : w.grownBy w' (curOf m (wayOf x)).ownBlock) (ho : u.ownBlock = (curOf m (wayOf x)).ownBlock ∨ u.ownBlock = some w.heap.size) :
    WhoAt c l (v ++ [x]) base w' (mput (mput m (wayOf x) (curOf m (wayOf x))) (wayOf x) u) := by
  have e1 : whoW c l (v ++ [x]) (wayOf x) = whoW c l v (wayOf x) ++ [x.frm] := by rw [whoW_snoc, if_pos ⟨hx, rfl⟩]
  have e2 : ∀ p, p ≠ wayOf x → whoW c l (v ++ [x]) p = whoW c l v p := fun p hp => by rw [whoW_snoc, if_neg (fun h => hp h.2.symm), List.append_nil]
  have hn1 := mput_nodup h.nodup (wayOf x) (curOf m (wayOf x))
  have hmem : ∀ p q, (p, q) ∈ mput (mput m (wayOf x) (curOf m (wayOf x))) (wayOf x) u → (p = wayOf x ∧ q = u) ∨ (p ≠ wayOf x ∧ (p, q) ∈ m) := by
    intro p q hm
    rcases mput_mem hn1 hm with h1 | ⟨h1, h2⟩
    · exact .inl h1
    · rcases mput_mem h.nodup h2 with h3 | h3
      · exact absurd h3.1 h1
      · exact .inr h3
  have hold : ∀ p q, p ≠ wayOf x → (p, q) ∈ m → (curOf m (wayOf x)).ownBlock ≠ q.ownBlock := by
    intro p q hp hm
    unfold curOf
    cases hc : mget m (wayOf x) with
    | none =>
      obtain ⟨g, hg'⟩ := own_some (h.own p q hm) (h.ne p q hm)
      rw [hg']
      simp [Value.ownBlock]
    | some y => exact h.apart _ _ _ _ (mget_mem' hc) hm (fun e => hp e.symm)
  have hnew : ∀ p q, p ≠ wayOf x → (p, q) ∈ m → u.ownBlock ≠ q.ownBlock := by
    intro p q hp hm
    rcases ho with ho | ho
    · rw [ho]; exact hold p q hp hm
    · rw [ho]
      intro e
      have := ((h.own p q hm).base _ e.symm).2
      omega
  refine ⟨fun p q hm => ?_, fun p q hm => ?_, fun p hp => ?_, fun p q p' q' hm hm' hne => ?_, mput_nodup hn1 _ _⟩
  · rcases hmem p q hm with ⟨rfl, rfl⟩ | ⟨h1, h2⟩
    · rw [e1]; exact hu
    · rw [e2 p h1]
      exact (h.own p q h2).grown hg (.inr (fun e => hold p q h1 h2 e.symm))
  · rcases hmem p q hm with ⟨rfl, rfl⟩ | ⟨h1, h2⟩
    · rw [e1]; simp
    · rw [e2 p h1]; exact h.ne p q h2
  · rw [mput_keys]
    by_cases he : p = wayOf x
    · subst he
      split
      · assumption
      · simp
    · rw [e2 p he] at hp
      have h1 : p ∈ (mput m (wayOf x) (curOf m (wayOf x))).map (·.1) := by
        rw [mput_keys]
        split
        · exact h.keys p hp
        · simp only [List.mem_append]; exact .inl (h.keys p hp)
      split
      · exact h1
      · simp only [List.mem_append]; exact .inl h1
  · rcases hmem p q hm with ⟨rfl, rfl⟩ | ⟨h1, h2⟩
    · rcases hmem p' q' hm' with ⟨rfl, rfl⟩ | ⟨h3, h4⟩
      · exact absurd rfl hne
      · exact hnew p' q' h3 h4
    · rcases hmem p' q' hm' with ⟨rfl, rfl⟩ | ⟨h3, h4⟩
      · exact fun e => hnew p q h1 h2 e.symm
      · exact h.apart _ _ _ _ h2 h4 hne
/-- Which ways of those that came are strong. -/
structure StrAt (c : Cfg) (l : List Blk) (v : List Lnk) (came : List Way) (o : List (Way × Bool)) : Prop where
  mem : ∀ p, p ∈ o.map (·.1) ↔ p ∈ came ∧ StrongW c l v p
  yes : ∀ q ∈ o, q.2 = true
theorem str_nil (c : Cfg) (l : List Blk) (v : List Lnk) : StrAt c l v [] [] := ⟨fun _ => (by simp), fun _ h => (by cases h)⟩
theorem str_put {c : Cfg} {l : List Blk} {v : List Lnk} {came : List Way} {o : List (Way × Bool)} (h : StrAt c l v came o) {p : Way} (hp : StrongW c l v p) : StrAt c l v (p :: came) (mput o p true) := by
  refine ⟨fun q => ?_, fun q hq => ?_⟩
  · rw [mput_keys]
    by_cases he : q = p
    · subst he
      constructor
      · intro _; exact ⟨by simp, hp⟩
      · intro _
        split
        · assumption
        · simp
    · have : q ∈ (if p ∈ o.map (·.1) then o.map (·.1) else o.map (·.1) ++ [p]) ↔ q ∈ o.map (·.1) := by
        split
        · exact Iff.rfl
        · simp only [List.mem_append, List.mem_singleton, he, or_false]
      rw [this, h.mem]
      simp [he]
  · rcases mem_mput hq with hq | rfl
    · exact h.yes q hq
    · rfl
theorem str_skip {c : Cfg} {l : List Blk} {v : List Lnk} {came : List Way} {o : List (Way × Bool)} (h : StrAt c l v came o) {p : Way} (hp : ¬ StrongW c l v p) : StrAt c l v (p :: came) o :=
  ⟨fun q => by
    rw [h.mem, List.mem_cons]
    constructor
    · rintro ⟨h1, h2⟩; exact ⟨.inr h1, h2⟩
    · rintro ⟨rfl | h1, h2⟩
      · exact absurd h2 hp
      · exact ⟨h1, h2⟩, h.yes⟩
/-- The map of the strong ways. -/
def IsStrong (c : Cfg) (l : List Blk) (v : List Lnk) (o : List (Way × Bool)) : Prop := (∀ p, p ∈ o.map (·.1) ↔ StrongW c l v p) ∧ ∀ q ∈ o, q.2 = true
theorem str_all {c : Cfg} {l : List Blk} {v : List Lnk} {base : Nat} {w : World} {m : List (Way × Value)} {came : List Way} {o : List (Way × Bool)} (hm : WhoAt c l v base w m) (h : StrAt c l v came o) (hall : ∀ p ∈ m, p.1 ∈ came) : IsStrong c l v o := by
  refine ⟨fun p => ?_, h.yes⟩
  rw [h.mem]
  refine ⟨fun h => h.2, fun hs => ⟨?_, hs⟩⟩
  obtain ⟨q, hq, rfl⟩ := List.mem_map.1 (hm.keys p hs.1)
  exact hall q hq
theorem more_strong (c : Cfg) (l : List Blk) (v : List Lnk) (p : Way) : moreB 2 (totalC c) 3 (weightC c (whoW c l v p)) = decide (3 * weightC c (whoW c l v p) < 2 * totalC c) := by
  have h1 := weightC_bd c (whoW c l v p)
  have h2 := weightC_total c (whoW c l v p)
  have h3 : totalC c ≤ 13194139533312 := by
    unfold totalC
    split
    · rename_i hm
      have := (wsumTo_bd hm.W (fun _ => true) c.W.length).2
      have := hm.len
      omega
    · omega
  unfold moreB NumOk
  rw [Bool.eq_iff_iff, decide_eq_true_eq, decide_eq_true_eq]
  omega
end Go.Proofs.Ytdocgemfedohdaa
