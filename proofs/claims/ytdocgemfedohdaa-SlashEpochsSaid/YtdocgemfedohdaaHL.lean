/- HL: several texts in one. -/
import Derived.Test.YtdocgemfedohdaaHA
import Derived.Test.YtdocgemfedohdaaHH
import Derived.Test.YtdocgemfedohdaaHK
import Derived.Test.YtdocgemfedohdaaShelf
import Derived.Test.YtdocgemfedohdaaHE
import Derived.Shelf.GgSortFunc.InsertionK
/-! Comparisons of IDs and of items, walked. -/
namespace Go.Proofs.Ytdocgemfedohdaa
open Go.RowKit
def cmpU (x y : Int) : Int := if x < y then -1 else if y < x then 1 else 0
set_option maxRecDepth 100000 in
set_option maxHeartbeats 1000000 in
theorem isnanU_any (x : Int) (w : World) : Calls Try.prog 131 #[.int .u64 x] w fun e w' => e = .returned (.bool false) ∧ Below w.heap.size w w' := by
  have hB := Below.refl w.heap.size w
  go_enter Try.func131, Try.ntmps131
  go_wp2_with fail
  go_ret
  exact ⟨ret_bool (by simp), hB⟩
set_option maxRecDepth 100000 in
set_option maxHeartbeats 1000000 in
theorem cmpu_any (x y : Int) (w : World) : Calls Try.prog 114 #[.int .u64 x, .int .u64 y] w fun e w' => e = .returned (.int .i64 (cmpU x y)) ∧ Below w.heap.size w w' := by
  have hx := fun V => isnanU_any x V
  have hy := fun V => isnanU_any y V
  go_enter Try.func114, Try.ntmps114
  go_wp2_with (first
    | (go_at_call 131; with_reducible refine (hx _).mono ?_; clear hx; rintro e w1 ⟨rfl, hb1⟩)
    | (go_at_call 131; with_reducible refine (hy _).mono ?_; clear hy; rintro e w2 ⟨rfl, hb2⟩; have hB := below_call hb1 hb1.size hb2))
  all_goals
    go_ret
    refine ⟨?_, hB⟩
    unfold cmpU
    (first | rw [if_pos (by omega)] | rw [if_neg (by omega), if_pos (by omega)] | rw [if_neg (by omega), if_neg (by omega)])
    try rfl
def cmpID (x y : ID) : Int := if cmpU x.hi y.hi = 0 then cmpU x.lo y.lo else cmpU x.hi y.hi
theorem cmpID_less (x y : ID) : decide (cmpID x y < 0) = idLess x y := by
  unfold cmpID cmpU idLess
  rw [Bool.eq_iff_iff]
  simp only [Bool.or_eq_true, Bool.and_eq_true, decide_eq_true_eq]
  split <;> split <;> (try split) <;> (try split) <;> omega
theorem at0 {w : World} {A : Option Addr} {x y : Int} (h : Rd 1 encU w A [x, y]) : ∃ b o, A = some ⟨b, o, none⟩ ∧ b < w.heap.size ∧ w.cell? ⟨b, o, none⟩ = some (.int .u64 x) ∧ w.cell? ⟨b, o + 1, none⟩ = some (.int .u64 y) := by
  obtain ⟨b, o, hA, hb, d0⟩ := h.atU (i := 0) (by simp)
  obtain ⟨b', o', hA', _, d1⟩ := h.atU (i := 1) (by simp)
  rw [hA] at hA'
  cases hA'
  exact ⟨b, o, hA, hb, d0, d1⟩
set_option maxRecDepth 100000 in
set_option maxHeartbeats 1000000 in
theorem scmp_any (x y : ID) (A B : Option Addr) (c d : Nat) (w : World) (hA : Rd 1 encU w A [x.hi, x.lo]) (hB : Rd 1 encU w B [y.hi, y.lo]) :
    Calls Try.prog 90 #[.slice A 2 c, .slice B 2 d] w fun e w' => e = .returned (.int .i64 (cmpID x y)) ∧ Below w.heap.size w w' := by
  have h0 := fun V => cmpu_any x.hi y.hi V
  have h1 := fun V => cmpu_any x.lo y.lo V
  have hq : ∃ q, cmpID x y = q := ⟨_, rfl⟩
  obtain ⟨q, hq⟩ := hq
  rw [hq]
  unfold cmpID at hq
  obtain ⟨m, hm⟩ : ∃ m, cmpU x.hi y.hi = m := ⟨_, rfl⟩
  obtain ⟨n, hn⟩ : ∃ n, cmpU x.lo y.lo = n := ⟨_, rfl⟩
  rw [hm] at h0 hq
  rw [hn] at h1 hq
  clear hm hn
  have hq' := Lib.hid hq
  clear hq
  go_enter Try.func90, Try.ntmps90
  go_wp2_with fail
  go_loopw [5, 6, 7, 8, 11] (fun x5 x6 x7 x8 i wr => ∃ k : Nat, k ≤ 2 ∧ i = .int .i64 k ∧ (1 ≤ k → m = 0) ∧ (k = 2 → n = 0) ∧ Below w.heap.size w wr) (fun _ _ _ _ i _ => 2 - (intOf i).toNat)
  case atStart => exact ⟨0, by omega, rfl, by omega, by omega, Below.refl _ _⟩
  case round =>
    obtain ⟨k, hk, rfl, hm0, hn0, hW⟩ := hrel
    obtain ⟨b, o, rfl, hb, c0, c1⟩ := at0 (hA.below hW)
    obtain ⟨b', o', rfl, hb', d0, d1⟩ := at0 (hB.below hW)
    rcases (show k = 0 ∨ k = 1 ∨ k = 2 by omega) with rfl | rfl | rfl
    · by_cases hz : m = 0
      · clear hm0 hn0
        go_wp2_with (go_at_call 114; with_reducible refine (h0 _).mono ?_; clear h0; rintro e w1 ⟨rfl, hb1⟩; have hB1 := below_call hW hW.size hb1)
        go_roundw
        case rel => exact ⟨1, by omega, rfl, fun _ => hz, by omega, hB1⟩
        case measure => simp [intOf]
      · clear hm0 hn0
        go_wp2_with (go_at_call 114; with_reducible refine (h0 _).mono ?_; clear h0; rintro e w1 ⟨rfl, hb1⟩; have hB1 := below_call hW hW.size hb1)
        go_ret
        exact ⟨ret_int (by rw [← hq'.out, if_neg hz]), hB1⟩
    · have hz := hm0 (Nat.le_refl _)
      by_cases hy : n = 0
      · clear hm0 hn0
        go_wp2_with (go_at_call 114; with_reducible refine (h1 _).mono ?_; clear h1; rintro e w1 ⟨rfl, hb1⟩; have hB1 := below_call hW hW.size hb1)
        go_roundw
        case rel => exact ⟨2, by omega, rfl, fun _ => hz, fun _ => hy, hB1⟩
        case measure => simp [intOf]
      · clear hm0 hn0
        go_wp2_with (go_at_call 114; with_reducible refine (h1 _).mono ?_; clear h1; rintro e w1 ⟨rfl, hb1⟩; have hB1 := below_call hW hW.size hb1)
        go_ret
        exact ⟨ret_int (by rw [← hq'.out, if_pos hz]), hB1⟩
    · have hz := hm0 (by omega)
      have hy := hn0 rfl
      clear hm0 hn0
      go_wp2_with fail
      go_ret
      exact ⟨ret_int (by rw [← hq'.out, if_pos hz, hy]), hW⟩
set_option maxRecDepth 100000 in
set_option maxHeartbeats 1000000 in
theorem mless_any (x y : ID) (w : World) : Calls Try.prog 87 #[idv x, idv y] w fun e w' => e = .returned (.bool (idLess x y)) ∧ Below w.heap.size w w' := by
  have hs := fun V A B c d hA hB => scmp_any x y A B c d V hA hB
  rw [← cmpID_less]
  obtain ⟨q, hq⟩ : ∃ q, cmpID x y = q := ⟨_, rfl⟩
  rw [hq] at hs ⊢
  clear hq
  unfold idv
  have hW : ∃ W, (w.alloc (.cells #[.int .u64 x.hi, .int .u64 x.lo] 29)).alloc (.cells #[.int .u64 y.hi, .int .u64 y.lo] 29) = W := ⟨_, rfl⟩
  obtain ⟨W, hW⟩ := hW
  have hB : Below w.heap.size w W := by subst hW; exact ((Below.refl _ w).alloc (Nat.le_refl _) _).alloc (by simp) _
  have b0 : W.heap[w.heap.size]? = some (.cells #[.int .u64 x.hi, .int .u64 x.lo] 29 (0, 0)) := by subst hW; exact ha_lt (ha_at rfl)
  have b1 : W.heap[w.heap.size + 1]? = some (.cells #[.int .u64 y.hi, .int .u64 y.lo] 29 (0, 0)) := by subst hW; exact ha_at (by simp)
  have hR0 : Rd 1 encU W (some ⟨w.heap.size, 0, none⟩) [x.hi, x.lo] := Rd_blk (by simp) b0 (fun i z hz j u hu => by
    rcases i with _ | _ | i <;> rcases j with _ | j <;> simp [encU] at hz hu <;> subst hz <;> simpa using hu)
  have hR1 : Rd 1 encU W (some ⟨w.heap.size + 1, 0, none⟩) [y.hi, y.lo] := Rd_blk (by simp) b1 (fun i z hz j u hu => by
    rcases i with _ | _ | i <;> rcases j with _ | j <;> simp [encU] at hz hu <;> subst hz <;> simpa using hu)
  have h1 := fun p c d => hs (gr W p) _ _ c d (hR0.below (gr_below W p)) (hR1.below (gr_below W p))
  have hBg : ∀ p, Below w.heap.size w (gr W p) := fun p => hB.trans ((gr_below _ _).mono hB.size)
  clear hs hR0 hR1
  go_enter Try.func87, Try.ntmps87
  go_wp2_with fail
  refine wp_region_gr (by kernel_rfl) (by kernel_rfl) ?_
  repeat (go_big_quiet_step ((go_at_call 90; with_reducible exact Calls.gr_of (h1 _ _ _))))
  refine wpQuiet_nil ?_
  rintro _ ⟨pq, rfl⟩
  go_wp2
  go_ret
  exact ⟨rfl, hBg _⟩
theorem rless_dec (x y : ID) : idLess x y = decide (x.hi < y.hi ∨ x.hi = y.hi ∧ x.lo < y.lo) := by
  unfold idLess
  rw [Bool.eq_iff_iff]
  simp
set_option maxRecDepth 100000 in
set_option maxHeartbeats 1000000 in
theorem rless_any (x y : ID) (w : World) : Calls Try.prog 91 #[idv x, idv y] w fun e w' => e = .returned (.bool (idLess x y)) ∧ Below w.heap.size w w' := by
  rw [rless_dec]
  unfold idv
  have hW : ∃ W, (w.alloc (.cells #[.int .u64 x.hi, .int .u64 x.lo] 29)).alloc (.cells #[.int .u64 y.hi, .int .u64 y.lo] 29) = W := ⟨_, rfl⟩
  obtain ⟨W, hW⟩ := hW
  have hB : Below w.heap.size w W := by subst hW; exact ((Below.refl _ w).alloc (Nat.le_refl _) _).alloc (by simp) _
  have b0 : W.heap[w.heap.size]? = some (.cells #[.int .u64 x.hi, .int .u64 x.lo] 29 (0, 0)) := by subst hW; exact ha_lt (ha_at rfl)
  have b1 : W.heap[w.heap.size + 1]? = some (.cells #[.int .u64 y.hi, .int .u64 y.lo] 29 (0, 0)) := by subst hW; exact ha_at (by simp)
  obtain ⟨c0, c1, _, _⟩ := blk2 b0
  obtain ⟨c2, c3, _, _⟩ := blk2 b1
  obtain ⟨xh, xl⟩ := x
  obtain ⟨yh, yl⟩ := y
  go_enter Try.func91, Try.ntmps91
  go_wp2_with fail
  all_goals
    go_ret
    refine ⟨ret_bool ?_, hB⟩
    first | (rw [Bool.eq_iff_iff]; done) | (rw [Bool.eq_iff_iff]; simp only [Bool.and_eq_true, decide_eq_true_eq, Bool.false_eq_true, false_iff]; omega)
end Go.Proofs.Ytdocgemfedohdaa
/-! Products, and which is more, walked. -/
namespace Go.Proofs.Ytdocgemfedohdaa
open Go.RowKit
def wHi (a b : Int) : Int := a * b / 18446744073709551616
def wLo (a b : Int) : Int := a * b % 18446744073709551616
set_option maxRecDepth 100000 in
set_option maxHeartbeats 1000000 in
theorem times_any (a b : Int) (w : World) (ha : NumOk a) (hb : NumOk b) :
    Calls Try.prog 89 #[.int .i64 a, .int .i64 b] w fun e w' => e = .returned (.agg #[.int .u64 (wHi a b), .int .u64 (wLo a b)]) ∧ Below w.heap.size w w' := by
  obtain ⟨ha1, ha2⟩ := ha
  obtain ⟨hb1, hb2⟩ := hb
  have k1 := wrapU_id (x := a) ha1 (by omega)
  have k2 := wrapU_id (x := b) hb1 (by omega)
  have hmul := fun V => sh_bits_Mul64 a.toNat b.toNat (by omega) (by omega) V
  have e1 : (a.toNat : Int) = a := by omega
  have e2 : (b.toNat : Int) = b := by omega
  have e3 : ((a.toNat * b.toNat / 18446744073709551616 : Nat) : Int) = wHi a b := by unfold wHi; rw [Int.natCast_ediv, Int.natCast_mul, e1, e2]; rfl
  have e4 : ((a.toNat * b.toNat % 18446744073709551616 : Nat) : Int) = wLo a b := by unfold wLo; rw [Int.natCast_emod, Int.natCast_mul, e1, e2]; rfl
  rw [e3, e4, e1, e2] at hmul
  clear e3 e4 e1 e2
  generalize wHi a b = hi at hmul ⊢
  generalize wLo a b = lo at hmul ⊢
  go_enter Try.func89, Try.ntmps89
  go_wp2_with (go_at_call 113; (with_reducible refine (hmul _).mono ?_); rintro e w' ⟨rfl, hw⟩; subst hw)
  have b0 : (w.alloc (.cells #[.int .u64 hi, .int .u64 lo] 117)).heap[w.heap.size]? = some (.cells #[.int .u64 hi, .int .u64 lo] 117 (0, 0)) := ha_at rfl
  obtain ⟨m0, m1, _, _⟩ := blk2 b0
  refine bodyPost_ret (v := .agg #[.int .u64 hi, .int .u64 lo]) ?_ rfl ⟨rfl, ?_⟩
  · simp [results, Try.results89, go_sem, m0, m1]
  · exact (Below.refl _ w).alloc (Nat.le_refl _) _
theorem eqlIn_w (d : Nat) (x y : ID) (w : World) : (Op.equalIn (d + 2) 117 (idv x) (idv y)).run Try.prog w = .ok (decide (x = y)) w := by
  have u := Try.underlying117
  have z := Try.sizeOf23
  have u3 := Try.underlying23
  have p := fun cs off v h w => part_int (P := Try.prog) u3 cs off v h w
  unfold idv Op.equalIn
  simp only [Sem.run_bind, run_underlying u, Result.andThen_ok, z]
  simp [List.range', List.forIn_cons, p, run_equalIn_int _ _ _ _ _ _ _ u3]
  obtain ⟨x1, x2⟩ := x
  obtain ⟨y1, y2⟩ := y
  by_cases h1 : x1 = y1 <;> by_cases h2 : x2 = y2 <;> simp [h1, h2]
theorem neq_w (x y : ID) (w : World) : (binOp .neq 117 (.agg #[.int .u64 x.hi, .int .u64 x.lo]) (.agg #[.int .u64 y.hi, .int .u64 y.lo])).run Try.prog w = .ok (.bool (!decide (x = y))) w := by
  have h := eqlIn_w 9998 x y w
  unfold idv at *
  rw [run_neq_struct, h]
  rfl
theorem more_words {a b c d : Int} (ha : NumOk a ∧ NumOk b ∧ NumOk c ∧ NumOk d) : moreB a b c d = decide (cmpID ⟨wHi a b, wLo a b⟩ ⟨wHi c d, wLo c d⟩ > 0) := by
  unfold moreB cmpID cmpU wHi wLo
  generalize a * b = x
  generalize c * d = y
  rw [Bool.eq_iff_iff]
  simp only [decide_eq_true_eq]
  constructor
  · rintro ⟨_, h⟩
    repeat' split
    all_goals omega
  · intro h
    refine ⟨ha, ?_⟩
    revert h
    repeat' split
    all_goals omega
theorem cmpID_self (x : ID) : cmpID x x = 0 := by simp [cmpID, cmpU]
set_option maxRecDepth 100000 in
set_option maxHeartbeats 4000000 in
theorem more_any (a b c d : Int) (w : World) :
    Calls Try.prog 67 #[.int .i64 a, .int .i64 b, .int .i64 c, .int .i64 d] w fun e w' => e = .returned (.bool (moreB a b c d)) ∧ Below w.heap.size w w' := by
  obtain ⟨W, hW⟩ : ∃ W, w.alloc (.cells #[.int .i64 a, .int .i64 b, .int .i64 c, .int .i64 d] 3) = W := ⟨_, rfl⟩
  have hB : Below w.heap.size w W := by subst hW; exact (Below.refl _ w).alloc (Nat.le_refl _) _
  have hR : Rd 1 encI W (some ⟨w.heap.size, 0, none⟩) [a, b, c, d] := by subst hW; exact Rd_flat encI_len (by simp) (ha_at rfl) rfl
  have hf := rtfine_any [a, b, c, d] (some ⟨w.heap.size, 0, none⟩) 4 W hR
  have hd : decide (∀ x ∈ [a, b, c, d], NumOk x) = decide (NumOk a ∧ NumOk b ∧ NumOk c ∧ NumOk d) := by simp
  rw [hd] at hf
  simp only [List.length_cons, List.length_nil, Nat.zero_add, Nat.reduceAdd] at hf
  clear hd
  by_cases h : NumOk a ∧ NumOk b ∧ NumOk c ∧ NumOk d
  · rw [decide_eq_true h] at hf
    have hres := more_words h
    obtain ⟨ha, hb, hc, hd⟩ := h
    have h1 := fun V => times_any a b V ha hb
    have h2 := fun V => times_any c d V hc hd
    obtain ⟨p, hp⟩ : ∃ p : ID, (⟨wHi a b, wLo a b⟩ : ID) = p := ⟨_, rfl⟩
    obtain ⟨q, hq⟩ : ∃ q : ID, (⟨wHi c d, wLo c d⟩ : ID) = q := ⟨_, rfl⟩
    have hp1 : wHi a b = p.hi := by rw [← hp]
    have hp2 : wLo a b = p.lo := by rw [← hp]
    have hq1 : wHi c d = q.hi := by rw [← hq]
    have hq2 : wLo c d = q.lo := by rw [← hq]
    rw [hp1, hp2] at h1
    rw [hq1, hq2] at h2
    rw [hp, hq] at hres
    clear hp hq hp1 hp2 hq1 hq2 ha hb hc hd
    have hres' := Lib.hid hres
    clear hres
    have hs := fun V A B k k' hA hB => scmp_any p q A B k k' V hA hB
    go_enter Try.func67, Try.ntmps67
    go_wp2_with (first
      | (go_at_call 88; (with_reducible refine hf.mono ?_); clear hf; rintro e w' ⟨rfl, hw⟩; subst hw)
      | (go_at_call 89; (with_reducible refine (h1 _).mono ?_); clear h1; rintro e w1 ⟨rfl, hb1⟩; have hB1 := below_call hB hB.size hb1)
      | (go_at_call 89; (with_reducible refine (h2 _).mono ?_); clear h2; rintro e w2 ⟨rfl, hb2⟩; have hB2 := below_call hB1 hB1.size hb2))
    have hV : ∃ V, ((w2.alloc (.cells #[.int .u64 p.hi, .int .u64 p.lo] 117)).alloc (.cells #[.int .u64 q.hi, .int .u64 q.lo] 117)) = V := ⟨_, rfl⟩
    obtain ⟨V, hV⟩ := hV
    have hBV : Below w.heap.size w V := by subst hV; exact (hB2.alloc hB2.size _).alloc (by have := hB2.size; simp; omega) _
    have b0 : V.heap[w2.heap.size]? = some (.cells #[.int .u64 p.hi, .int .u64 p.lo] 117 (0, 0)) := by subst hV; exact ha_lt (ha_at rfl)
    have b1 : V.heap[w2.heap.size + 1]? = some (.cells #[.int .u64 q.hi, .int .u64 q.lo] 117 (0, 0)) := by subst hV; exact ha_at (by simp)
    have hR0 : Rd 1 encU V (some ⟨w2.heap.size, 0, none⟩) [p.hi, p.lo] := Rd_blk (by simp) b0 (fun i z hz j u hu => by
      rcases i with _ | _ | i <;> rcases j with _ | j <;> simp [encU] at hz hu <;> subst hz <;> simpa using hu)
    have hR1 : Rd 1 encU V (some ⟨w2.heap.size + 1, 0, none⟩) [q.hi, q.lo] := Rd_blk (by simp) b1 (fun i z hz j u hu => by
      rcases i with _ | _ | i <;> rcases j with _ | j <;> simp [encU] at hz hu <;> subst hz <;> simpa using hu)
    have h3 := fun g k k' => hs (gr V g) _ _ k k' (hR0.below (gr_below V g)) (hR1.below (gr_below V g))
    have hBg : ∀ g, Below w.heap.size w (gr V g) := fun g => hBV.trans ((gr_below _ _).mono hBV.size)
    obtain ⟨c0, c1, _, _⟩ := blk2 b0
    obtain ⟨d0, d1, _, _⟩ := blk2 b1
    have g0 := gr_cell c0
    have g1 := gr_cell c1
    have g2 := gr_cell d0
    have g3 := gr_cell d1
    have hne := neq_w p q
    rw [hV]
    clear hs hR0 hR1 hV b0 b1 hb1 hb2 hB1 hB2 hR hW hB c0 c1 d0 d1
    by_cases he : p = q
    · have hz := Lib.hid (hres'.out.trans (show decide (cmpID p q > 0) = false by simp [he, cmpID_self]))
      have hn : (!decide (p = q)) = false := by simpa using he
      rw [hn] at hne
      clear hn he h3
      refine wp_region_gr (by kernel_rfl) (by kernel_rfl) ?_
      repeat (go_big_quiet_step (fail))
      refine wpQuiet_nil ?_
      rintro _ ⟨pq, rfl⟩
      go_wp2
      go_ret
      exact ⟨ret_bool hz.out.symm, hBg _⟩
    · have hn : (!decide (p = q)) = true := by simpa using he
      rw [hn] at hne
      obtain ⟨r, hr⟩ : ∃ r, cmpID p q = r := ⟨_, rfl⟩
      rw [hr] at h3 hres'
      clear hn he hr
      refine wp_region_gr (by kernel_rfl) (by kernel_rfl) ?_
      repeat (go_big_quiet_step ((go_at_call 90; with_reducible exact Calls.gr_of (h3 _ _ _))))
      refine wpQuiet_nil ?_
      rintro _ ⟨pq, rfl⟩
      go_wp2
      go_ret
      exact ⟨ret_bool hres'.out.symm, hBg _⟩
  · rw [decide_eq_false h] at hf
    have hres : moreB a b c d = false := by unfold moreB; exact decide_eq_false fun e => h e.1
    rw [hres]
    clear hres h
    go_enter Try.func67, Try.ntmps67
    go_wp2_with (go_at_call 88; (with_reducible refine hf.mono ?_); clear hf; rintro e w' ⟨rfl, hw⟩; subst hw)
    go_ret
    exact ⟨rfl, hB⟩
end Go.Proofs.Ytdocgemfedohdaa
/-! The ways that there are enough for, walked: ffg.strong. -/
namespace Go.Proofs.Ytdocgemfedohdaa
open Go.RowKit
theorem whoW_snoc (c : Cfg) (l : List Blk) (v : List Lnk) (x : Lnk) (p : Way) : whoW c l (v ++ [x]) p = whoW c l v p ++ (if MayL c l x ∧ wayOf x = p then [x.frm] else []) := by
  unfold whoW
  rw [List.filter_append, List.map_append]
  congr 1
  by_cases h1 : MayL c l x <;> by_cases h2 : wayOf x = p <;> simp [h1, h2]
theorem whoW_len (c : Cfg) (l : List Blk) (v : List Lnk) (p : Way) : (whoW c l v p).length ≤ v.length := by
  unfold whoW
  rw [List.length_map]
  exact List.length_filter_le _ _
theorem own_some {α : Type} {w : World} {base : Nat} {e : TypeId} {k : Nat} {enc : α → List Value} {v : Value} {xs : List α} (h : Own w base e k enc v xs) (hne : xs ≠ []) : ∃ g, v.ownBlock = some g := by
  rcases h.block with ⟨_, h2⟩ | ⟨g, cap, cur, rfl, _⟩
  · exact absurd h2 hne
  · exact ⟨g, rfl⟩
/-- Who is told of each way. -/
structure WhoAt (c : Cfg) (l : List Blk) (v : List Lnk) (base : Nat) (w : World) (m : List (Way × Value)) : Prop where
  own : ∀ p u, (p, u) ∈ m → Own w base 3 1 encI u (whoW c l v p)
  ne : ∀ p u, (p, u) ∈ m → whoW c l v p ≠ []
  keys : ∀ p, whoW c l v p ≠ [] → p ∈ m.map (·.1)
  apart : ∀ p u q u', (p, u) ∈ m → (q, u') ∈ m → p ≠ q → u.ownBlock ≠ u'.ownBlock
  nodup : (m.map (·.1)).Nodup
theorem who_nil (c : Cfg) (l : List Blk) (base : Nat) (w : World) : WhoAt c l [] base w [] :=
  ⟨fun _ _ h => (by cases h), fun _ _ h => (by cases h), fun _ h => absurd rfl h, fun _ _ _ _ h => (by cases h), List.nodup_nil⟩
theorem WhoAt.below {c : Cfg} {l : List Blk} {v : List Lnk} {base : Nat} {w w' : World} {m : List (Way × Value)} (h : WhoAt c l v base w m) (hb : Below w.heap.size w w') : WhoAt c l v base w' m :=
  ⟨fun p u hm => (h.own p u hm).below hb, h.ne, h.keys, h.apart, h.nodup⟩
theorem WhoAt.grown {c : Cfg} {l : List Blk} {v : List Lnk} {base B : Nat} {w w' : World} {m : List (Way × Value)} (h : WhoAt c l v base w m) (hg : w.grownBy w' (some B)) {κ ν : Type} {ek : κ → Value} {ev : ν → Value} {m2 : List (κ × ν)} (hM : MapIs ek ev w B m2) : WhoAt c l v base w' m :=
  ⟨fun p u hm => (h.own p u hm).grown hg (.inr (own_ne_map (h.own p u hm) hM)), h.ne, h.keys, h.apart, h.nodup⟩
theorem WhoAt.skip {c : Cfg} {l : List Blk} {v : List Lnk} {base : Nat} {w : World} {m : List (Way × Value)} (h : WhoAt c l v base w m) {x : Lnk} (hx : ¬ MayL c l x) : WhoAt c l (v ++ [x]) base w m := by
  have e : ∀ p, whoW c l (v ++ [x]) p = whoW c l v p := fun p => by rw [whoW_snoc, if_neg (fun h => hx h.1), List.append_nil]
  exact ⟨fun p u hm => by rw [e]; exact h.own p u hm, fun p u hm => by rw [e]; exact h.ne p u hm, fun p => by rw [e]; exact h.keys p, h.apart, h.nodup⟩
def curOf (m : List (Way × Value)) (p : Way) : Value := (mget m p).getD (.slice none 0 0)
theorem mget_mem' {κ ν : Type} [DecidableEq κ] {m : List (κ × ν)} {x : κ} {v : ν} (h : mget m x = some v) : (x, v) ∈ m := by
  unfold mget at h
  obtain ⟨p, hp, rfl⟩ := Option.map_eq_some_iff.1 h
  have h1 := List.find?_some hp
  simp only [decide_eq_true_eq] at h1
  have h2 := List.mem_of_find?_eq_some hp
  rw [← h1]
  exact h2
theorem WhoAt.cur {c : Cfg} {l : List Blk} {v : List Lnk} {base : Nat} {w : World} {m : List (Way × Value)} (h : WhoAt c l v base w m) (p : Way) : Own w base 3 1 encI (curOf m p) (whoW c l v p) := by
  unfold curOf
  cases hg : mget m p with
  | none =>
    have : whoW c l v p = [] := Classical.byContradiction fun hne => mget_none.1 hg (h.keys p hne)
    rw [this]
    exact Own.nil _ _ _ _ _
  | some u => exact h.own p u (mget_mem' hg)
theorem mput_mem {κ ν : Type} [DecidableEq κ] {m : List (κ × ν)} (hnd : (m.map (·.1)).Nodup) {x : κ} {v : ν} {q : κ × ν} (h : q ∈ mput m x v) : (q.1 = x ∧ q.2 = v) ∨ (q.1 ≠ x ∧ q ∈ m) := by
  by_cases hq : q.1 = x
  · left
    refine ⟨hq, ?_⟩
    have h1 := mput_nodup hnd x v
    have h2 : mget (mput m x v) x = some v := by rw [mget_mput, if_pos rfl]
    have h3 := mget_mem' h2
    obtain ⟨i, hi, hi'⟩ := List.getElem_of_mem h
    obtain ⟨j, hj, hj'⟩ := List.getElem_of_mem h3
    have : i = j := (List.getElem?_inj (by simpa using hi) h1).1 (by simp [hi, hj, hi', hj', hq])
    subst this
    rw [hi'] at hj'
    rw [hj']
  · right
    refine ⟨hq, ?_⟩
    rcases mem_mput h with h | h
    · exact h
    · exact absurd (by rw [h]) hq
theorem WhoAt.step {c : Cfg} {l : List Blk} {v : List Lnk} {base : Nat} {w w' : World} {m : List (Way × Value)} (h : WhoAt c l v base w m) {x : Lnk} (hx : MayL c l x) {u : Value}
    (hu : Own w' base 3 1 encI u (whoW c l v (wayOf x) ++ [x.frm])) (hg : w.grownBy w' (curOf m (wayOf x)).ownBlock) (ho : u.ownBlock = (curOf m (wayOf x)).ownBlock ∨ u.ownBlock = some w.heap.size) :
    WhoAt c l (v ++ [x]) base w' (mput (mput m (wayOf x) (curOf m (wayOf x))) (wayOf x) u) := by
  have e1 : whoW c l (v ++ [x]) (wayOf x) = whoW c l v (wayOf x) ++ [x.frm] := by rw [whoW_snoc, if_pos ⟨hx, rfl⟩]
  have e2 : ∀ p, p ≠ wayOf x → whoW c l (v ++ [x]) p = whoW c l v p := fun p hp => by rw [whoW_snoc, if_neg (fun h => hp h.2.symm), List.append_nil]
  have hn1 := mput_nodup h.nodup (wayOf x) (curOf m (wayOf x))
  have hmem : ∀ p q, (p, q) ∈ mput (mput m (wayOf x) (curOf m (wayOf x))) (wayOf x) u → (p = wayOf x ∧ q = u) ∨ (p ≠ wayOf x ∧ (p, q) ∈ m) := by
    intro p q hm
    rcases mput_mem hn1 hm with h1 | ⟨h1, h2⟩
    · exact .inl h1
    · rcases mput_mem h.nodup h2 with h3 | h3
      · exact absurd h3.1 h1
      · exact .inr h3
  have hold : ∀ p q, p ≠ wayOf x → (p, q) ∈ m → (curOf m (wayOf x)).ownBlock ≠ q.ownBlock := by
    intro p q hp hm
    unfold curOf
    cases hc : mget m (wayOf x) with
    | none =>
      obtain ⟨g, hg'⟩ := own_some (h.own p q hm) (h.ne p q hm)
      rw [hg']
      simp [Value.ownBlock]
    | some y => exact h.apart _ _ _ _ (mget_mem' hc) hm (fun e => hp e.symm)
  have hnew : ∀ p q, p ≠ wayOf x → (p, q) ∈ m → u.ownBlock ≠ q.ownBlock := by
    intro p q hp hm
    rcases ho with ho | ho
    · rw [ho]; exact hold p q hp hm
    · rw [ho]
      intro e
      have := ((h.own p q hm).base _ e.symm).2
      omega
  refine ⟨fun p q hm => ?_, fun p q hm => ?_, fun p hp => ?_, fun p q p' q' hm hm' hne => ?_, mput_nodup hn1 _ _⟩
  · rcases hmem p q hm with ⟨rfl, rfl⟩ | ⟨h1, h2⟩
    · rw [e1]; exact hu
    · rw [e2 p h1]
      exact (h.own p q h2).grown hg (.inr (fun e => hold p q h1 h2 e.symm))
  · rcases hmem p q hm with ⟨rfl, rfl⟩ | ⟨h1, h2⟩
    · rw [e1]; simp
    · rw [e2 p h1]; exact h.ne p q h2
  · rw [mput_keys]
    by_cases he : p = wayOf x
    · subst he
      split
      · assumption
      · simp
    · rw [e2 p he] at hp
      have h1 : p ∈ (mput m (wayOf x) (curOf m (wayOf x))).map (·.1) := by
        rw [mput_keys]
        split
        · exact h.keys p hp
        · simp only [List.mem_append]; exact .inl (h.keys p hp)
      split
      · exact h1
      · simp only [List.mem_append]; exact .inl h1
  · rcases hmem p q hm with ⟨rfl, rfl⟩ | ⟨h1, h2⟩
    · rcases hmem p' q' hm' with ⟨rfl, rfl⟩ | ⟨h3, h4⟩
      · exact absurd rfl hne
      · exact hnew p' q' h3 h4
    · rcases hmem p' q' hm' with ⟨rfl, rfl⟩ | ⟨h3, h4⟩
      · exact fun e => hnew p q h1 h2 e.symm
      · exact h.apart _ _ _ _ h2 h4 hne
/-- Which ways of those that came are strong. -/
structure StrAt (c : Cfg) (l : List Blk) (v : List Lnk) (came : List Way) (o : List (Way × Bool)) : Prop where
  mem : ∀ p, p ∈ o.map (·.1) ↔ p ∈ came ∧ StrongW c l v p
  yes : ∀ q ∈ o, q.2 = true
theorem str_nil (c : Cfg) (l : List Blk) (v : List Lnk) : StrAt c l v [] [] := ⟨fun _ => (by simp), fun _ h => (by cases h)⟩
theorem str_put {c : Cfg} {l : List Blk} {v : List Lnk} {came : List Way} {o : List (Way × Bool)} (h : StrAt c l v came o) {p : Way} (hp : StrongW c l v p) : StrAt c l v (p :: came) (mput o p true) := by
  refine ⟨fun q => ?_, fun q hq => ?_⟩
  · rw [mput_keys]
    by_cases he : q = p
    · subst he
      constructor
      · intro _; exact ⟨by simp, hp⟩
      · intro _
        split
        · assumption
        · simp
    · have : q ∈ (if p ∈ o.map (·.1) then o.map (·.1) else o.map (·.1) ++ [p]) ↔ q ∈ o.map (·.1) := by
        split
        · exact Iff.rfl
        · simp only [List.mem_append, List.mem_singleton, he, or_false]
      rw [this, h.mem]
      simp [he]
  · rcases mem_mput hq with hq | rfl
    · exact h.yes q hq
    · rfl
theorem str_skip {c : Cfg} {l : List Blk} {v : List Lnk} {came : List Way} {o : List (Way × Bool)} (h : StrAt c l v came o) {p : Way} (hp : ¬ StrongW c l v p) : StrAt c l v (p :: came) o :=
  ⟨fun q => by
    rw [h.mem, List.mem_cons]
    constructor
    · rintro ⟨h1, h2⟩; exact ⟨.inr h1, h2⟩
    · rintro ⟨rfl | h1, h2⟩
      · exact absurd h2 hp
      · exact ⟨h1, h2⟩, h.yes⟩
/-- The map of the strong ways. -/
def IsStrong (c : Cfg) (l : List Blk) (v : List Lnk) (o : List (Way × Bool)) : Prop := (∀ p, p ∈ o.map (·.1) ↔ StrongW c l v p) ∧ ∀ q ∈ o, q.2 = true
theorem str_all {c : Cfg} {l : List Blk} {v : List Lnk} {base : Nat} {w : World} {m : List (Way × Value)} {came : List Way} {o : List (Way × Bool)} (hm : WhoAt c l v base w m) (h : StrAt c l v came o) (hall : ∀ p ∈ m, p.1 ∈ came) : IsStrong c l v o := by
  refine ⟨fun p => ?_, h.yes⟩
  rw [h.mem]
  refine ⟨fun h => h.2, fun hs => ⟨?_, hs⟩⟩
  obtain ⟨q, hq, rfl⟩ := List.mem_map.1 (hm.keys p hs.1)
  exact hall q hq
theorem more_strong (c : Cfg) (l : List Blk) (v : List Lnk) (p : Way) : moreB 2 (totalC c) 3 (weightC c (whoW c l v p)) = decide (3 * weightC c (whoW c l v p) < 2 * totalC c) := by
  have h1 := weightC_bd c (whoW c l v p)
  have h2 := weightC_total c (whoW c l v p)
  have h3 : totalC c ≤ 13194139533312 := by
    unfold totalC
    split
    · rename_i hm
      have := (wsumTo_bd hm.W (fun _ => true) c.W.length).2
      have := hm.len
      omega
    · omega
  unfold moreB NumOk
  rw [Bool.eq_iff_iff, decide_eq_true_eq, decide_eq_true_eq]
  omega
end Go.Proofs.Ytdocgemfedohdaa
/-! ffg.strong, walked. -/
namespace Go.Proofs.Ytdocgemfedohdaa
open Go.RowKit
theorem wp_entry_as {κ ν : Type} [DecidableEq κ] {ek : κ → Value} {ev : ν → Value} {P : Program} {ops : Array Oper} {rest : List Oper} {o : Oper} {a : Act} {Q : Exit → Act → World → Prop}
    (hg : o.guard = none) {mo ko : Operand} {MT kt et : TypeId} (hop : o.op = Op.mapEntry MT mo ko) (K : Key P kt ek) (ht : P.underlying MT = some (.map kt et)) {z0 : ν} {w : World} (hz : (zeroValue et).run P w = .ok (ev z0) w) {B : Nat}
    (hm : a.eval mo = .map (some B)) {x : κ} (hx : a.eval ko = ek x) {m : List (κ × ν)} (hM : MapIs ek ev w B m) {cu : ν} (hcu : (mget m x).getD z0 = cu)
    (hK : ∀ (w' : World) (st : Nat), StampIs ek ev w' B (mput m x cu) x st → w.grownBy w' (some B) → w'.heap.size = w.heap.size → wpList P ops Q rest (a.put o.dst (.tuple #[ev cu, goInt st])) w') : wpList P ops Q (o :: rest) a w := by
  subst hcu
  exact wp_entry hg hop K ht hz hm hx hM hK
theorem WhoAt.iter {c : Cfg} {l : List Blk} {v : List Lnk} {base B r : Nat} {w w' : World} {m : List (Way × Value)} (h : WhoAt c l v base w m) (hg : w.grownBy w' (some r)) {κ ν : Type} [DecidableEq κ] {ek : κ → Value} {ev : ν → Value} {m2 : List (κ × ν)} {came : List κ} (hR : RIs ek ev w B r m2 came) : WhoAt c l v base w' m :=
  ⟨fun p u hm => (h.own p u hm).grown hg (.inr (fun e => by
    obtain ⟨es, clk, since, seen, c0, _, _, _, _, _, hr, _⟩ := hR
    rcases (h.own p u hm).block with ⟨rfl, _⟩ | ⟨g, cap, cur, rfl, _, hh, _⟩
    · cases e
    · have e' : g = r := Option.some.inj e
      subst e'
      rw [hr] at hh
      cases hh)), h.ne, h.keys, h.apart, h.nodup⟩
def StrongPost (c : Cfg) (l : List Blk) (v : List Lnk) (w : World) (e : Ending) (w' : World) : Prop :=
  ∃ (o : List (Way × Bool)) (B : Nat), e = .returned (.map (some B)) ∧ w.heap.size ≤ B ∧ MapIs wayv Value.bool w' B o ∧ IsStrong c l v o ∧ Below w.heap.size w w'
set_option maxRecDepth 100000 in
set_option maxHeartbeats 4000000 in
theorem strong_any (c : Cfg) (l : List Blk) (v : List Lnk) (A A2 A3 : Option Addr) (k k2 k3 : Nat) (w : World) (hr : Rd 1 encI w A c.W) (hr2 : Rd 5 encBlk w A2 l) (hl : l.length ≤ 100000) (hr3 : Rd 7 encLnk w A3 v) (hv : v.length ≤ 100000) :
    Calls Try.prog 38 #[cfgv A k c, .slice A2 l.length k2, .slice A3 v.length k3] w (StrongPost c l v w) := by
  have hm := hr.1
  have hm2 := hr2.1
  have hm3 := hr3.1
  have hun := Try.underlying22
  have hmm := @run_makeMap Try.prog
  have hmay := fun x V (hV : Below w.heap.size w V) => fmay_any c l x A A2 k k2 V (hr.below hV) (hr2.below hV) hl
  have htot := fun V (hV : Below w.heap.size w V) => dtotal_any c A k V (hr.below hV)
  have hwt := fun V (hV : Below w.heap.size w V) who A4 k4 h4 => dweight_any c who A A4 k k4 V (hr.below hV) h4
  have hmo := fun a b d e V => more_any a b d e V
  unfold cfgv at *
  obtain ⟨W, hW⟩ : ∃ W, (w.alloc (.cells #[.slice A c.W.length k, .int .u64 c.seed, .int .i64 c.epoch, .int .i64 c.num, .int .i64 c.den] 25)).alloc (.map #[] 0) = W := ⟨_, rfl⟩
  have hB : Below w.heap.size w W := by subst hW; exact ((Below.refl _ w).alloc (Nat.le_refl _) _).alloc (by simp) _
  have b0 : W.heap[w.heap.size]? = some (.cells #[.slice A c.W.length k, .int .u64 c.seed, .int .i64 c.epoch, .int .i64 c.num, .int .i64 c.den] 25 (0, 0)) := by subst hW; exact ha_lt (ha_at rfl)
  have b1 : MapIs wayv (fun u : Value => u) W (w.heap.size + 1) [] := by subst hW; exact MapIs_new _ _ (ha_at (by simp))
  go_enter Try.func38, Try.ntmps38
  go_wp2_with fail
  go_loopw [9, 10, 18] (fun _ _ i wr => ∃ (j : Nat) (m : List (Way × Value)), j ≤ v.length ∧ i = .int .i64 j ∧ MapIs wayv (fun u : Value => u) wr (w.heap.size + 1) m ∧ Hid (WhoAt c l (v.take j) (w.heap.size + 1 + 1) wr m) ∧ Below w.heap.size w wr ∧
    wr.heap[w.heap.size]? = some (.cells #[.slice A c.W.length k, .int .u64 c.seed, .int .i64 c.epoch, .int .i64 c.num, .int .i64 c.den] 25 (0, 0))) (fun _ _ i _ => v.length - (intOf i).toNat)
  case atStart => exact ⟨0, [], Nat.zero_le _, rfl, b1, Lib.hid (who_nil c l _ _), hB, b0⟩
  case round =>
    obtain ⟨j, m, hj, rfl, hM, hwho, hBr, hC⟩ := hrel
    by_cases hlt : j < v.length
    · obtain ⟨b, o, rfl, hbo, d0, d1, d2, d3, d4, d5, d6⟩ := (hr3.below hBr).atL hlt
      have htk := List.take_succ_eq_append_getElem hlt
      obtain ⟨x, hx⟩ : ∃ x, v[j] = x := ⟨_, rfl⟩
      rw [hx] at d0 d1 d2 d3 d4 d5 d6 htk
      have htk' := Lib.hid htk
      clear hx htk
      obtain ⟨X, hX⟩ : ∃ X, wr.alloc (.cells #[.int .i64 x.frm, .int .i64 x.src.epoch, .int .u64 x.src.root.hi, .int .u64 x.src.root.lo, .int .i64 x.tgt.epoch, .int .u64 x.tgt.root.hi, .int .u64 x.tgt.root.lo] 33) = X := ⟨_, rfl⟩
      have hBX : Below wr.heap.size wr X := by subst hX; exact (Below.refl _ wr).alloc (Nat.le_refl _) _
      have x0 : X.heap[wr.heap.size]? = some (.cells #[.int .i64 x.frm, .int .i64 x.src.epoch, .int .u64 x.src.root.hi, .int .u64 x.src.root.lo, .int .i64 x.tgt.epoch, .int .u64 x.tgt.root.hi, .int .u64 x.tgt.root.lo] 33 (0, 0)) := by subst hX; exact ha_at rfl
      have hB1 := below_call hBr hBr.size hBX
      obtain ⟨e0, e1, e2, e3, e4, e5, e6⟩ := blkL x0
      obtain ⟨c0, c1, c2, c3, c4⟩ := blk5 (bl_own hBX hC)
      have hmx := hmay x
      unfold lnkv at hmx
      by_cases hml : MayL c l x
      · rw [decide_eq_true hml] at hmx
        obtain ⟨u, hu⟩ : ∃ u, (mget m (wayOf x)).getD (.slice none 0 0) = u := ⟨_, rfl⟩
        have hcu := hwho.out.cur (wayOf x)
        have hcur := Lib.hid (show curOf m (wayOf x) = u from hu)
        rw [hcur.out] at hcu
        obtain ⟨Au, ku, rfl, _⟩ := hcu.rd encI_len
        have hwl := whoW_len c l (v.take j) (wayOf x)
        have hwl2 : (v.take j).length ≤ j := List.length_take_le _ _
        have hu := Lib.hid hu
        have hownc := Lib.hid (fun V (hV : Hid (WhoAt c l (v.take j) (w.heap.size + 1 + 1) V m)) => show Own V (w.heap.size + 1 + 1) 3 1 encI (.slice Au (whoW c l (v.take j) (wayOf x)).length ku) (whoW c l (v.take j) (wayOf x)) by rw [← hcur.out]; exact hV.out.cur (wayOf x))
        clear hcu
        go_wp2_with (first
          | (go_at_call 20; (with_reducible refine (hmx _ hB1).mono ?_); clear hmx; rintro e w1 ⟨rfl, hb1⟩; have hB2 := below_call hB1 hB1.size hb1; have x1 := bl_own hb1 x0; obtain ⟨f0, f1, f2, f3, f4, f5, f6⟩ := blkL x1; obtain ⟨Y, hY⟩ : ∃ Y, w1.alloc (.cells #[.int .i64 x.src.epoch, .int .u64 x.src.root.hi, .int .u64 x.src.root.lo, .int .i64 x.tgt.epoch, .int .u64 x.tgt.root.hi, .int .u64 x.tgt.root.lo] 63) = Y := ⟨_, rfl⟩; have hBY : Below w1.heap.size w1 Y := (by subst hY; exact (Below.refl _ w1).alloc (Nat.le_refl _) _); have y0 : Y.heap[w1.heap.size]? = some (.cells #[.int .i64 x.src.epoch, .int .u64 x.src.root.hi, .int .u64 x.src.root.lo, .int .i64 x.tgt.epoch, .int .u64 x.tgt.root.hi, .int .u64 x.tgt.root.lo] 63 (0, 0)) := (by subst hY; exact ha_at rfl); have hB3 := below_call hB2 hB2.size hBY; obtain ⟨g0, g1, g2, g3, g4, g5⟩ := blk6 y0; obtain ⟨i0, i1, i2, i3, i4, i5, i6⟩ := blkL (bl_own hBY x1); have hZ : Below Y.heap.size Y (Y.alloc (.cells #[.int .i64 x.frm] 3)) := (Below.refl _ Y).alloc (Nat.le_refl _) _; have hMZ := MapIs_below (MapIs_below (MapIs_below (MapIs_below hM hBX) hb1) hBY) hZ; have hwZ := Lib.hid ((((hwho.out.below hBX).below hb1).below hBY).below hZ); have hB4 := below_call hB3 hB3.size hZ; have z0 := ha_at (w := Y) (o := .cells #[.int .i64 x.frm] 3) (k := Y.heap.size) rfl; have hCZ := bl_own hZ (bl_own hBY (bl_own hb1 (bl_own hBX hC))); have hneY := Lib.hid (show some Y.heap.size ≠ some (w.heap.size + 1) ∧ w.heap.size + 1 + 1 ≤ (Y.alloc (.cells #[.int .i64 x.frm] 3)).heap.size from ⟨(fun e => by have e' := Option.some.inj e; have h1 := MapIs_lt hM; have h2 := hBX.size; have h3 := hb1.size; have h4 := hBY.size; omega), by have h1 := MapIs_lt hM; have h2 := hBX.size; have h3 := hb1.size; have h4 := hBY.size; have h5 := hZ.size; omega⟩))
          | ((with_reducible refine at_mapEntry ?_); (refine wp_entry_as (x := wayOf x) (ev := fun u : Value => u) (z0 := .slice none 0 0) rfl rfl KeyW Try.underlying94 (Try.zeroValue22 _) rfl rfl hMZ hu.out ?_; intro w5 st hS5 hg5 hz5; have hwho5 := Lib.hid (hwZ.out.grown hg5 hMZ); have hown5 := hownc.out w5 hwho5; have z5 := grown_own hg5 z0 hneY.out.1; have hs5 := hneY.out.2; have hB5 := below_step hB4 hB4.size hg5 (fun q e => by cases e; omega); have hC5 := grown_own hg5 hCZ (fun e => by have e' := Option.some.inj e; omega)))
          | (at_builtin; refine wp_append1 rfl rfl hun infoI rfl (by decide) encI_len encI_one rfl hown5 (g := Y.heap.size) (c := 1) rfl (y := x.frm) z5 rfl (by omega) (by unfold maxLen; omega) (by omega) ?_; intro v6 w6 ho6 hg6 hob6; have hS6 := hS5.grown hg6 (own_ne_map hown5 hS5.map).symm; have hB6 := below_step hB5 hB5.size hg6 (fun q e => by have := (hown5.base q e).1; omega); have hC6 := grown_own hg6 hC5 (fun e => by have := (hown5.base _ e.symm).1; omega))
          | ((with_reducible refine at_entryStore ?_); refine wp_entryStore (ev := fun u : Value => u) (x := wayOf x) (st := st) rfl rfl rfl rfl (v := v6) rfl hS6 ?_; intro w7 hM7 hg7 hz7; have hB7 := below_step hB6 hB6.size hg7 (fun q e => by cases e; omega); have hC7 := grown_own hg7 hC6 (fun e => by have e' := Option.some.inj e; omega)))
        have hwho6 := hwho5.out.step hml ho6 (by rw [hcur.out]; exact hg6) (by rw [hcur.out]; exact hob6)
        go_roundw
        case rel => exact ⟨j + 1, _, hlt, by go_num, hM7, Lib.hid (by rw [htk'.out]; rw [hcur.out] at hwho6; exact hwho6.grown hg7 hS6.map), hB7, hC7⟩
        case measure => simp [intOf]; omega
      · rw [decide_eq_false hml] at hmx
        go_wp2_with (go_at_call 20; (with_reducible refine (hmx _ hB1).mono ?_); clear hmx; rintro e w1 ⟨rfl, hb1⟩; have hB2 := below_call hB1 hB1.size hb1)
        go_roundw
        case rel => exact ⟨j + 1, m, hlt, by go_num, MapIs_below (MapIs_below hM hBX) hb1, Lib.hid (by rw [htk'.out]; exact ((hwho.out.below hBX).below hb1).skip hml), hB2, bl_own hb1 (bl_own hBX hC)⟩
        case measure => simp [intOf]; omega
    · obtain rfl : j = v.length := by omega
      rw [List.take_length] at hwho
      obtain ⟨V1, hV1⟩ : ∃ V1, wr.alloc (.map #[] 0) = V1 := ⟨_, rfl⟩
      have hBV : Below wr.heap.size wr V1 := by subst hV1; exact (Below.refl _ wr).alloc (Nat.le_refl _) _
      have n0 : MapIs wayv Value.bool V1 wr.heap.size [] := by subst hV1; exact MapIs_new _ _ (ha_at rfl)
      have hB1 := below_call hBr hBr.size hBV
      have hMV := MapIs_below hM hBV
      have hwV := Lib.hid (hwho.out.below hBV)
      obtain ⟨c0, c1, c2, c3, c4⟩ := blk5 (bl_own hBV hC)
      have hlr := MapIs_lt hM
      have hlr2 := Lib.hid (show w.heap.size < wr.heap.size from lt_of_block hC)
      have hm2 := fun p => Lib.hid (more_strong c l v p)
      obtain ⟨ro, hro⟩ : ∃ ro, wr.heap.size = ro := ⟨_, rfl⟩
      rw [hro] at n0 hlr hlr2
      go_wp2_with (first
        | (go_at_call 25; (with_reducible refine (htot _ hB1).mono ?_); clear htot; rintro e w1 ⟨rfl, hb1⟩; have hB2 := below_call hB1 hB1.size hb1; have hM1 := MapIs_below hMV hb1; have n1 := MapIs_below n0 hb1; have hw1 := Lib.hid (hwV.out.below hb1); have hC1 := bl_own hb1 (bl_own hBV hC))
        | (at_range; refine wp_range rfl rfl Try.underlying94 rfl hM1 (r := w1.heap.size) rfl ?_; intro w2 hR hBR hzR; have n2 := MapIs_below n1 hBR; have hw2 := Lib.hid (hw1.out.below hBR); have hC2 := bl_own hBR hC1; have hB3 := below_call hB2 hB2.size hBR))
      go_frame
      have hls := Lib.hid (And.intro hlr (And.intro hlr2.out (MapIs_lt n1)))
      clear hro hlr hlr2 hM1 n1 hw1 hC1 hMV n0 hwV hBV hM hwho hC c0 c1 c2 c3 c4 hmay b0 b1 hB hW hBR
      go_loopw [13, 14] (fun _ _ wr => ∃ (came : List Way) (o : List (Way × Bool)), RIs wayv (fun u : Value => u) wr (w.heap.size + 1) w1.heap.size m came ∧ MapIs wayv Value.bool wr ro o ∧ Hid (WhoAt c l v (w.heap.size + 1 + 1) wr m) ∧ Hid (StrAt c l v came o) ∧ Below w.heap.size w wr ∧
        wr.heap[w.heap.size]? = some (.cells #[.slice A c.W.length k, .int .u64 c.seed, .int .i64 c.epoch, .int .i64 c.num, .int .i64 c.den] 25 (0, 0))) (fun _ _ wr => wr.rangeLeft (w.heap.size + 1) w1.heap.size)
      case atStart => exact ⟨[], [], hR, n2, hw2, Lib.hid (str_nil c l v), hB3, hC2⟩
      case round =>
        clear hR n2 hw2 hB3 hC2
        obtain ⟨came, o, hR, hN, hwho, hstr, hBr, hC⟩ := hrel
        go_wp2_with (at_next; refine wp_next rfl rfl rfl hR ?_ ?_)
        · intro hall
          have hall2 : ∀ p ∈ m, p.1 ∈ came := fun p hp => hall.out p.1 p.2 hp
          have hfin := Lib.hid (str_all hwho.out hstr.out hall2)
          go_wp2
          go_ret
          exact ⟨o, ro, rfl, by have := hls.out.2.1; omega, hN, hfin.out, hBr⟩
        · intro p u w3 hcm hen
          have hown := hwho.out.own p u hcm.mem
          obtain ⟨Au, ku, rfl, hRu⟩ := hown.rd encI_len
          have hne := hwho.out.ne p _ hcm.mem
          have hmp := hm2 p
          have hls3 := hls.out
          have hw3 := Lib.hid (hwho.out.iter hcm.grown hR)
          have hN3 := MapIs_grown hN hcm.grown (fun e => by have e' := Option.some.inj e; omega)
          have hC3 := grown_own hcm.grown hC (fun e => by have e' := Option.some.inj e; omega)
          have hB4 := below_step hBr hBr.size hcm.grown (fun q e => by cases e; omega)
          obtain ⟨X, hX⟩ : ∃ X, w3.alloc (.cells #[.int .i64 p.src.epoch, .int .u64 p.src.root.hi, .int .u64 p.src.root.lo, .int .i64 p.tgt.epoch, .int .u64 p.tgt.root.hi, .int .u64 p.tgt.root.lo] 63) = X := ⟨_, rfl⟩
          have hBX : Below w3.heap.size w3 X := by subst hX; exact (Below.refl _ w3).alloc (Nat.le_refl _) _
          have x0 : X.heap[w3.heap.size]? = some (.cells #[.int .i64 p.src.epoch, .int .u64 p.src.root.hi, .int .u64 p.src.root.lo, .int .i64 p.tgt.epoch, .int .u64 p.tgt.root.hi, .int .u64 p.tgt.root.lo] 63 (0, 0)) := by subst hX; exact ha_at rfl
          have hB6 := below_call hB4 hB4.size hBX
          have nX := MapIs_below hN3 hBX
          have hwX := Lib.hid (hw3.out.below hBX)
          have hCX := bl_own hBX hC3
          have hrX := hcm.ris.below hBX
          have hRX : Rd 1 encI X Au (whoW c l v p) := by
            obtain ⟨A', k', e', hR'⟩ := (hwX.out.own p _ hcm.mem).rd encI_len
            cases e'
            exact hR'
          obtain ⟨c0, c1, c2, c3, c4⟩ := blk5 hCX
          obtain ⟨f0, f1, f2, f3, f4, f5⟩ := blk6 x0
          unfold wayv at hen
          have hmes := hcm.less
          have hmo := fun V => hmo 2 (totalC c) 3 (weightC c (whoW c l v p)) V
          have hwt := fun V hV A4 k4 h4 => hwt V hV (whoW c l v p) A4 k4 h4
          rw [hmp.out] at hmo
          by_cases hs : 3 * weightC c (whoW c l v p) < 2 * totalC c
          · have hsk := Lib.hid (str_skip hstr.out (p := p) (fun h => by have := h.2; omega))
            rw [decide_eq_true hs] at hmo
            obtain ⟨q, hq⟩ : ∃ q, weightC c (whoW c l v p) = q := ⟨_, rfl⟩
            simp only [hq] at hmo hwt
            clear hs hq
            go_wp2_with (first
              | (go_at_call 24; (with_reducible refine (hwt _ hB6 _ ku hRX).mono ?_); clear hwt; rintro e w4 ⟨rfl, hb4⟩; have hB7 := below_call hB6 hB6.size hb4)
              | (go_at_call 67; (with_reducible refine (hmo _).mono ?_); clear hmo; rintro e w5 ⟨rfl, hb5⟩; have hB8 := below_call hB7 hB7.size hb5; have n5 := MapIs_below (MapIs_below nX hb4) hb5; have hr4 := hrX.1.below hb4; have hr5 := hr4.1.below hb5; have hw5 := Lib.hid ((hwX.out.below hb4).below hb5); have hC5 := bl_own hb5 (bl_own hb4 hCX); obtain ⟨y0, y1, y2, y3, y4, y5⟩ := blk6 (bl_own hb5 (bl_own hb4 x0))))
            go_roundw
            case rel => exact ⟨p :: came, o, hr5.1, n5, hw5, hsk, hB8, hC5⟩
            case measure => rw [hr5.2, hr4.2, hrX.2]; exact hmes
          · have hsk := Lib.hid (str_put hstr.out (p := p) ⟨hne, by omega⟩)
            rw [decide_eq_false hs] at hmo
            obtain ⟨q, hq⟩ : ∃ q, weightC c (whoW c l v p) = q := ⟨_, rfl⟩
            simp only [hq] at hmo hwt
            clear hs hq
            go_wp2_with (first
              | (go_at_call 24; (with_reducible refine (hwt _ hB6 _ ku hRX).mono ?_); clear hwt; rintro e w4 ⟨rfl, hb4⟩; have hB7 := below_call hB6 hB6.size hb4)
              | (go_at_call 67; (with_reducible refine (hmo _).mono ?_); clear hmo; rintro e w5 ⟨rfl, hb5⟩; have hB8 := below_call hB7 hB7.size hb5; have n5 := MapIs_below (MapIs_below nX hb4) hb5; have hr4 := hrX.1.below hb4; have hr5 := hr4.1.below hb5; have hw5 := Lib.hid ((hwX.out.below hb4).below hb5); have hC5 := bl_own hb5 (bl_own hb4 hCX); obtain ⟨y0, y1, y2, y3, y4, y5⟩ := blk6 (bl_own hb5 (bl_own hb4 x0)))
              | (at_mapUpdate; refine wp_update (ev := Value.bool) rfl (.inl rfl) KeyW Try.underlying59 rfl (x := p) rfl (v := true) rfl n5 ?_; intro w6 n6 hg6 hz6))
            have hr6 := hr5.1.grown hg6 (fun e => by have e' := Option.some.inj e; omega) (fun e => by have e' := Option.some.inj e; omega)
            (try dsimp only [Act.put])
            go_roundw
            case rel => exact ⟨p :: came, mput o p true, hr6.1, n6, Lib.hid (hw5.out.grown hg6 n5), hsk, below_step hB8 hB8.size hg6 (fun q e => by cases e; omega), grown_own hg6 hC5 (fun e => by have e' := Option.some.inj e; omega)⟩
            case measure => rw [hr6.2, hr5.2, hr4.2, hrX.2]; exact hmes
end Go.Proofs.Ytdocgemfedohdaa
/-! A row of a call's own, of elements of some cells each, that the library's sort has laid anew. -/
namespace Go.Proofs.Ytdocgemfedohdaa
open Go.RowKit
section
variable {α : Type} [Inhabited α] {enc : α → List Value} {k : Nat}
theorem flatK_list (hk : ∀ x, (enc x).length = k) (hk0 : 0 < k) (d : Array α) : (Sort.flatK enc k d).toList = d.toList.flatMap enc := by
  have hl : (d.toList.flatMap enc).length = d.size * k := by rw [flatMap_len hk]; simp
  apply List.ext_getElem?
  intro t
  by_cases ht : t < d.size * k
  · have hq : t / k < d.size := Nat.div_lt_of_lt_mul (by rwa [Nat.mul_comm])
    have hr : t % k < k := Nat.mod_lt _ hk0
    have h1 : (Sort.flatK enc k d).toList[t]? = some ((enc d[t / k]!)[t % k]!) := by
      have hs : t < (Sort.flatK enc k d).size := by simpa using ht
      have := Sort.get_flatK enc k d t ht
      rw [getElem!_pos _ t hs] at this
      rw [Array.getElem?_toList, Array.getElem?_eq_getElem hs, this]
    have hge : d.toList[t / k]? = some d[t / k]! := by simp [hq]
    have hlen : t % k < (enc d[t / k]!).length := by rw [hk]; exact hr
    have h2 := flatMap_get hk d.toList (t / k) _ hge (t % k) _ (List.getElem?_eq_getElem hlen)
    have hd : t / k * k + t % k = t := by rw [Nat.mul_comm]; exact Nat.div_add_mod t k
    rw [hd] at h2
    rw [h1, h2, getElem!_pos (enc d[t / k]!) (t % k) hlen]
  · rw [List.getElem?_eq_none (by simp; omega), List.getElem?_eq_none (by rw [hl]; omega)]
theorem Own.holdsK (hk : ∀ x, (enc x).length = k) (hk0 : 0 < k) {w : World} {e : TypeId} {g : Nat} {cur : Array Value} {l : List α} (hh : w.heap[g]? = some (.cells cur e (0, 0))) (ht : cur.toList.take (l.length * k) = l.flatMap enc) :
    Sort.HoldsK enc k w g 0 l.toArray := by
  intro j hj
  have hj' : j < l.length * k := by simpa using hj
  refine ⟨?_, by simp [World.frozen?, hh]⟩
  rw [Nat.zero_add, blk_cell hh j]
  have h1 := flatK_list hk hk0 l.toArray
  have h2 : (cur.toList.take (l.length * k))[j]? = (Sort.flatK enc k l.toArray).toList[j]? := by rw [ht, h1]
  rw [List.getElem?_take_of_lt hj'] at h2
  rw [getElem!_pos _ j hj]
  simp only [id]
  have h3 : (Sort.flatK enc k l.toArray).toList[j]? = some ((Sort.flatK enc k l.toArray)[j]) := by simp
  rw [h3] at h2
  simpa using h2
theorem rowK_heap {w : World} {g : Nat} {cur : Array Value} {e : TypeId} (hh : w.heap[g]? = some (.cells cur e (0, 0))) (F : Array Value) (n : Nat) (os : Array Obj) :
    (Sort.grow (Sort.putRow id (Sort.ahead w n) g 0 F) os).heap[g]? = some (.cells (Sort.putCells id 0 F cur) e (0, 0)) := by
  have hlt := lt_of_block hh
  rw [Sort.heap_grow_old _ _ (by simpa using hlt)]
  simp [Sort.putRow, Sort.mapBlock, Array.getElem?_modify, hh, Sort.onCells]
theorem rowK_other {w : World} {g j : Nat} (hj : j < w.heap.size) (hne : j ≠ g) (F : Array Value) (n : Nat) (os : Array Obj) :
    (Sort.grow (Sort.putRow id (Sort.ahead w n) g 0 F) os).heap[j]? = w.heap[j]? := by
  rw [Sort.heap_grow_old _ _ (by simpa using hj)]
  simp [Sort.putRow, Sort.mapBlock, Array.getElem?_modify, Ne.symm hne]
theorem putCellsK_take {cur : Array Value} {F : Array Value} (h : F.size ≤ cur.size) : (Sort.putCells id 0 F cur).toList.take F.size = F.toList := by
  apply List.ext_getElem?
  intro j
  rw [List.getElem?_take]
  by_cases hj : j < F.size
  · have hc : j < cur.size := by omega
    simp [Sort.putCells, hj, hc]
  · simp [hj]
theorem Own.relaidK (hk : ∀ x, (enc x).length = k) (hk0 : 0 < k) {w : World} {base : Nat} {e : TypeId} {g cap : Nat} {cur : Array Value} (hb : base ≤ g) (hh : w.heap[g]? = some (.cells cur e (0, 0))) (hm : cap ≤ maxLen) (hs : cur.size = cap * k) (d : Array α) (hd : d.size ≤ cap) (n : Nat) (os : Array Obj) :
    Own (sortWorldK enc k w g 0 n d os) base e k enc (.slice (some ⟨g, 0, none⟩) d.size cap) d.toList := by
  refine ⟨by rw [flatMap_len hk], .inr ⟨g, cap, _, by simp, hb, rowK_heap hh _ n os, by simpa using hd, hm, by simp [Sort.putCells, hs], ?_⟩⟩
  have hF : (Sort.flatK enc k d).size ≤ cur.size := by rw [Sort.size_flatK, hs]; exact Nat.mul_le_mul_right k hd
  have ht := putCellsK_take hF
  rw [Sort.size_flatK] at ht
  rw [← flatK_list hk hk0, ← ht]
  simp
theorem grownBy_rowK {w : World} {g : Nat} (d : Array α) (n : Nat) (os : Array Obj) : w.grownBy (sortWorldK enc k w g 0 n d os) (some g) :=
  ⟨rfl, rfl, rfl, by unfold sortWorldK Sort.putRowK; simp, fun j hj hne => rowK_other hj (fun e => hne (by rw [e])) _ n os⟩
theorem permIn_whole {d d' : Array α} (h : Sort.PermIn 0 d.size d d') : d'.toList.Perm d.toList := by
  obtain ⟨h1, _, h3⟩ := h
  have e1 : (d'.extract 0 d.size) = d' := by rw [← h1]; simp
  have e2 : (d.extract 0 d.size) = d := by simp
  rw [e1, e2] at h3
  exact h3
theorem sortedIn_pairwise {lt : α → α → Bool} {d : Array α} {n : Nat} (hn : d.size = n) (h : Sort.SortedIn lt 0 n d) : d.toList.Pairwise (fun x y => lt y x = false) := by
  rw [List.pairwise_iff_getElem]
  intro i j hi hj hij
  have hi' : i < d.size := by simpa using hi
  have hj' : j < d.size := by simpa using hj
  have := h i j (Nat.zero_le _) hij (by omega)
  rw [getElem!_pos d i hi', getElem!_pos d j hj'] at this
  simpa using this
end
end Go.Proofs.Ytdocgemfedohdaa
