/- GH: several texts in one. -/
import Derived.Test.YtdocgemfedohdaaGreatGA
import Derived.Test.YtdocgemfedohdaaGreatGF
import Derived.Test.YtdocgemfedohdaaGreatGG
import Derived.Test.YtdocgemfedohdaaGreatShelf
import Derived.Conc.MuLone
import Derived.Defers
import Derived.Laws.Pointers
import Derived.Laws.LoneSync
import Derived.RegionTactic
import Derived.RegionCalls
import Derived.ChangeAlike
import Derived.Laws.BitsAllLaws
import Derived.StillTail
/-! Comparisons of IDs and of items, walked. -/
namespace Go.Proofs.YtdocgemfedohdaaGreat
open Go.RowKit
def cmpU (x y : Int) : Int := if x < y then -1 else if y < x then 1 else 0
set_option maxRecDepth 100000 in
set_option maxHeartbeats 1000000 in
theorem isnanU_any (x : Int) (w : World) : Calls Tryz.prog 77 #[.int .u64 x] w fun e w' => e = .returned (.bool false) ∧ Below w.heap.size w w' := by
  have hB := Below.refl w.heap.size w
  go_enter Tryz.func77, Tryz.ntmps77
  go_wp2_with fail
  go_ret
  exact ⟨ret_bool (by simp), hB⟩
set_option maxRecDepth 100000 in
set_option maxHeartbeats 1000000 in
theorem cmpu_any (x y : Int) (w : World) : Calls Tryz.prog 69 #[.int .u64 x, .int .u64 y] w fun e w' => e = .returned (.int .i64 (cmpU x y)) ∧ Below w.heap.size w w' := by
  have hx := fun V => isnanU_any x V
  have hy := fun V => isnanU_any y V
  go_enter Tryz.func69, Tryz.ntmps69
  go_wp2_with (first
    | (go_at_call 77; with_reducible refine (hx _).mono ?_; clear hx; rintro e w1 ⟨rfl, hb1⟩)
    | (go_at_call 77; with_reducible refine (hy _).mono ?_; clear hy; rintro e w2 ⟨rfl, hb2⟩; have hB := below_call hb1 hb1.size hb2))
  all_goals
    go_ret
    refine ⟨?_, hB⟩
    unfold cmpU
    (first | rw [if_pos (by omega)] | rw [if_neg (by omega), if_pos (by omega)] | rw [if_neg (by omega), if_neg (by omega)])
    try rfl
def cmpID (x y : ID) : Int := if cmpU x.hi y.hi = 0 then cmpU x.lo y.lo else cmpU x.hi y.hi
theorem cmpID_less (x y : ID) : decide (cmpID x y < 0) = idLess x y := by
  unfold cmpID cmpU idLess
  rw [Bool.eq_iff_iff]
  simp only [Bool.or_eq_true, Bool.and_eq_true, decide_eq_true_eq]
  split <;> split <;> (try split) <;> (try split) <;> omega
theorem at0 {w : World} {A : Option Addr} {x y : Int} (h : Rd 1 encU w A [x, y]) : ∃ b o, A = some ⟨b, o, none⟩ ∧ b < w.heap.size ∧ w.cell? ⟨b, o, none⟩ = some (.int .u64 x) ∧ w.cell? ⟨b, o + 1, none⟩ = some (.int .u64 y) := by
  obtain ⟨b, o, hA, hb, d0⟩ := h.atU (i := 0) (by simp)
  obtain ⟨b', o', hA', _, d1⟩ := h.atU (i := 1) (by simp)
  rw [hA] at hA'
  cases hA'
  exact ⟨b, o, hA, hb, d0, d1⟩
set_option maxRecDepth 100000 in
set_option maxHeartbeats 1000000 in
theorem scmp_any (x y : ID) (A B : Option Addr) (c d : Nat) (w : World) (hA : Rd 1 encU w A [x.hi, x.lo]) (hB : Rd 1 encU w B [y.hi, y.lo]) :
    Calls Tryz.prog 59 #[.slice A 2 c, .slice B 2 d] w fun e w' => e = .returned (.int .i64 (cmpID x y)) ∧ Below w.heap.size w w' := by
  have h0 := fun V => cmpu_any x.hi y.hi V
  have h1 := fun V => cmpu_any x.lo y.lo V
  have hq : ∃ q, cmpID x y = q := ⟨_, rfl⟩
  obtain ⟨q, hq⟩ := hq
  rw [hq]
  unfold cmpID at hq
  obtain ⟨m, hm⟩ : ∃ m, cmpU x.hi y.hi = m := ⟨_, rfl⟩
  obtain ⟨n, hn⟩ : ∃ n, cmpU x.lo y.lo = n := ⟨_, rfl⟩
  rw [hm] at h0 hq
  rw [hn] at h1 hq
  clear hm hn
  have hq' := Lib.hid hq
  clear hq
  go_enter Tryz.func59, Tryz.ntmps59
  go_wp2_with fail
  go_loopw [5, 6, 7, 8, 11] (fun x5 x6 x7 x8 i wr => ∃ k : Nat, k ≤ 2 ∧ i = .int .i64 k ∧ (1 ≤ k → m = 0) ∧ (k = 2 → n = 0) ∧ Below w.heap.size w wr) (fun _ _ _ _ i _ => 2 - (intOf i).toNat)
  case atStart => exact ⟨0, by omega, rfl, by omega, by omega, Below.refl _ _⟩
  case round =>
    obtain ⟨k, hk, rfl, hm0, hn0, hW⟩ := hrel
    obtain ⟨b, o, rfl, hb, c0, c1⟩ := at0 (hA.below hW)
    obtain ⟨b', o', rfl, hb', d0, d1⟩ := at0 (hB.below hW)
    rcases (show k = 0 ∨ k = 1 ∨ k = 2 by omega) with rfl | rfl | rfl
    · by_cases hz : m = 0
      · clear hm0 hn0
        go_wp2_with (go_at_call 69; with_reducible refine (h0 _).mono ?_; clear h0; rintro e w1 ⟨rfl, hb1⟩; have hB1 := below_call hW hW.size hb1)
        go_roundw
        case rel => exact ⟨1, by omega, rfl, fun _ => hz, by omega, hB1⟩
        case measure => simp [intOf]
      · clear hm0 hn0
        go_wp2_with (go_at_call 69; with_reducible refine (h0 _).mono ?_; clear h0; rintro e w1 ⟨rfl, hb1⟩; have hB1 := below_call hW hW.size hb1)
        go_ret
        exact ⟨ret_int (by rw [← hq'.out, if_neg hz]), hB1⟩
    · have hz := hm0 (Nat.le_refl _)
      by_cases hy : n = 0
      · clear hm0 hn0
        go_wp2_with (go_at_call 69; with_reducible refine (h1 _).mono ?_; clear h1; rintro e w1 ⟨rfl, hb1⟩; have hB1 := below_call hW hW.size hb1)
        go_roundw
        case rel => exact ⟨2, by omega, rfl, fun _ => hz, fun _ => hy, hB1⟩
        case measure => simp [intOf]
      · clear hm0 hn0
        go_wp2_with (go_at_call 69; with_reducible refine (h1 _).mono ?_; clear h1; rintro e w1 ⟨rfl, hb1⟩; have hB1 := below_call hW hW.size hb1)
        go_ret
        exact ⟨ret_int (by rw [← hq'.out, if_pos hz]), hB1⟩
    · have hz := hm0 (by omega)
      have hy := hn0 rfl
      clear hm0 hn0
      go_wp2_with fail
      go_ret
      exact ⟨ret_int (by rw [← hq'.out, if_pos hz, hy]), hW⟩
theorem rless_dec (x y : ID) : idLess x y = decide (x.hi < y.hi ∨ x.hi = y.hi ∧ x.lo < y.lo) := by
  unfold idLess
  rw [Bool.eq_iff_iff]
  simp
end Go.Proofs.YtdocgemfedohdaaGreat
/-! Products, and which is more, walked. -/
namespace Go.Proofs.YtdocgemfedohdaaGreat
open Go.RowKit
def wHi (a b : Int) : Int := a * b / 18446744073709551616
def wLo (a b : Int) : Int := a * b % 18446744073709551616
set_option maxRecDepth 100000 in
set_option maxHeartbeats 1000000 in
theorem times_any (a b : Int) (w : World) (ha : NumOk a) (hb : NumOk b) :
    Calls Tryz.prog 58 #[.int .i64 a, .int .i64 b] w fun e w' => e = .returned (.agg #[.int .u64 (wHi a b), .int .u64 (wLo a b)]) ∧ Below w.heap.size w w' := by
  obtain ⟨ha1, ha2⟩ := ha
  obtain ⟨hb1, hb2⟩ := hb
  have k1 := wrapU_id (x := a) ha1 (by omega)
  have k2 := wrapU_id (x := b) hb1 (by omega)
  have hmul := fun V => sh_bits_Mul64 a.toNat b.toNat (by omega) (by omega) V
  have e1 : (a.toNat : Int) = a := by omega
  have e2 : (b.toNat : Int) = b := by omega
  have e3 : ((a.toNat * b.toNat / 18446744073709551616 : Nat) : Int) = wHi a b := by unfold wHi; rw [Int.natCast_ediv, Int.natCast_mul, e1, e2]; rfl
  have e4 : ((a.toNat * b.toNat % 18446744073709551616 : Nat) : Int) = wLo a b := by unfold wLo; rw [Int.natCast_emod, Int.natCast_mul, e1, e2]; rfl
  rw [e3, e4, e1, e2] at hmul
  clear e3 e4 e1 e2
  generalize wHi a b = hi at hmul ⊢
  generalize wLo a b = lo at hmul ⊢
  go_enter Tryz.func58, Tryz.ntmps58
  go_wp2_with (go_at_call 68; (with_reducible refine (hmul _).mono ?_); rintro e w' ⟨rfl, hw⟩; subst hw)
  have b0 : (w.alloc (.cells #[.int .u64 hi, .int .u64 lo] 129)).heap[w.heap.size]? = some (.cells #[.int .u64 hi, .int .u64 lo] 129 (0, 0)) := ha_at rfl
  obtain ⟨m0, m1, _, _⟩ := blk2 b0
  refine bodyPost_ret (v := .agg #[.int .u64 hi, .int .u64 lo]) ?_ rfl ⟨rfl, ?_⟩
  · simp [results, Tryz.results58, go_sem, m0, m1]
  · exact (Below.refl _ w).alloc (Nat.le_refl _) _
theorem eqlIn_w (d : Nat) (x y : ID) (w : World) : (Op.equalIn (d + 2) 129 (idv x) (idv y)).run Tryz.prog w = .ok (decide (x = y)) w := by
  have u := Tryz.underlying129
  have z := Tryz.sizeOf23
  have u3 := Tryz.underlying23
  have p := fun cs off v h w => part_int (P := Tryz.prog) u3 cs off v h w
  unfold idv Op.equalIn
  simp only [Sem.run_bind, run_underlying u, Result.andThen_ok, z]
  simp [List.range', List.forIn_cons, p, run_equalIn_int _ _ _ _ _ _ _ u3]
  obtain ⟨x1, x2⟩ := x
  obtain ⟨y1, y2⟩ := y
  by_cases h1 : x1 = y1 <;> by_cases h2 : x2 = y2 <;> simp [h1, h2]
theorem neq_w (x y : ID) (w : World) : (binOp .neq 129 (.agg #[.int .u64 x.hi, .int .u64 x.lo]) (.agg #[.int .u64 y.hi, .int .u64 y.lo])).run Tryz.prog w = .ok (.bool (!decide (x = y))) w := by
  have h := eqlIn_w 9998 x y w
  unfold idv at *
  rw [run_neq_struct, h]
  rfl
theorem more_words {a b c d : Int} (ha : NumOk a ∧ NumOk b ∧ NumOk c ∧ NumOk d) : moreB a b c d = decide (cmpID ⟨wHi a b, wLo a b⟩ ⟨wHi c d, wLo c d⟩ > 0) := by
  unfold moreB cmpID cmpU wHi wLo
  generalize a * b = x
  generalize c * d = y
  rw [Bool.eq_iff_iff]
  simp only [decide_eq_true_eq]
  constructor
  · rintro ⟨_, h⟩
    repeat' split
    all_goals omega
  · intro h
    refine ⟨ha, ?_⟩
    revert h
    repeat' split
    all_goals omega
theorem cmpID_self (x : ID) : cmpID x x = 0 := by simp [cmpID, cmpU]
set_option maxRecDepth 100000 in
set_option maxHeartbeats 4000000 in
theorem more_any (a b c d : Int) (w : World) :
    Calls Tryz.prog 45 #[.int .i64 a, .int .i64 b, .int .i64 c, .int .i64 d] w fun e w' => e = .returned (.bool (moreB a b c d)) ∧ Below w.heap.size w w' := by
  obtain ⟨W, hW⟩ : ∃ W, w.alloc (.cells #[.int .i64 a, .int .i64 b, .int .i64 c, .int .i64 d] 3) = W := ⟨_, rfl⟩
  have hB : Below w.heap.size w W := by subst hW; exact (Below.refl _ w).alloc (Nat.le_refl _) _
  have hR : Rd 1 encI W (some ⟨w.heap.size, 0, none⟩) [a, b, c, d] := by subst hW; exact Rd_flat encI_len (by simp) (ha_at rfl) rfl
  have hf := rtfine_any [a, b, c, d] (some ⟨w.heap.size, 0, none⟩) 4 W hR
  have hd : decide (∀ x ∈ [a, b, c, d], NumOk x) = decide (NumOk a ∧ NumOk b ∧ NumOk c ∧ NumOk d) := by simp
  rw [hd] at hf
  simp only [List.length_cons, List.length_nil, Nat.zero_add, Nat.reduceAdd] at hf
  clear hd
  by_cases h : NumOk a ∧ NumOk b ∧ NumOk c ∧ NumOk d
  · rw [decide_eq_true h] at hf
    have hres := more_words h
    obtain ⟨ha, hb, hc, hd⟩ := h
    have h1 := fun V => times_any a b V ha hb
    have h2 := fun V => times_any c d V hc hd
    obtain ⟨p, hp⟩ : ∃ p : ID, (⟨wHi a b, wLo a b⟩ : ID) = p := ⟨_, rfl⟩
    obtain ⟨q, hq⟩ : ∃ q : ID, (⟨wHi c d, wLo c d⟩ : ID) = q := ⟨_, rfl⟩
    have hp1 : wHi a b = p.hi := by rw [← hp]
    have hp2 : wLo a b = p.lo := by rw [← hp]
    have hq1 : wHi c d = q.hi := by rw [← hq]
    have hq2 : wLo c d = q.lo := by rw [← hq]
    rw [hp1, hp2] at h1
    rw [hq1, hq2] at h2
    rw [hp, hq] at hres
    clear hp hq hp1 hp2 hq1 hq2 ha hb hc hd
    have hres' := Lib.hid hres
    clear hres
    have hs := fun V A B k k' hA hB => scmp_any p q A B k k' V hA hB
    go_enter Tryz.func45, Tryz.ntmps45
    go_wp2_with (first
      | (go_at_call 57; (with_reducible refine hf.mono ?_); clear hf; rintro e w' ⟨rfl, hw⟩; subst hw)
      | (go_at_call 58; (with_reducible refine (h1 _).mono ?_); clear h1; rintro e w1 ⟨rfl, hb1⟩; have hB1 := below_call hB hB.size hb1)
      | (go_at_call 58; (with_reducible refine (h2 _).mono ?_); clear h2; rintro e w2 ⟨rfl, hb2⟩; have hB2 := below_call hB1 hB1.size hb2))
    have hV : ∃ V, ((w2.alloc (.cells #[.int .u64 p.hi, .int .u64 p.lo] 129)).alloc (.cells #[.int .u64 q.hi, .int .u64 q.lo] 129)) = V := ⟨_, rfl⟩
    obtain ⟨V, hV⟩ := hV
    have hBV : Below w.heap.size w V := by subst hV; exact (hB2.alloc hB2.size _).alloc (by have := hB2.size; simp; omega) _
    have b0 : V.heap[w2.heap.size]? = some (.cells #[.int .u64 p.hi, .int .u64 p.lo] 129 (0, 0)) := by subst hV; exact ha_lt (ha_at rfl)
    have b1 : V.heap[w2.heap.size + 1]? = some (.cells #[.int .u64 q.hi, .int .u64 q.lo] 129 (0, 0)) := by subst hV; exact ha_at (by simp)
    have hR0 : Rd 1 encU V (some ⟨w2.heap.size, 0, none⟩) [p.hi, p.lo] := Rd_blk (by simp) b0 (fun i z hz j u hu => by
      rcases i with _ | _ | i <;> rcases j with _ | j <;> simp [encU] at hz hu <;> subst hz <;> simpa using hu)
    have hR1 : Rd 1 encU V (some ⟨w2.heap.size + 1, 0, none⟩) [q.hi, q.lo] := Rd_blk (by simp) b1 (fun i z hz j u hu => by
      rcases i with _ | _ | i <;> rcases j with _ | j <;> simp [encU] at hz hu <;> subst hz <;> simpa using hu)
    have h3 := fun g k k' => hs (gr V g) _ _ k k' (hR0.below (gr_below V g)) (hR1.below (gr_below V g))
    have hBg : ∀ g, Below w.heap.size w (gr V g) := fun g => hBV.trans ((gr_below _ _).mono hBV.size)
    obtain ⟨c0, c1, _, _⟩ := blk2 b0
    obtain ⟨d0, d1, _, _⟩ := blk2 b1
    have g0 := gr_cell c0
    have g1 := gr_cell c1
    have g2 := gr_cell d0
    have g3 := gr_cell d1
    have hne := neq_w p q
    rw [hV]
    clear hs hR0 hR1 hV b0 b1 hb1 hb2 hB1 hB2 hR hW hB c0 c1 d0 d1
    by_cases he : p = q
    · have hz := Lib.hid (hres'.out.trans (show decide (cmpID p q > 0) = false by simp [he, cmpID_self]))
      have hn : (!decide (p = q)) = false := by simpa using he
      rw [hn] at hne
      clear hn he h3
      refine wp_region_gr (by kernel_rfl) (by kernel_rfl) ?_
      repeat (go_big_quiet_step (fail))
      refine wpQuiet_nil ?_
      rintro _ ⟨pq, rfl⟩
      go_wp2
      go_ret
      exact ⟨ret_bool hz.out.symm, hBg _⟩
    · have hn : (!decide (p = q)) = true := by simpa using he
      rw [hn] at hne
      obtain ⟨r, hr⟩ : ∃ r, cmpID p q = r := ⟨_, rfl⟩
      rw [hr] at h3 hres'
      clear hn he hr
      refine wp_region_gr (by kernel_rfl) (by kernel_rfl) ?_
      repeat (go_big_quiet_step ((go_at_call 59; with_reducible exact Calls.gr_of (h3 _ _ _))))
      refine wpQuiet_nil ?_
      rintro _ ⟨pq, rfl⟩
      go_wp2
      go_ret
      exact ⟨ret_bool hres'.out.symm, hBg _⟩
  · rw [decide_eq_false h] at hf
    have hres : moreB a b c d = false := by unfold moreB; exact decide_eq_false fun e => h e.1
    rw [hres]
    clear hres h
    go_enter Tryz.func45, Tryz.ntmps45
    go_wp2_with (go_at_call 57; (with_reducible refine hf.mono ?_); clear hf; rintro e w' ⟨rfl, hw⟩; subst hw)
    go_ret
    exact ⟨rfl, hB⟩
end Go.Proofs.YtdocgemfedohdaaGreat
/-! Shuffles: sync's parts. -/
namespace Go.Proofs.YtdocgemfedohdaaGreat
open Go.RowKit
abbrev muLink : Go.Conc.Locks.MuLink := { lock := 97, unlock := 98, ilock := 101, iunlock := 102, lockSlow := 109, unlockSlow := 112, disable := 105, enable := 107, acquire := 108, relMerge := 110, cas32 := 106, add32 := 111, tMutex := 91, tIMutex := 89, tPMutex := 171, tPIMutex := 174, tPI32 := 176, tUP := 178, tNoCopy := 83, tU32 := 85 }
theorem muLib : Go.Conc.Locks.MuLib Tryz.prog muLink where
  f_lock := Tryz.func97
  f_unlock := Tryz.func98
  f_ilock := Tryz.func101
  f_iunlock := Tryz.func102
  f_disable := Tryz.func105
  f_enable := Tryz.func107
  f_acquire := Tryz.func108
  f_relMerge := Tryz.func110
  f_cas32 := Tryz.func106
  f_add32 := Tryz.func111
  underlying_tIMutex := Tryz.underlying89
  runUnderlying_tIMutex := Tryz.runUnderlying89
  sizeOf_tIMutex := Tryz.sizeOf89
  isAgg_tIMutex := Tryz.isAgg89
  zeroValue_tIMutex := Tryz.zeroValue89
  underlying_tMutex := Tryz.underlying91
  runUnderlying_tMutex := Tryz.runUnderlying91
  sizeOf_tMutex := Tryz.sizeOf91
  isAgg_tMutex := Tryz.isAgg91
  zeroValue_tMutex := Tryz.zeroValue91
  underlying_tPMutex := Tryz.underlying171
  runUnderlying_tPMutex := Tryz.runUnderlying171
  sizeOf_tPMutex := Tryz.sizeOf171
  isAgg_tPMutex := Tryz.isAgg171
  zeroValue_tPMutex := Tryz.zeroValue171
  underlying_tPIMutex := Tryz.underlying174
  runUnderlying_tPIMutex := Tryz.runUnderlying174
  sizeOf_tPIMutex := Tryz.sizeOf174
  isAgg_tPIMutex := Tryz.isAgg174
  zeroValue_tPIMutex := Tryz.zeroValue174
  underlying_tPI32 := Tryz.underlying176
  runUnderlying_tPI32 := Tryz.runUnderlying176
  sizeOf_tPI32 := Tryz.sizeOf176
  isAgg_tPI32 := Tryz.isAgg176
  zeroValue_tPI32 := Tryz.zeroValue176
  underlying_tUP := Tryz.underlying178
  runUnderlying_tUP := Tryz.runUnderlying178
  sizeOf_tUP := Tryz.sizeOf178
  isAgg_tUP := Tryz.isAgg178
  zeroValue_tUP := Tryz.zeroValue178
  underlying_tNoCopy := Tryz.underlying83
  runUnderlying_tNoCopy := Tryz.runUnderlying83
  sizeOf_tNoCopy := Tryz.sizeOf83
  isAgg_tNoCopy := Tryz.isAgg83
  zeroValue_tNoCopy := Tryz.zeroValue83
  underlying_t21 := Tryz.underlying21
  runUnderlying_t21 := Tryz.runUnderlying21
  sizeOf_t21 := Tryz.sizeOf21
  isAgg_t21 := Tryz.isAgg21
  zeroValue_t21 := Tryz.zeroValue21
  room_tIMutex := by kernel_rfl
theorem bstore_deferred (a : Addr) (x : Value) (u : FrameMode) (w : World) (hc : w.cell? a = some x) (hz : w.frozen? a = false) :
    CallsD Tryz.prog 99 #[.pointer (some a), .bool true] u w fun e u' w' => u' = u ∧ (e = .returned (.tuple #[]) ∧ w' = w.drew.setCell a (.int .u32 1)) := by
  have hc' : w.drew.cell? a = some x := by go_simp
  have hz' : w.drew.frozen? a = false := by go_simp
  have hst := run_call_store (P := Tryz.prog) Tryz.func103 (by kernel_rfl) (by kernel_rfl) (by kernel_rfl) (by kernel_rfl) (k := .u32) (y := 1) hc' hz'
  go_enter_d Tryz.func99, Tryz.ntmps99
  go_wp2
  go_region_calls
  all_goals (go_end0; exact ⟨rfl, rfl⟩)
theorem bload_any (a : Addr) (d : Int) (w : World) (h0 : w.cell? a = some (.int .u32 d)) :
    Calls Tryz.prog 88 #[.pointer (some a)] w fun e w' => e = .returned (.bool (d != 0)) ∧ w' = w := by
  have hl := run_call_load (P := Tryz.prog) Tryz.func96 (by kernel_rfl) (by kernel_rfl) (by kernel_rfl) .u32 (by kernel_rfl) h0
  go_enter Tryz.func88, Tryz.ntmps88
  go_wp2
  go_ret
  exact ⟨rfl, rfl⟩
theorem iadd_any (a : Addr) (x : Int) (w : World) (hc : w.cell? a = some (.int .i64 x)) (hz : w.frozen? a = false) :
    Calls Tryz.prog 75 #[.pointer (some a), .int .i64 1] w fun e w' => e = .returned (.int .i64 (wrap64 (x + 1))) ∧ w' = w.setCell a (.int .i64 (wrap64 (x + 1))) := by
  have hadd := run_call_add (P := Tryz.prog) Tryz.func90 (by kernel_rfl) (by kernel_rfl) (by kernel_rfl) .i64 (by kernel_rfl) (y := 1) (s := wrap64 (x + 1)) hc hz (by simp [go_sem]; rw [IntKind.wrap_i64]; unfold wrap64; rfl)
  go_enter Tryz.func75, Tryz.ntmps75
  go_wp2
  go_ret
  exact ⟨rfl, rfl⟩
theorem iload_any (a : Addr) (x : Int) (w : World) (h0 : w.cell? a = some (.int .i64 x)) :
    Calls Tryz.prog 38 #[.pointer (some a)] w fun e w' => e = .returned (.int .i64 x) ∧ w' = w := by
  have hl := run_call_load (P := Tryz.prog) Tryz.func53 (by kernel_rfl) (by kernel_rfl) (by kernel_rfl) .i64 (by kernel_rfl) h0
  go_enter Tryz.func38, Tryz.ntmps38
  go_wp2
  go_ret
  exact ⟨rfl, rfl⟩
end Go.Proofs.YtdocgemfedohdaaGreat
/-! Shuffles: a round that is worked out when it is first asked for. -/
namespace Go.Proofs.YtdocgemfedohdaaGreat
open Go.RowKit
theorem u64_id {x : Int} (h0 : 0 ≤ x) (h1 : x < 18446744073709551616) : IntKind.u64.wrap x = x := by
  have : IntKind.u64.wrap x = x % 18446744073709551616 := by simp [IntKind.wrap, IntKind.bits, IntKind.signed]
  omega
theorem u64_nat (x : Int) : ∃ n : Nat, n < 18446744073709551616 ∧ IntKind.u64.wrap x = n := by
  have h : IntKind.u64.wrap x = x % 18446744073709551616 := by simp [IntKind.wrap, IntKind.bits, IntKind.signed]
  exact ⟨(x % 18446744073709551616).toNat, by omega, by omega⟩
theorem mixWord_nat (a : Int) : ∃ n : Nat, n < 18446744073709551616 ∧ mixWord a = n := by
  unfold mixWord
  dsimp only
  generalize IntKind.u64.wrap (bits BinOp.xor IntKind.u64 a (a / 1073741824) * 13787848793156543929) = x
  obtain ⟨y, hy, e⟩ := u64_nat (bits BinOp.xor IntKind.u64 x (x / 134217728) * 10723151780598845931)
  rw [e]
  have h2 : (y : Int) / 2147483648 = ((y / 2147483648 : Nat) : Int) := by omega
  rw [h2, u64_xor_nat _ _ hy (by omega)]
  exact ⟨_, Nat.xor_lt_two_pow (n := 64) hy (by omega), rfl⟩
theorem mixStep_nn (h x : Int) : 0 ≤ mixStep h x := by
  obtain ⟨n, _, e⟩ := mixWord_nat (IntKind.u64.wrap (bits BinOp.xor IntKind.u64 h x + 11400714819323198485))
  unfold mixStep
  rw [e]
  omega
theorem w64_id {x : Int} (h0 : 0 ≤ x) (h1 : x < 9223372036854775808) : wrap64 x = x := by
  unfold wrap64; omega
set_option maxRecDepth 100000 in
set_option maxHeartbeats 1600000 in
theorem get1_any (B D R X : Nat) (off : Nat) (r seed n : Int) (x3 x4 : Value) (w : World) (hr0 : 0 ≤ r) (hr1 : r < 10) (hn0 : 0 < n) (hn1 : n ≤ 1000)
    (hD : w.cell? ⟨D, 0, none⟩ = some (.pointer (some ⟨B, 0, none⟩))) (hR : w.cell? ⟨R, 0, none⟩ = some (.int .i64 r)) (hX : w.cell? ⟨X, 0, none⟩ = some (.pointer (some ⟨B, off, none⟩)))
    (h0 : w.cell? ⟨B, 0, none⟩ = some (.int .u64 seed)) (h1 : w.cell? ⟨B, 1, none⟩ = some (.int .i64 n))
    (h3 : w.cell? ⟨B, off + 3, none⟩ = some x3) (h4 : w.cell? ⟨B, off + 4, none⟩ = some x4) (f3 : w.frozen? ⟨B, off + 3, none⟩ = false) (f4 : w.frozen? ⟨B, off + 4, none⟩ = false)
    (_ : D ≠ B) (_ : R ≠ B) (_ : X ≠ B) (hoff : 2 ≤ off) :
    Calls Tryz.prog 74 #[.pointer (some ⟨D, 0, none⟩), .pointer (some ⟨R, 0, none⟩), .pointer (some ⟨X, 0, none⟩)] w fun e w' => e = .returned (.tuple #[]) ∧
      ∃ k, w' = ((w.setCell ⟨B, off + 3, none⟩ (.int .i64 (mixStep seed r % n))).setCell ⟨B, off + 4, none⟩ (.int .u64 (mixStep seed (1000 + r)))).drewN k := by
  have hwr : IntKind.u64.wrap r = r := u64_id hr0 (by omega)
  have hwn : IntKind.u64.wrap n = n := u64_id (by omega) (by omega)
  have hw3 : IntKind.u64.wrap (1000 + r) = 1000 + r := u64_id (by omega) (by omega)
  have hw4 : wrap64 (1000 + r) = 1000 + r := w64_id (by omega) (by omega)
  have hne : ¬ n = 0 := by omega
  have hm0 : 0 ≤ mixStep seed r := mixStep_nn seed r
  obtain ⟨pv, hpv⟩ : ∃ pv, mixStep seed r % n = pv := ⟨_, rfl⟩
  have hlo := Int.emod_nonneg (mixStep seed r) hne
  have hhi := Int.emod_lt_of_pos (mixStep seed r) hn0
  have htm : (mixStep seed r).tmod n = mixStep seed r % n := Int.tmod_eq_emod_of_nonneg hm0
  rw [hpv] at hlo hhi htm ⊢
  have hwm : wrap64 pv = pv := w64_id hlo (by omega)
  have hwi : IntKind.i64.wrap pv = pv := by rw [IntKind.wrap_i64]; omega
  clear hlo hhi hm0 hpv
  have kD : (w.setCell ⟨B, off + 3, none⟩ (.int .i64 pv)).cell? ⟨D, 0, none⟩ = some (.pointer (some ⟨B, 0, none⟩)) := (World.cell?_setCell_other w _ _ _ (by simp)).trans hD
  have kR : (w.setCell ⟨B, off + 3, none⟩ (.int .i64 pv)).cell? ⟨R, 0, none⟩ = some (.int .i64 r) := (World.cell?_setCell_other w _ _ _ (by simp)).trans hR
  have kX : (w.setCell ⟨B, off + 3, none⟩ (.int .i64 pv)).cell? ⟨X, 0, none⟩ = some (.pointer (some ⟨B, off, none⟩)) := (World.cell?_setCell_other w _ _ _ (by simp)).trans hX
  have k0 : (w.setCell ⟨B, off + 3, none⟩ (.int .i64 pv)).cell? ⟨B, 0, none⟩ = some (.int .u64 seed) := (World.cell?_setCell_other w _ _ _ (by simp)).trans h0
  have k4 : (w.setCell ⟨B, off + 3, none⟩ (.int .i64 pv)).cell? ⟨B, off + 4, none⟩ = some x4 := (World.cell?_setCell_other w _ _ _ (by simp)).trans h4
  go_enter Tryz.func74, Tryz.ntmps74
  go_wp2_with fail
  refine wp_region_still_tail 17 (by kernel_rfl) (by kernel_rfl) ?_
  simp only [List.take_succ_cons, List.take_zero, List.drop_succ_cons, List.drop_zero]
  repeat (first | still_step | still_call (step_any _ _ _))
  refine wpStill_nil ?_
  change wpList _ _ _ _ _ w.drew
  go_wp2
  obtain ⟨W1, hW⟩ : ∃ W1, (w.setCell ⟨B, off + 3, none⟩ (.int .i64 pv)).drew = W1 := ⟨_, rfl⟩
  have jf : W1.frozen? ⟨B, off + 4, none⟩ = false := by rw [← hW]; simp [f4]
  replace kD : W1.cell? ⟨D, 0, none⟩ = some (.pointer (some ⟨B, 0, none⟩)) := by rw [← hW, World.cell?_drew]; exact kD
  replace kR : W1.cell? ⟨R, 0, none⟩ = some (.int .i64 r) := by rw [← hW, World.cell?_drew]; exact kR
  replace kX : W1.cell? ⟨X, 0, none⟩ = some (.pointer (some ⟨B, off, none⟩)) := by rw [← hW, World.cell?_drew]; exact kX
  replace k0 : W1.cell? ⟨B, 0, none⟩ = some (.int .u64 seed) := by rw [← hW, World.cell?_drew]; exact k0
  replace k4 : W1.cell? ⟨B, off + 4, none⟩ = some x4 := by rw [← hW, World.cell?_drew]; exact k4
  rw [hW]
  replace hW := Lib.hid hW
  refine wp_region_still_tail 11 (by kernel_rfl) (by kernel_rfl) ?_
  simp only [List.take_succ_cons, List.take_zero, List.drop_succ_cons, List.drop_zero]
  repeat (first | still_step | still_call (step_any _ _ _))
  refine wpStill_nil ?_
  change wpList _ _ _ _ _ W1.drew
  go_wp2
  go_end0
  refine ⟨rfl, 2, ?_⟩
  rw [← (show (w.setCell ⟨B, off + 3, none⟩ (.int .i64 pv)).drew = W1 from hW)]
  rfl
end Go.Proofs.YtdocgemfedohdaaGreat
/-! Shuffles: sync.Once's roads. -/
namespace Go.Proofs.YtdocgemfedohdaaGreat
open Go.RowKit
theorem grown_setC (w : World) (a : Addr) (u : Value) : w.grownBy (w.setCell a u) (some a.block) :=
  ⟨rfl, rfl, rfl, by simp, fun k _ hk => heap_setCell_other w a k u (fun e => hk (by rw [e]))⟩
/-- A round that has been worked out; nothing else is otherwise. -/
def Patched (w w' : World) (B off : Nat) (pv sg : Value) : Prop :=
  w.grownBy w' (some B) ∧ (∀ j, w'.frozen? ⟨B, j, none⟩ = w.frozen? ⟨B, j, none⟩) ∧ ∀ j, w'.cell? ⟨B, j, none⟩ = if j = off then some (.int .u32 1) else if j = off + 3 then some pv else if j = off + 4 then some sg else w.cell? ⟨B, j, none⟩
theorem cell_set (w : World) (B i j : Nat) (v x : Value) (h : w.cell? ⟨B, i, none⟩ = some x) : (w.setCell ⟨B, i, none⟩ v).cell? ⟨B, j, none⟩ = if j = i then some v else w.cell? ⟨B, j, none⟩ := by
  by_cases e : j = i
  · rw [if_pos e, e]; exact World.cell?_setCell_same w _ _ h
  · rw [if_neg e]; exact World.cell?_setCell_other w _ _ _ (fun h => e (by cases h; rfl))
theorem patched_mk {w : World} {B off : Nat} {k : Nat} {pv sg x0 x3 x4 : Value} (h0 : w.cell? ⟨B, off, none⟩ = some x0) (h1 : w.cell? ⟨B, off + 1, none⟩ = some (.int .i32 0))
    (h3 : w.cell? ⟨B, off + 3, none⟩ = some x3) (h4 : w.cell? ⟨B, off + 4, none⟩ = some x4) :
    Patched w ((((((w.setCell ⟨B, off + 1, none⟩ (.int .i32 1)).setCell ⟨B, off + 3, none⟩ pv).setCell ⟨B, off + 4, none⟩ sg).drewN k).drew.setCell ⟨B, off, none⟩ (.int .u32 1)).setCell ⟨B, off + 1, none⟩ (.int .i32 0)) B off pv sg := by
  refine ⟨?_, fun j => ?_, fun j => ?_⟩
  · have g1 := grown_setC w ⟨B, off + 1, none⟩ (.int .i32 1)
    have g2 := g1.trans (grown_setC _ ⟨B, off + 3, none⟩ pv)
    have g3 := g2.trans (grown_setC _ ⟨B, off + 4, none⟩ sg)
    generalize ((w.setCell ⟨B, off + 1, none⟩ (.int .i32 1)).setCell ⟨B, off + 3, none⟩ pv).setCell ⟨B, off + 4, none⟩ sg = W at g3 ⊢
    have g4 : w.grownBy (W.drewN k).drew (some B) := ⟨g3.os, g3.tape, g3.output, g3.size, g3.block⟩
    exact (g4.trans (grown_setC _ ⟨B, off, none⟩ (.int .u32 1))).trans (grown_setC _ ⟨B, off + 1, none⟩ (.int .i32 0))
  · simp
  · have e1 := fun j => cell_set w B (off + 1) j (.int .i32 1) _ h1
    generalize w.setCell ⟨B, off + 1, none⟩ (.int .i32 1) = W1 at e1 ⊢
    have e3 := fun j => cell_set W1 B (off + 3) j pv x3 (by rw [e1, if_neg (by omega)]; exact h3)
    generalize W1.setCell ⟨B, off + 3, none⟩ pv = W3 at e3 ⊢
    have e4 := fun j => cell_set W3 B (off + 4) j sg x4 (by rw [e3, if_neg (by omega), e1, if_neg (by omega)]; exact h4)
    generalize W3.setCell ⟨B, off + 4, none⟩ sg = W4 at e4 ⊢
    have e5 : ∀ j, (W4.drewN k).drew.cell? ⟨B, j, none⟩ = W4.cell? ⟨B, j, none⟩ := fun _ => rfl
    generalize (W4.drewN k).drew = W5 at e5 ⊢
    have e6 := fun j => cell_set W5 B off j (.int .u32 1) x0 (by rw [e5, e4, if_neg (by omega), e3, if_neg (by omega), e1, if_neg (by omega)]; exact h0)
    generalize W5.setCell ⟨B, off, none⟩ (.int .u32 1) = W6 at e6 ⊢
    have e7 := cell_set W6 B (off + 1) j (.int .i32 0) (.int .i32 1) (by rw [e6, if_neg (by omega), e5, e4, if_neg (by omega), e3, if_neg (by omega), e1, if_pos rfl])
    rw [e7, e6, e5, e4, e3, e1]
    by_cases d0 : j = off
    · rw [if_neg (by omega), if_pos d0, if_pos d0]
    · by_cases d1 : j = off + 1
      · rw [if_pos d1, if_neg d0, if_neg (by omega), if_neg (by omega), d1, h1]
      · rw [if_neg d1, if_neg d0, if_neg d0]
        by_cases d3 : j = off + 3
        · rw [if_neg (by omega), if_pos d3, if_pos d3]
        · by_cases d4 : j = off + 4
          · rw [if_pos d4, if_neg d3, if_pos d4]
          · rw [if_neg d4, if_neg d3, if_neg d1, if_neg d3, if_neg d4]
set_option maxRecDepth 100000 in
set_option maxHeartbeats 1600000 in
theorem slow_any (B D R X : Nat) (off : Nat) (r seed n : Int) (x3 x4 : Value) (w : World) (hr0 : 0 ≤ r) (hr1 : r < 10) (hn0 : 0 < n) (hn1 : n ≤ 1000)
    (hD : w.cell? ⟨D, 0, none⟩ = some (.pointer (some ⟨B, 0, none⟩))) (hR : w.cell? ⟨R, 0, none⟩ = some (.int .i64 r)) (hX : w.cell? ⟨X, 0, none⟩ = some (.pointer (some ⟨B, off, none⟩)))
    (h0 : w.cell? ⟨B, 0, none⟩ = some (.int .u64 seed)) (h1 : w.cell? ⟨B, 1, none⟩ = some (.int .i64 n))
    (ho : w.cell? ⟨B, off, none⟩ = some (.int .u32 0)) (hs : w.cell? ⟨B, off + 1, none⟩ = some (.int .i32 0))
    (h3 : w.cell? ⟨B, off + 3, none⟩ = some x3) (h4 : w.cell? ⟨B, off + 4, none⟩ = some x4)
    (fo : w.frozen? ⟨B, off, none⟩ = false) (fs : w.frozen? ⟨B, off + 1, none⟩ = false) (f3 : w.frozen? ⟨B, off + 3, none⟩ = false) (f4 : w.frozen? ⟨B, off + 4, none⟩ = false)
    (hDB : D ≠ B) (hRB : R ≠ B) (hXB : X ≠ B) (hoff : 2 ≤ off) :
    Calls Tryz.prog 89 #[.pointer (some ⟨B, off, none⟩), .func (.func 74) #[] #[.pointer (some ⟨D, 0, none⟩), .pointer (some ⟨R, 0, none⟩), .pointer (some ⟨X, 0, none⟩)]] w fun e w' => e = .returned (.tuple #[]) ∧
      Patched w w' B off (.int .i64 (mixStep seed r % n)) (.int .u64 (mixStep seed (1000 + r))) := by
  have c1 : ∀ (b j : Nat) (x : Value), w.cell? ⟨b, j, none⟩ = some x → (b ≠ B ∨ j ≠ off + 1) → (w.setCell ⟨B, off + 1, none⟩ (.int .i32 1)).cell? ⟨b, j, none⟩ = some x := fun b j x h hne => by
    rw [← h]; exact World.cell?_setCell_other w _ _ _ (by simp; omega)
  have hl := bload_any ⟨B, off, none⟩ 0 (w.setCell ⟨B, off + 1, none⟩ (.int .i32 1)) (c1 _ _ _ ho (by omega))
  have hg := get1_any B D R X off r seed n x3 x4 (w.setCell ⟨B, off + 1, none⟩ (.int .i32 1)) hr0 hr1 hn0 hn1 (c1 _ _ _ hD (by omega)) (c1 _ _ _ hR (by omega)) (c1 _ _ _ hX (by omega)) (c1 _ _ _ h0 (by omega)) (c1 _ _ _ h1 (by omega)) (c1 _ _ _ h3 (by omega)) (c1 _ _ _ h4 (by omega)) (by simp [f3]) (by simp [f4]) hDB hRB hXB hoff
  have hnot : ∀ (x : Bool) (w : World), (Op.unary .not (.bool x)).run Tryz.prog w = .ok (.bool (!x)) w := fun _ _ => rfl
  go_enter_defers Tryz.func89, Tryz.ntmps89
  go_wp2_with (go_at_call 97; refine (Go.MuLone.lock_free muLib ⟨B, off + 1, none⟩ _ hs fs).mono ?_; rintro e w' ⟨rfl, rfl⟩)
  go_wp2_with (first | (go_at_call 88; refine hl.mono ?_; rintro e w' ⟨rfl, rfl⟩) | (go_at_call 74; refine hg.mono ?_; rintro e w' ⟨rfl, k, rfl⟩))
  have e1 := fun j => cell_set w B (off + 1) j (.int .i32 1) _ hs
  have e3 := fun j => cell_set (w.setCell ⟨B, off + 1, none⟩ (.int .i32 1)) B (off + 3) j (.int .i64 (mixStep seed r % n)) x3 (by rw [e1, if_neg (by omega)]; exact h3)
  have e4 := fun j => cell_set ((w.setCell ⟨B, off + 1, none⟩ (.int .i32 1)).setCell ⟨B, off + 3, none⟩ (.int .i64 (mixStep seed r % n))) B (off + 4) j (.int .u64 (mixStep seed (1000 + r))) x4 (by rw [e3, if_neg (by omega), e1, if_neg (by omega)]; exact h4)
  have hp := patched_mk (k := k) (pv := .int .i64 (mixStep seed r % n)) (sg := .int .u64 (mixStep seed (1000 + r))) ho hs h3 h4
  have fo' : ((((w.setCell ⟨B, off + 1, none⟩ (.int .i32 1)).setCell ⟨B, off + 3, none⟩ (.int .i64 (mixStep seed r % n))).setCell ⟨B, off + 4, none⟩ (.int .u64 (mixStep seed (1000 + r)))).drewN k).frozen? ⟨B, off, none⟩ = false := by simp [fo]
  have fs' : ((((w.setCell ⟨B, off + 1, none⟩ (.int .i32 1)).setCell ⟨B, off + 3, none⟩ (.int .i64 (mixStep seed r % n))).setCell ⟨B, off + 4, none⟩ (.int .u64 (mixStep seed (1000 + r)))).drewN k).frozen? ⟨B, off + 1, none⟩ = false := by simp [fs]
  have e5 : ∀ j, ((((w.setCell ⟨B, off + 1, none⟩ (.int .i32 1)).setCell ⟨B, off + 3, none⟩ (.int .i64 (mixStep seed r % n))).setCell ⟨B, off + 4, none⟩ (.int .u64 (mixStep seed (1000 + r)))).drewN k).cell? ⟨B, j, none⟩ = _ := fun j => e4 j
  have co := e5 off
  rw [if_neg (by omega), e3, if_neg (by omega), e1, if_neg (by omega), ho] at co
  have cs := e5 (off + 1)
  rw [if_neg (by omega), e3, if_neg (by omega), e1, if_pos rfl] at cs
  generalize (((w.setCell ⟨B, off + 1, none⟩ (.int .i32 1)).setCell ⟨B, off + 3, none⟩ (.int .i64 (mixStep seed r % n))).setCell ⟨B, off + 4, none⟩ (.int .u64 (mixStep seed (1000 + r)))).drewN k = W at co cs fo' fs' hp ⊢
  clear e1 e3 e4 e5 hg hl c1
  refine leaves_cons (f := 99) (args := #[.pointer (some ⟨B, off, none⟩), .bool true]) (by simp) (by simp [go_sem]) ?_
  refine (bstore_deferred ⟨B, off, none⟩ (.int .u32 0) .returning _ co fo').mono ?_
  rintro e u' w'' ⟨rfl, rfl, rfl⟩
  refine leaves_cons (f := 98) (args := #[.pointer (some ⟨B, off + 1, none⟩)]) (by simp [settle]) (by simp [go_sem]) ?_
  refine (Go.MuLone.unlock_deferred muLib ⟨B, off + 1, none⟩ _ _ ?_ (by simp [fs'])).mono ?_
  · exact (World.cell?_setCell_other _ ⟨B, off, none⟩ ⟨B, off + 1, none⟩ _ (by simp)).trans cs
  rintro e u' w'' ⟨rfl, rfl, rfl⟩
  refine ⟨_, results_none rfl _ _ _, rfl, hp⟩
set_option maxRecDepth 100000 in
set_option maxHeartbeats 1600000 in
theorem once_first (B D R X : Nat) (off : Nat) (r seed n : Int) (x3 x4 : Value) (w : World) (hr0 : 0 ≤ r) (hr1 : r < 10) (hn0 : 0 < n) (hn1 : n ≤ 1000)
    (hD : w.cell? ⟨D, 0, none⟩ = some (.pointer (some ⟨B, 0, none⟩))) (hR : w.cell? ⟨R, 0, none⟩ = some (.int .i64 r)) (hX : w.cell? ⟨X, 0, none⟩ = some (.pointer (some ⟨B, off, none⟩)))
    (h0 : w.cell? ⟨B, 0, none⟩ = some (.int .u64 seed)) (h1 : w.cell? ⟨B, 1, none⟩ = some (.int .i64 n))
    (ho : w.cell? ⟨B, off, none⟩ = some (.int .u32 0)) (hs : w.cell? ⟨B, off + 1, none⟩ = some (.int .i32 0))
    (h3 : w.cell? ⟨B, off + 3, none⟩ = some x3) (h4 : w.cell? ⟨B, off + 4, none⟩ = some x4)
    (fo : w.frozen? ⟨B, off, none⟩ = false) (fs : w.frozen? ⟨B, off + 1, none⟩ = false) (f3 : w.frozen? ⟨B, off + 3, none⟩ = false) (f4 : w.frozen? ⟨B, off + 4, none⟩ = false)
    (hDB : D ≠ B) (hRB : R ≠ B) (hXB : X ≠ B) (hoff : 2 ≤ off) :
    Calls Tryz.prog 73 #[.pointer (some ⟨B, off, none⟩), .func (.func 74) #[] #[.pointer (some ⟨D, 0, none⟩), .pointer (some ⟨R, 0, none⟩), .pointer (some ⟨X, 0, none⟩)]] w fun e w' => e = .returned (.tuple #[]) ∧
      Patched w w' B off (.int .i64 (mixStep seed r % n)) (.int .u64 (mixStep seed (1000 + r))) := by
  have hl := bload_any ⟨B, off, none⟩ 0 w ho
  have hg := slow_any B D R X off r seed n x3 x4 w hr0 hr1 hn0 hn1 hD hR hX h0 h1 ho hs h3 h4 fo fs f3 f4 hDB hRB hXB hoff
  have hnot : ∀ (x : Bool) (w : World), (Op.unary .not (.bool x)).run Tryz.prog w = .ok (.bool (!x)) w := fun _ _ => rfl
  go_enter Tryz.func73, Tryz.ntmps73
  go_wp2_with (first | (go_at_call 88; refine hl.mono ?_; rintro e w' ⟨rfl, rfl⟩) | (go_at_call 89; refine hg.mono ?_; rintro e w' ⟨rfl, hp⟩))
  go_end0
  exact ⟨rfl, hp⟩
theorem once_done (a : Addr) (fv : Value) (w : World) (h0 : w.cell? a = some (.int .u32 1)) :
    Calls Tryz.prog 73 #[.pointer (some a), fv] w fun e w' => e = .returned (.tuple #[]) ∧ w' = w := by
  have hl := bload_any a 1 w h0
  have hnot : ∀ (x : Bool) (w : World), (Op.unary .not (.bool x)).run Tryz.prog w = .ok (.bool (!x)) w := fun _ _ => rfl
  go_enter Tryz.func73, Tryz.ntmps73
  go_wp2_with (go_at_call 88; refine hl.mono ?_; rintro e w' ⟨rfl, rfl⟩)
  go_end0
  exact ⟨rfl, rfl⟩
end Go.Proofs.YtdocgemfedohdaaGreat
/-! Regions that draw their order: the first operations read, or call what only grows memory, in any order; the last ones follow in a row. -/
namespace Go.Proofs.YtdocgemfedohdaaGreat
open Go.RowKit
section
variable {P : Program} {ops : Array Oper} {md : Region.Mode} {C : World → Prop}
/-- The first n operations come up in any order, each quiet; what holds then is L. -/
def AnyHead (P : Program) (md : Region.Mode) (ops : Array Oper) (C : World → Prop) (n : Nat) (L : Array Bool → Act → Prop) : Nat → Array Bool → Act → Prop
  | 0, s, a => L s a
  | f + 1, s, a => Region.ready md ops s ≠ [] ∧ ∀ i ∈ Region.ready md ops s, i < n ∧ qOp P ops C i (AnyHead P md ops C n L f (s.setIfInBounds i true)) a
theorem anyHead_wp {n g : Nat} {L : Array Bool → Act → Prop} {Q : Exit → Act → World → Prop} (hL : ∀ s a w, C w → L s a → wpAny P md ops Q g s a w) :
    ∀ f s a w, C w → AnyHead P md ops C n L f s a → wpAny P md ops Q (f + g) s a w
  | 0, s, a, w, hw, h => by rw [Nat.zero_add]; exact hL _ _ _ hw h
  | f + 1, s, a, w, hw, h => by
    rw [show f + 1 + g = (f + g) + 1 by omega]
    exact ⟨fun e => absurd e h.1, fun i hi => wpOp_of_qOp hw (fun a' w' hw' h' => anyHead_wp hL f _ a' w' hw' h') (h.2 i hi).2⟩
theorem anyHead_first {n i : Nat} {oi : Oper} {v : Value} {L : Array Bool → Act → Prop} (hi : ops[i]? = some oi) (hsel : ∀ (j : Nat) (o : Oper) cs b, ops[j]? = some o → o.op ≠ .select cs b)
    (hs : Region.sinkB md ops n = true) (hc : Region.chainB md ops n = true) (hn : n < ops.size) (hin : i < n) (hdone : ∀ s a, L s a → ∀ j ∈ Region.ready md ops s, n ≤ j) :
    ∀ f s a, HeadInv md ops n s →
      (∀ j oj, ops[j]? = some oj → j ≠ i → s.getD j true = false → (∀ e ∈ oj.after, Region.binds md e = true → e.on ≠ i) → oi.apart ops oj = true) →
      i ∈ Region.ready md ops s → YieldsIn P ops C oi v a → AnyHead P md ops C n L f (s.setIfInBounds i true) (a.put oi.dst v) → AnyHead P md ops C n L (f + 1) s a := by
  intro f
  induction f with
  | zero =>
    intro s a inv _ hr hy H
    have hun := (mem_ready.1 hr).1
    refine ⟨fun e => (by rw [e] at hr; cases hr), fun j hj => ?_⟩
    have hjn : j < n := Nat.lt_of_not_le fun h => tail_waits hs hc hn inv _ i rfl hin hun j h hj
    refine ⟨hjn, ?_⟩
    by_cases e : j = i
    · subst e; exact hy.qOp hi H
    · exact absurd hjn (Nat.not_lt.2 (hdone _ _ H j (ready_mono hj e)))
  | succ f ih =>
    intro s a inv hfree hr hy H
    have hun := (mem_ready.1 hr).1
    refine ⟨fun e => (by rw [e] at hr; cases hr), fun j hj => ?_⟩
    have hjn : j < n := Nat.lt_of_not_le fun h => tail_waits hs hc hn inv _ i rfl hin hun j h hj
    refine ⟨hjn, ?_⟩
    by_cases e : j = i
    · subst e; exact hy.qOp hi H
    · have h1 := (H.2 j (ready_mono hj e)).2
      obtain ⟨hjun, oj, hoj, hall⟩ := mem_ready.1 hj
      have hnot : ∀ e ∈ oj.after, Region.binds md e = true → e.on ≠ i := fun e he hb heq => by
        have h2 := hall e he hb
        rw [heq, getD_both hun] at h2
        cases h2
      have h2 := qOp_put hoj (hfree j oj hoj e hjun hnot) (fun cs b => hsel i oi cs b hi) (fun cs b => hsel j oj cs b hoj) hy h1
      refine qOp_mono (fun a' h3 => ih (s.setIfInBounds j true) a' (inv.set hj hjn) (fun k ok hk hki hu hno => hfree k ok hk hki ?_ hno) (ready_mono hr (Ne.symm e)) h3.1 ?_) h2
      · by_cases hjk : j = k
        · subst hjk; exact hjun
        · rwa [getD_set_ne true hjk] at hu
      · rw [Array.setIfInBounds_comm _ _ e]
        exact h3.2
theorem anyHead_lex {n g : Nat} {Lq : Act → Prop} (hsel : Region.noSelect ops = true) (hs : Region.sinkB md ops n = true) (hc : Region.chainB md ops n = true) (hn : n < ops.size) :
    ∀ (l : List Oper) (k : Nat) (s : Array Bool) (a : Act), (∀ j, j < l.length → l[j]? = ops[k + j]?) → k + l.length = n → HeadInv md ops n s →
    Region.lexHead md ops g l.length k s = true → wpQuiet P ops C Lq l a →
    AnyHead P md ops C n (fun s' a' => Region.seqB md ops g n s' = true ∧ Lq a') l.length s a
  | [], k, s, a, _, hk, _, hB, h => by
    obtain rfl : k = n := by simpa using hk
    exact ⟨by simpa [Region.lexHead] using hB, h⟩
  | o :: l, k, s, a, hl, hk, inv, hB, h => by
    have h0 : ops[k]? = some o := by simpa using (hl 0 (by simp)).symm
    simp only [List.length_cons, Region.lexHead, Bool.and_eq_true] at hB
    obtain ⟨⟨hr, hf⟩, hB'⟩ := hB
    have hkn : k < n := by simp only [List.length_cons] at hk; omega
    have hr' : k ∈ Region.ready md ops s := by simpa using hr
    have hst : qOp P ops C k (wpQuiet P ops C Lq l) a := by unfold qOp; simp only [h0]; exact h
    obtain ⟨v, hy, hK⟩ := yieldsIn_of_qOp h0 hst
    exact anyHead_first h0 (Region.noSelect_spec hsel) hs hc hn hkn (fun s' a' hL => seqB_ready hL.1) l.length s a inv (Region.free_spec h0 hf) hr' hy
      (anyHead_lex hsel hs hc hn l (k + 1) _ _ (fun j hj => by have := hl (j + 1) (by simp; omega); simpa [Nat.add_assoc, Nat.add_comm 1 j] using this) (by simp only [List.length_cons] at hk; omega) (inv.set hr' hkn) hB' hK)
theorem wp_region_gr_tail {id : Nat} {Q : Exit → Act → World → Prop} {a : Act} {w : World} {l : List Oper} (n : Nat) (hm : P.follows .mixedOrders = true) (hB : Region.lexTailB .any l.toArray n = true)
    (h : wpQuiet P l.toArray (fun w' => ∃ p : GB, w' = gr w p) (fun a' => ∀ p : GB, wpList P l.toArray Q (l.drop n) a' (gr w p)) (l.take n) a) : (Code.region id l.toArray true).wp P Q a w := by
  simp only [Region.lexTailB, Bool.and_eq_true, decide_eq_true_eq] at hB
  obtain ⟨⟨⟨⟨hsel, hn⟩, hs⟩, hc⟩, hlex⟩ := hB
  have hn' : n < l.length := by simpa using hn
  have htl : (l.take n).length = n := by simp; omega
  have hdl : (l.drop n).length = l.toArray.size - n := by simp
  have inv0 : HeadInv .any l.toArray n (Array.replicate l.toArray.size false) :=
    ⟨by simp, fun j oj _ hl => (by rw [getD_replicate_false] at hl; cases hl), fun t _ ht => getD_in (by simpa using ht) (getD_replicate_false _ _)⟩
  have H := anyHead_lex (md := .any) (g := l.toArray.size - n) hsel hs hc hn (l.take n) 0 _ a (fun j hj => by
    have hj' : j < n := by rw [htl] at hj; exact hj
    simp [hj']) (by simpa using htl) inv0 (by rw [htl]; exact hlex) h
  refine wp_region_any hm ?_
  have := anyHead_wp (Q := Q) (g := l.toArray.size - n) (fun s a' w' hw' hL => by
    obtain ⟨p, rfl⟩ := hw'
    have := wpAny_of_seq (md := .any) (Q' := Q) (l.drop n) n s a' (gr w p) (fun j => by simp [List.getElem?_drop]) (by rw [hdl]; exact hL.1) (hL.2 p)
    rwa [hdl] at this) _ _ _ { w with drawn := w.drawn + 1 } (gr_of_below (below_drew0 w)) H
  rw [htl, show n + (l.toArray.size - n) = l.toArray.size by omega] at this
  exact this
end
theorem grown_cell {w W : World} {row : Option Nat} {p : Addr} {v : Value} (hg : w.grownBy W row) (hp : p.block < w.heap.size) (hne : some p.block ≠ row) (h : w.cell? p = some v) : W.cell? p = some v :=
  (World.cell?_of_block (w := w) (hg.block p.block hp hne)).trans h
theorem Rd.grown {α : Type} {k : Nat} {enc : α → List Value} {w W : World} {A : Option Addr} {xs : List α} {row : Option Nat} (h : Rd k enc w A xs) (hg : w.grownBy W row) (hne : ∀ a, A = some a → some a.block ≠ row) : Rd k enc W A xs := by
  refine ⟨h.1, fun hx => ?_⟩
  obtain ⟨b, o, hA, hlt, hc⟩ := h.2 hx
  exact ⟨b, o, hA, Nat.lt_of_lt_of_le hlt hg.size, fun i x hi j u hu => (World.cell?_of_block (w := w) (hg.block b hlt (hne _ hA))).trans (hc i x hi j u hu)⟩
end Go.Proofs.YtdocgemfedohdaaGreat
/-! Shuffles: the deck, and one of its rounds. -/
namespace Go.Proofs.YtdocgemfedohdaaGreat
open Go.RowKit
/-- A deck in memory. -/
structure DeckC (w : World) (B : Nat) (seed n asked : Int) : Prop where
  lt : B < w.heap.size
  fz : ∀ j, j < 53 → w.frozen? ⟨B, j, none⟩ = false
  c0 : w.cell? ⟨B, 0, none⟩ = some (.int .u64 seed)
  c1 : w.cell? ⟨B, 1, none⟩ = some (.int .i64 n)
  ca : w.cell? ⟨B, 52, none⟩ = some (.int .i64 asked)
  lk : ∀ r : Nat, r < 10 → w.cell? ⟨B, 2 + 5 * r + 1, none⟩ = some (.int .i32 0)
  dn : ∀ r : Nat, r < 10 → (w.cell? ⟨B, 2 + 5 * r, none⟩ = some (.int .u32 0) ∧ (∃ x, w.cell? ⟨B, 2 + 5 * r + 3, none⟩ = some x) ∧ ∃ x, w.cell? ⟨B, 2 + 5 * r + 4, none⟩ = some x) ∨
    (w.cell? ⟨B, 2 + 5 * r, none⟩ = some (.int .u32 1) ∧ w.cell? ⟨B, 2 + 5 * r + 3, none⟩ = some (.int .i64 (mixStep seed r % n)) ∧ w.cell? ⟨B, 2 + 5 * r + 4, none⟩ = some (.int .u64 (mixStep seed (1000 + r))))
theorem DeckC.kept {w w' : World} {B : Nat} {seed n asked : Int} {row : Option Nat} (h : DeckC w B seed n asked) (hg : w.grownBy w' row) (hne : some B ≠ row) : DeckC w' B seed n asked := by
  have hc : ∀ j, w'.cell? ⟨B, j, none⟩ = w.cell? ⟨B, j, none⟩ := fun j => World.cell?_of_block (w := w) (hg.block B h.lt hne)
  have hf : ∀ j, w'.frozen? ⟨B, j, none⟩ = w.frozen? ⟨B, j, none⟩ := fun j => World.frozen?_of_block (w := w) (hg.block B h.lt hne)
  exact ⟨Nat.lt_of_lt_of_le h.lt hg.size, fun j hj => by rw [hf]; exact h.fz j hj, by rw [hc]; exact h.c0, by rw [hc]; exact h.c1, by rw [hc]; exact h.ca, fun r hr => by rw [hc]; exact h.lk r hr, fun r hr => by rw [hc, hc, hc]; exact h.dn r hr⟩
theorem DeckC.patched {w w' : World} {B : Nat} {seed n asked : Int} {r : Nat} (h : DeckC w B seed n asked) (hr : r < 10) (hp : Patched w w' B (2 + 5 * r) (.int .i64 (mixStep seed r % n)) (.int .u64 (mixStep seed (1000 + r)))) : DeckC w' B seed n asked := by
  obtain ⟨hg, hf, hc⟩ := hp
  refine ⟨Nat.lt_of_lt_of_le h.lt hg.size, fun j hj => by rw [hf]; exact h.fz j hj, ?_, ?_, ?_, fun q hq => ?_, fun q hq => ?_⟩
  · rw [hc, if_neg (by omega), if_neg (by omega), if_neg (by omega)]; exact h.c0
  · rw [hc, if_neg (by omega), if_neg (by omega), if_neg (by omega)]; exact h.c1
  · rw [hc, if_neg (by omega), if_neg (by omega), if_neg (by omega)]; exact h.ca
  · rw [hc, if_neg (by omega), if_neg (by omega), if_neg (by omega)]; exact h.lk q hq
  · by_cases e : q = r
    · subst e
      right
      refine ⟨?_, ?_, ?_⟩
      · rw [hc, if_pos rfl]
      · rw [hc, if_neg (by omega), if_pos rfl]
      · rw [hc, if_neg (by omega), if_neg (by omega), if_pos rfl]
    · rw [hc, hc, hc, if_neg (by omega), if_neg (by omega), if_neg (by omega), if_neg (by omega), if_neg (by omega), if_neg (by omega), if_neg (by omega), if_neg (by omega), if_neg (by omega)]
      exact h.dn q hq
theorem DeckC.asked {w : World} {B : Nat} {seed n asked : Int} (h : DeckC w B seed n asked) (x : Int) : DeckC (w.setCell ⟨B, 52, none⟩ (.int .i64 x)) B seed n x := by
  have hc := fun j => cell_set w B 52 j (.int .i64 x) _ h.ca
  refine ⟨by simpa using h.lt, fun j hj => by simpa using h.fz j hj, ?_, ?_, ?_, fun q hq => ?_, fun q hq => ?_⟩
  · rw [hc, if_neg (by omega)]; exact h.c0
  · rw [hc, if_neg (by omega)]; exact h.c1
  · rw [hc, if_pos rfl]
  · rw [hc, if_neg (by omega)]; exact h.lk q hq
  · rw [hc, hc, hc, if_neg (by omega), if_neg (by omega), if_neg (by omega)]
    exact h.dn q hq
/-- A round's cells. -/
def RoundC (w : World) (B r : Nat) (seed n : Int) : Prop := w.cell? ⟨B, 2 + 5 * r + 3, none⟩ = some (.int .i64 (mixStep seed r % n)) ∧ w.cell? ⟨B, 2 + 5 * r + 4, none⟩ = some (.int .u64 (mixStep seed (1000 + r)))
theorem once_any (B D R X : Nat) (r : Nat) (seed n asked : Int) (w : World) (hr : r < 10) (hn0 : 0 < n) (hn1 : n ≤ 1000) (h : DeckC w B seed n asked)
    (hD : w.cell? ⟨D, 0, none⟩ = some (.pointer (some ⟨B, 0, none⟩))) (hR : w.cell? ⟨R, 0, none⟩ = some (.int .i64 r)) (hX : w.cell? ⟨X, 0, none⟩ = some (.pointer (some ⟨B, 2 + 5 * r, none⟩)))
    (hDB : D ≠ B) (hRB : R ≠ B) (hXB : X ≠ B) :
    Calls Tryz.prog 73 #[.pointer (some ⟨B, 2 + 5 * r, none⟩), .func (.func 74) #[] #[.pointer (some ⟨D, 0, none⟩), .pointer (some ⟨R, 0, none⟩), .pointer (some ⟨X, 0, none⟩)]] w fun e w' => e = .returned (.tuple #[]) ∧
      DeckC w' B seed n asked ∧ RoundC w' B r seed n ∧ w.grownBy w' (some B) := by
  rcases h.dn r hr with ⟨ho, ⟨x3, h3⟩, x4, h4⟩ | ⟨ho, h3, h4⟩
  · refine (once_first B D R X (2 + 5 * r) r seed n x3 x4 w (by omega) (by omega) hn0 hn1 hD hR hX h.c0 h.c1 ho (h.lk r hr) h3 h4 (h.fz _ (by omega)) (h.fz _ (by omega)) (h.fz _ (by omega)) (h.fz _ (by omega)) hDB hRB hXB (by omega)).mono ?_
    rintro e w' ⟨rfl, hp⟩
    refine ⟨rfl, h.patched hr hp, ⟨?_, ?_⟩, hp.1⟩
    · rw [hp.2.2, if_neg (by omega), if_pos rfl]
    · rw [hp.2.2, if_neg (by omega), if_neg (by omega), if_pos rfl]
  · refine (once_done _ _ w ho).mono ?_
    rintro e w' ⟨rfl, rfl⟩
    exact ⟨rfl, h, ⟨h3, h4⟩, ⟨rfl, rfl, rfl, Nat.le_refl _, fun _ _ _ => rfl⟩⟩
set_option maxRecDepth 100000 in
set_option maxHeartbeats 1600000 in
theorem get_any (B : Nat) (r : Nat) (seed n asked : Int) (w : World) (hr : r < 10) (hn0 : 0 < n) (hn1 : n ≤ 1000) (h : DeckC w B seed n asked) :
    Calls Tryz.prog 64 #[.pointer (some ⟨B, 0, none⟩), .int .i64 r] w fun e w' => e = .returned (.pointer (some ⟨B, 2 + 5 * r, none⟩)) ∧
      DeckC w' B seed n (wrap64 (asked + 1)) ∧ RoundC w' B r seed n ∧ w.grownBy w' (some B) := by
  go_enter Tryz.func64, Tryz.ntmps64
  go_wp2_with fail
  have c1 : ((w.alloc (.cells #[.pointer (some ⟨B, 0, none⟩)] 81)).alloc (.cells #[.int .i64 r] 3)).cell? ⟨w.heap.size, 0, none⟩ = some (.pointer (some ⟨B, 0, none⟩)) := by
    rw [World.cell?_alloc_past _ _ _ (by simp)]; simp
  have c2 : ((w.alloc (.cells #[.pointer (some ⟨B, 0, none⟩)] 81)).alloc (.cells #[.int .i64 r] 3)).cell? ⟨w.heap.size + 1, 0, none⟩ = some (.int .i64 r) := by simp
  have hg : w.grownBy ((w.alloc (.cells #[.pointer (some ⟨B, 0, none⟩)] 81)).alloc (.cells #[.int .i64 r] 3)) none := (World.grownBy_alloc _ _ _).trans (World.grownBy_alloc _ _ _)
  have hsz : ((w.alloc (.cells #[.pointer (some ⟨B, 0, none⟩)] 81)).alloc (.cells #[.int .i64 r] 3)).heap.size = w.heap.size + 2 := by simp
  generalize (w.alloc (.cells #[.pointer (some ⟨B, 0, none⟩)] 81)).alloc (.cells #[.int .i64 r] 3) = W at c1 c2 hg hsz ⊢
  have hd := h.kept hg (by simp)
  have hr0 : ¬ (r : Int) < 0 := by omega
  have hr1 : (r : Int) < 10 := by omega
  go_region
  rw [show 2 + r * 5 = 2 + 5 * r by omega]
  have hbl := hd.lt
  have hbw := h.lt
  have d1 : (W.alloc (.cells #[.pointer (some ⟨B, 2 + 5 * r, none⟩)] 135)).drew.cell? ⟨w.heap.size, 0, none⟩ = some (.pointer (some ⟨B, 0, none⟩)) := by
    rw [World.cell?_drew, World.cell?_alloc_past _ _ _ (by show w.heap.size < W.heap.size; omega)]; exact c1
  have d2 : (W.alloc (.cells #[.pointer (some ⟨B, 2 + 5 * r, none⟩)] 135)).drew.cell? ⟨w.heap.size + 1, 0, none⟩ = some (.int .i64 r) := by
    rw [World.cell?_drew, World.cell?_alloc_past _ _ _ (by show w.heap.size + 1 < W.heap.size; omega)]; exact c2
  have d3 : (W.alloc (.cells #[.pointer (some ⟨B, 2 + 5 * r, none⟩)] 135)).drew.cell? ⟨w.heap.size + 2, 0, none⟩ = some (.pointer (some ⟨B, 2 + 5 * r, none⟩)) := by
    rw [World.cell?_drew, ← hsz]; simp
  have hg2 : W.grownBy (W.alloc (.cells #[.pointer (some ⟨B, 2 + 5 * r, none⟩)] 135)).drew none := (World.grownBy_alloc W _ none).trans ⟨rfl, rfl, rfl, Nat.le_refl _, fun _ _ _ => rfl⟩
  have hsz2 : (W.alloc (.cells #[.pointer (some ⟨B, 2 + 5 * r, none⟩)] 135)).drew.heap.size = w.heap.size + 3 := by simp [hsz]
  generalize (W.alloc (.cells #[.pointer (some ⟨B, 2 + 5 * r, none⟩)] 135)).drew = W2 at d1 d2 d3 hg2 hsz2 ⊢
  have hd2 := hd.kept hg2 (by simp)
  have hgg : w.grownBy W2 none := hg.trans hg2
  clear c1 c2 hg hsz hg2 hd h
  have hmf : ∀ (fn : Fn) (first cap : Array Value) (w : World), (Instr.makeFunc fn first cap).run Tryz.prog w = .ok (.func fn first cap) w := fun _ _ _ _ => rfl
  have ho := once_any B w.heap.size (w.heap.size + 1) (w.heap.size + 2) r seed n asked W2 hr hn0 hn1 hd2 d1 d2 d3 (by omega) (by omega) (by omega)
  have hfin : ∀ w3 : World, W2.grownBy w3 (some B) → DeckC w3 B seed n asked → RoundC w3 B r seed n →
      w3.cell? ⟨w.heap.size, 0, none⟩ = some (.pointer (some ⟨B, 0, none⟩)) ∧ (w3.setCell ⟨B, 52, none⟩ (.int .i64 (wrap64 (asked + 1)))).cell? ⟨w.heap.size + 2, 0, none⟩ = some (.pointer (some ⟨B, 2 + 5 * r, none⟩)) ∧
      DeckC (w3.setCell ⟨B, 52, none⟩ (.int .i64 (wrap64 (asked + 1)))) B seed n (wrap64 (asked + 1)) ∧ RoundC (w3.setCell ⟨B, 52, none⟩ (.int .i64 (wrap64 (asked + 1)))) B r seed n ∧ w.grownBy (w3.setCell ⟨B, 52, none⟩ (.int .i64 (wrap64 (asked + 1)))) (some B) := fun w3 hg3 hd3 hr3 => by
    have c1 := (World.cell?_of_block (w := W2) (a := ⟨w.heap.size, 0, none⟩) (hg3.block w.heap.size (by omega) (by intro e; cases e; omega))).trans d1
    have c3 := (World.cell?_of_block (w := W2) (a := ⟨w.heap.size + 2, 0, none⟩) (hg3.block (w.heap.size + 2) (by omega) (by intro e; cases e; omega))).trans d3
    have hc := fun j => cell_set w3 B 52 j (.int .i64 (wrap64 (asked + 1))) _ hd3.ca
    refine ⟨c1, (World.cell?_setCell_other w3 ⟨B, 52, none⟩ ⟨w.heap.size + 2, 0, none⟩ _ (fun e => by cases e)).trans c3, hd3.asked _, ⟨?_, ?_⟩, ?_⟩
    · rw [hc, if_neg (by omega)]; exact hr3.1
    · rw [hc, if_neg (by omega)]; exact hr3.2
    · have h1 : w.grownBy W2 (some B) := ⟨hgg.os, hgg.tape, hgg.output, hgg.size, fun k hk _ => hgg.block k hk (by simp)⟩
      exact (h1.trans hg3).trans (grown_setC _ _ _)
  replace hfin := Lib.hid hfin
  go_wp2_with (first | (go_at_call 73; refine ho.mono ?_; rintro e w3 ⟨rfl, hd3, hr3, hg3⟩; obtain ⟨c1, c4, hd4, hr4, hg4⟩ := hfin w3 hg3 hd3 hr3; have ha := iadd_any ⟨B, 52, none⟩ asked w3 hd3.ca (hd3.fz _ (by omega)); clear hg3 hr3 hd3) | (go_at_call 75; refine ha.mono ?_; rintro e w4 ⟨rfl, rfl⟩))
  go_ret
  exact ⟨rfl, hd4, hr4, hg4⟩
end Go.Proofs.YtdocgemfedohdaaGreat
