/- WeighDouble, walked. -/
import Derived.Deep.RegionLaw
import Derived.Test.YtlhndhgkoacilaaRead2
import Derived.Test.YtlhndhgkoacilaaTreeMore
import Derived.Test.YtlhndhgkoacilaaAppend
import Derived.Test.YtlhndhgkoacilaaVotes1
namespace Go.Proofs.Ytlhndhgkoacilaa
open Go.RowKit
set_option maxRecDepth 100000 in
set_option maxHeartbeats 1000000 in
theorem double_any (c : Cfg) (l : List Blk) (vs : List Vote) (id : ID) (A A2 A3 : Option Addr) (k k2 k3 : Nat) (w : World) (hr : Rd 1 encI w A c.W) (hr2 : Rd 5 encBlk w A2 l) (hr3 : Rd 4 encVote w A3 vs) :
    Calls Try.prog 4 #[cfgv A k c, .slice A2 l.length k2, .slice A3 vs.length k3, idv id] w fun e w' => e = .returned (.bool true) ∧ Below w.heap.size w w' := by
  have hm := hr.1
  have hm2 := hr2.1
  have hm3 := hr3.1
  have hunI := Try.underlying22
  have haw := fun V => awake_any V
  have hfew := fun V => few_any c l.length vs.length A A2 A3 k k2 k3 V hm hm2 hm3
  obtain ⟨sm, hsm⟩ : ∃ sm, decide (c.W.length ≤ 40 ∧ l.length ≤ 30 ∧ vs.length ≤ 30) = sm := ⟨_, rfl⟩
  rw [hsm] at hfew
  have hsmall := Lib.hid (fun h : sm = true => of_decide_eq_true (hsm.trans h))
  clear hsm
  have hmay := fun V (hV : Below w.heap.size w V) => dmay_any c A k V (hr.below hV)
  have hon1 := Lib.hid (fun V (hV : Below w.heap.size w V) (h : sm = true) => on_any c l vs id A A2 A3 k k2 k3 V (hr.below hV) (hr2.below hV) (hr3.below hV) (by have := hsmall.out h; omega) (by have := hsmall.out h; omega))
  have hon2 := Lib.hid (fun V (hV : Below w.heap.size w V) (h : sm = true) (B : Option Addr) (kb : Nat) (hB : Rd 1 encI V B (dbl c).W) => on_any (dbl c) l vs id B A2 A3 kb k2 k3 V hB (hr2.below hV) (hr3.below hV) (by have := hsmall.out h; omega) (by have := hsmall.out h; omega))
  unfold cfgv idv at *
  have hW : ∃ W, ((w.alloc (.cells #[.slice A c.W.length k, .int .u64 c.seed, .int .i64 c.epoch, .int .i64 c.num, .int .i64 c.den] 25)).alloc (.cells #[.int .u64 id.hi, .int .u64 id.lo] 29)) = W := ⟨_, rfl⟩
  obtain ⟨W, hW⟩ := hW
  have hB : Below w.heap.size w W := by subst hW; exact ((Below.refl _ w).alloc (Nat.le_refl _) _).alloc (by simp) _
  have b0 : W.heap[w.heap.size]? = some (.cells #[.slice A c.W.length k, .int .u64 c.seed, .int .i64 c.epoch, .int .i64 c.num, .int .i64 c.den] 25 (0, 0)) := by subst hW; exact ha_lt (ha_at rfl)
  have b1 : W.heap[w.heap.size + 1]? = some (.cells #[.int .u64 id.hi, .int .u64 id.lo] 29 (0, 0)) := by subst hW; exact ha_at (by simp)
  obtain ⟨c0, c1, c2, c3, c4⟩ := blk5 b0
  obtain ⟨q, hq⟩ : ∃ q, decide (MayC c) = q := ⟨_, rfl⟩
  rw [hq] at hmay
  cases hsv : sm with
  | false =>
    subst hsv
    go_enter Try.func4, Try.ntmps4
    go_wp2_with (first
      | (go_at_call 9; refine (haw _).mono ?_; clear haw; rintro e w1 ⟨rfl, hb1⟩; have hB1 := below_call hB hB.size hb1; obtain ⟨d0, d1, d2, d3, d4⟩ := blk5 (bl_own hb1 b0))
      | (go_at_call 10; refine (hfew _).mono ?_; clear hfew; rintro e w3 ⟨rfl, hb3⟩; have hB3 := below_call hB1 hB1.size hb3; obtain ⟨e0, e1, e2, e3, e4⟩ := blk5 (bl_own hb3 (bl_own hb1 b0))))
    go_ret
    exact ⟨rfl, hB3⟩
  | true =>
    have hsm1 := hsmall.out hsv
    have hon1' := Lib.hid (fun V hV => hon1.out V hV hsv)
    have hon2' := Lib.hid (fun V hV => hon2.out V hV hsv)
    clear hon1 hon2 hsmall
    subst hsv
    cases hqv : q with
    | false =>
      subst hqv
      go_enter Try.func4, Try.ntmps4
      go_wp2_with (first
        | (go_at_call 9; refine (haw _).mono ?_; clear haw; rintro e w1 ⟨rfl, hb1⟩; have hB1 := below_call hB hB.size hb1; obtain ⟨d0, d1, d2, d3, d4⟩ := blk5 (bl_own hb1 b0))
        | (go_at_call 10; refine (hfew _).mono ?_; clear hfew; rintro e w3 ⟨rfl, hb3⟩; have hB3 := below_call hB1 hB1.size hb3; obtain ⟨e0, e1, e2, e3, e4⟩ := blk5 (bl_own hb3 (bl_own hb1 b0)))
        | (go_at_call 15; refine (hmay _ hB3).mono ?_; clear hmay; rintro e w4 ⟨rfl, hb4⟩; have hB4 := below_call hB3 hB3.size hb4))
      go_ret
      exact ⟨rfl, hB4⟩
    | true =>
      have hM : MayC c := of_decide_eq_true (hq.trans hqv)
      have hMl := hM.1.2.1
      have hM' := Lib.hid hM
      clear hq hM
      subst hqv
      go_enter Try.func4, Try.ntmps4
      go_wp2_with (first
        | (go_at_call 9; refine (haw _).mono ?_; clear haw; rintro e w1 ⟨rfl, hb1⟩; have hB1 := below_call hB hB.size hb1; obtain ⟨d0, d1, d2, d3, d4⟩ := blk5 (bl_own hb1 b0))
        | (go_at_call 10; refine (hfew _).mono ?_; clear hfew; rintro e w3 ⟨rfl, hb3⟩; have hB3 := below_call hB1 hB1.size hb3; obtain ⟨e0, e1, e2, e3, e4⟩ := blk5 (bl_own hb3 (bl_own hb1 b0)))
        | (go_at_call 15; refine (hmay _ hB3).mono ?_; clear hmay; rintro e w4 ⟨rfl, hb4⟩; have hB4 := below_call hB3 hB3.size hb4; have a0 := bl_own hb4 (bl_own hb3 (bl_own hb1 b0)); have a1 := bl_own hb4 (bl_own hb3 (bl_own hb1 b1)); obtain ⟨f0, f1, f2, f3, f4⟩ := blk5 a0; clear b0 b1 hb1 hb3 hb4 hB hB1 hB3 c0 c1 c2 c3 c4 d0 d1 d2 d3 d4 e0 e1 e2 e3 e4))
      go_loopw [12] (fun i wr => ∃ (j : Nat) (u : Value), j ≤ c.W.length ∧ i = .int .i64 j ∧ (∀ x ∈ c.W.take j, x ≤ 549755813888) ∧ wr.heap[w4.heap.size]? = some (.cells #[u, .int .u64 c.seed, .int .i64 c.epoch, .int .i64 c.num, .int .i64 c.den] 25 (0, 0)) ∧ Own wr (w4.heap.size + 1) 3 1 encI u ((c.W.take j).map (2 * ·)) ∧ Below w4.heap.size w4 wr) (fun i _ => c.W.length - (intOf i).toNat)
      case atStart => exact ⟨0, _, Nat.zero_le _, rfl, by simp, ha_at rfl, Own.nil _ _ _ _ _, (Below.refl _ w4).alloc (Nat.le_refl _) _⟩
      case round =>
        obtain ⟨j, u, hj, rfl, hle, hbk, hu, hBW⟩ := hrel
        have hle' := Lib.hid hle
        clear hle
        have hBr := below_call hB4 hB4.size hBW
        have r0 := bl_own hBW a0
        have r1 := bl_own hBW a1
        obtain ⟨s0, s1, s2, s3, s4⟩ := blk5 r0
        obtain ⟨s5, s6, s7, s8, s9⟩ := blk5 hbk
        by_cases hlt : j < c.W.length
        · obtain ⟨b', o, rfl, hbo, d0⟩ := (hr.below hBr).atI hlt
          obtain ⟨x, hxe⟩ : ∃ x, c.W[j] = x := ⟨_, rfl⟩
          have htk := Lib.hid (show c.W.take (j + 1) = c.W.take j ++ [x] by rw [← hxe]; exact List.take_succ_eq_append_getElem hlt)
          have hx0 : 0 ≤ x ∧ x ≤ 1099511627776 := hM'.out.1.2.2 x (by rw [← hxe]; exact List.getElem_mem hlt)
          rw [hxe] at d0
          by_cases hbig : 549755813888 < x
          · go_wp2_with fail
            go_ret
            exact ⟨rfl, hBr⟩
          · have hx1 : x ≤ 549755813888 := by omega
            have hub : ∀ k, u.ownBlock = some k → w4.heap.size + 1 ≤ k := fun k hk => (hu.base k hk).1
            have hKD : Below w4.heap.size w4 wr.drew := hBW.drew
            obtain ⟨Y, hY⟩ : ∃ Y, wr.drew.alloc (.cells #[.int .i64 (2 * x)] 3) = Y := ⟨_, rfl⟩
            have hY2 : (wr.alloc (.cells #[.int .i64 (2 * x)] 3)).drew = Y := hY
            have hwx : IntKind.i64.wrap (2 * x) = 2 * x := Go.IntWalk.i64_in _ (by omega)
            have hY3 : (wr.alloc (.cells #[.int .i64 (IntKind.i64.wrap (2 * x))] 3)).drew = Y := by rw [hwx]; exact hY2
            have hY4 : wr.drew.alloc (.cells #[.int .i64 (IntKind.i64.wrap (2 * x))] 3) = Y := by rw [hwx]; exact hY
            have hrY : Below wr.heap.size wr Y := by subst hY; exact ((Below.refl _ wr).drew).alloc (Nat.le_refl _) _
            have hKY := below_call hBW hBW.size hrY
            have hxY : Y.heap[wr.heap.size]? = some (.cells #[.int .i64 (2 * x)] 3 (0, 0)) := by subst hY; exact ha_at rfl
            have huY := hu.below hrY
            have hbY := bl_own hrY hbk
            have hne : u.ownBlock ≠ some w4.heap.size := fun e => by have := hub _ e; omega
            have hszY : w4.heap.size + 1 ≤ Y.heap.size := by have := lt_of_block hbY; omega
            have hl1 : ((c.W.take j).map (2 * ·)).length + 1 ≤ 12 := by simp; omega
            have hbb : (((c.W.take j).map (2 * ·)).length + 1) * 8 ≤ 140737488355328 := by omega
            have hll : ((c.W.take j).map (2 * ·)).length + 1 ≤ maxLen := by unfold maxLen; omega
            have hrow : ∀ k, u.ownBlock = some k → w4.heap.size ≤ k := fun k hk => Nat.le_of_succ_le (hub k hk)
            have hne' : some w4.heap.size ≠ u.ownBlock := fun e => hne e.symm
            have hszK : w4.heap.size ≤ Y.heap.size := by omega
            have hst := Lib.hid (show ∀ V, Below w4.heap.size w4 V → V.cell? ⟨w.heap.size, 0, none⟩ = some (.slice (some ⟨b', o, none⟩) c.W.length k) ∧ V.cell? ⟨b', o + j, none⟩ = some (.int .i64 x) from fun V hV => ⟨blk_cell (bl_own hV a0) 0, by
              obtain ⟨b2, o2, he, _, hd⟩ := (hr.below (below_call hB4 hB4.size hV)).atI hlt
              cases he
              rw [hxe] at hd
              exact hd⟩)
            have hset := Lib.hid (show ∀ V v, Below w4.heap.size w4 V → Below w4.heap.size w4 (V.setCell ⟨w4.heap.size, 0, none⟩ v) from fun V v hV => below_step hV hV.size (grown_set _ _ _) (fun k e => by cases e; exact Nat.le_refl _))
            obtain ⟨k0, kd⟩ := hst.out _ hKY
            have k5 := (blk5 hbY).1
            go_wp2_with fail
            go_region_law ((with_reducible refine step_append1 (w := Y) (by with_unfolding_all rfl) (by with_unfolding_all rfl) hunI infoI (by with_unfolding_all rfl) (by decide) encI_len encI_one (by with_unfolding_all rfl) huY (c := 1) (by with_unfolding_all rfl) (y := 2 * x) hxY (by with_unfolding_all rfl) hbb hll hszY ?_; intro v6 w6 ho6 hg6 hat6; have hK6 := below_step hKY hszK hg6 hrow; have hb6 := grown_own hg6 hbY hne'; have m5 := (blk5 hb6).1; have mf := blk_free hb6 0; obtain ⟨A6, k6, hv6, hR6⟩ := ho6.rd encI_len; subst hv6))
            all_goals
              have hK7 := hset.out w6 (.slice A6 (j + 1) k6) hK6
              have e1 : (List.map (2 * ·) (c.W.take j) ++ [2 * x]).length = j + 1 := by simp; omega
              rw [e1] at ho6
              have ho7 := ho6.grown (grown_set w6 ⟨w4.heap.size, 0, none⟩ (.slice A6 (j + 1) k6)) (.inr (fun e => Nat.not_succ_le_self _ (ho6.base _ e).1))
              have hb7 : (w6.setCell ⟨w4.heap.size, 0, none⟩ (.slice A6 (j + 1) k6)).heap[w4.heap.size]? = some (.cells #[.slice A6 (j + 1) k6, .int .u64 c.seed, .int .i64 c.epoch, .int .i64 c.num, .int .i64 c.den] 25 (0, 0)) := by rw [heap_setCell_same _ _ _ _ _ _ hb6]; rfl
              rw [show List.map (2 * ·) (c.W.take j) ++ [2 * x] = (c.W.take (j + 1)).map (2 * ·) by rw [htk.out]; simp] at ho7
              clear e1 ho6 hg6 hat6 m5 mf hR6 hY hY2 hY3 hY4 hrY hKY hxY huY hbY k5 k0 kd
              go_wp2
              go_roundw
              case rel => exact ⟨j + 1, _, hlt, by go_num, fun y hy => by rw [htk.out] at hy; rcases List.mem_append.1 hy with h | h; exact hle'.out y h; rw [List.mem_singleton.1 h]; exact hx1, hb7, ho7, hK7⟩
              case measure => simp [intOf]; omega
        · obtain rfl : j = c.W.length := by omega
          rw [List.take_length] at hu
          have hall : ∀ y ∈ c.W, y ≤ 549755813888 := by have := hle'.out; rwa [List.take_length] at this
          obtain ⟨Au, cu, hue, hRu⟩ := hu.rd encI_len
          rw [List.length_map] at hue
          subst hue
          have hBg : ∀ p, Below w.heap.size w (gr wr p) := fun p => hBr.trans ((gr_below _ _).mono hBr.size)
          have h1' := fun p => hon1'.out _ (hBg p)
          have h2' := fun p => hon2'.out _ (hBg p) Au cu (hRu.below (gr_below wr p))
          rw [onC_dbl hM'.out hall] at h2'
          simp only [dbl, List.length_map] at h2'
          have q0 : 0 ≤ onC c l vs id ∧ onC c l vs id ≤ 140737488355328 := by have := weightC_bd c (whoOn l vs id); unfold onC; omega
          obtain ⟨n, hn⟩ : ∃ n, onC c l vs id = n := ⟨_, rfl⟩
          rw [hn] at h1' h2' q0
          have hwn : IntKind.i64.wrap (2 * n) = 2 * n := Go.IntWalk.i64_in _ (by omega)
          obtain ⟨s10, s11, _, _⟩ := blk2 r1
          have g0 := gr_cell s0
          have g1 := gr_cell s1
          have g2 := gr_cell s2
          have g3 := gr_cell s3
          have g4 := gr_cell s4
          have g5 := gr_cell s5
          have g6 := gr_cell s6
          have g7 := gr_cell s7
          have g8 := gr_cell s8
          have g9 := gr_cell s9
          have g10 := gr_cell s10
          have g11 := gr_cell s11
          clear hn hu hall hRu
          go_wp2_with fail
          refine wp_region_gr (by kernel_rfl) (by kernel_rfl) ?_
          repeat (go_big_quiet_step ((first
            | (go_at_call 11; with_reducible exact Calls.gr_of (h1' _))
            | (go_at_call 11; with_reducible exact Calls.gr_of (h2' _)))))
          refine wpQuiet_nil ?_
          rintro _ ⟨pq, rfl⟩
          go_wp2
          go_ret
          exact ⟨rfl, hBg _⟩
theorem double_walk (A : Option Addr) (c : Cfg) (k : Nat) (A2 : Option Addr) (l : List Blk) (k2 : Nat) (A3 : Option Addr) (vs : List Vote) (k3 : Nat) (id : ID) (w : World) (_ : c.W.length ≤ k) (_ : k ≤ maxLen) (hr : Rd 1 encI w A c.W) (_ : c.Ok) (_ : l.length ≤ k2) (_ : k2 ≤ maxLen) (hr2 : Rd 5 encBlk w A2 l) (_ : ∀ b ∈ l, b.Ok) (_ : vs.length ≤ k3) (_ : k3 ≤ maxLen) (hr3 : Rd 4 encVote w A3 vs) (_ : ∀ b ∈ vs, b.Ok) (_ : id.Ok) :
    Calls Try.prog 4 #[cfgv A k c, .slice A2 l.length k2, .slice A3 vs.length k3, idv id] w fun e w' => e = .returned (.bool true) ∧ Below w.heap.size w w' :=
  double_any c l vs id A A2 A3 k k2 k3 w hr hr2 hr3
end Go.Proofs.Ytlhndhgkoacilaa
