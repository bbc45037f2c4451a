/- WeighMore, walked. -/
import Derived.Test.YtlhndhgkoacilaaRead3
import Derived.Test.YtlhndhgkoacilaaTreeMore
import Derived.Test.YtlhndhgkoacilaaAppend
import Derived.Test.YtlhndhgkoacilaaVotes1
namespace Go.Proofs.Ytlhndhgkoacilaa
open Go.RowKit
set_option maxRecDepth 100000 in
set_option maxHeartbeats 1000000 in
theorem more_any (c : Cfg) (l : List Blk) (vs : List Vote) (b : Blk) (id : ID) (A A2 A3 : Option Addr) (k k2 k3 : Nat) (w : World) (hr : Rd 1 encI w A c.W) (hr2 : Rd 5 encBlk w A2 l) (hr3 : Rd 4 encVote w A3 vs) (hN : A2 = none → k2 = 0) (hlk : l.length ≤ k2) (hz : k2 * 40 ≤ 140737488351232) :
    Calls Try.prog 7 #[cfgv A k c, .slice A2 l.length k2, .slice A3 vs.length k3, blkv b, idv id] w fun e w' => e = .returned (.bool true) ∧ Below w.heap.size w w' := by
  have hm := hr.1
  have hm2 := hr2.1
  have hm3 := hr3.1
  have hunB := Try.underlying26
  have haw := fun V => awake_any V
  have hfew := fun V => few_any c l.length vs.length A A2 A3 k k2 k3 V hm hm2 hm3
  obtain ⟨sm, hsm⟩ : ∃ sm, decide (c.W.length ≤ 40 ∧ l.length ≤ 30 ∧ vs.length ≤ 30) = sm := ⟨_, rfl⟩
  rw [hsm] at hfew
  have hsmall := Lib.hid (fun h : sm = true => of_decide_eq_true (hsm.trans h))
  clear hsm
  have hnm := fun V => name_any b V
  obtain ⟨nb, hnb⟩ : ∃ nb, nameOf b = nb := ⟨_, rfl⟩
  rw [hnb] at hnm
  have hmay := Lib.hid (fun V (hV : Below w.heap.size w V) (B : Option Addr) (kb : Nat) (h : sm = true) (hB : Rd 5 encBlk V B (l ++ [b])) => may_any (l ++ [b]) B kb V hB)
  have hon1 := Lib.hid (fun V (hV : Below w.heap.size w V) (B : Option Addr) (kb : Nat) (h : sm = true) (hB : Rd 5 encBlk V B (l ++ [b])) (i : ID) => on_any c (l ++ [b]) vs i A B A3 k kb k3 V (hr.below hV) hB (hr3.below hV) (by have := hsmall.out h; simp; omega) (by have := hsmall.out h; omega))
  have hon2 := Lib.hid (fun V (hV : Below w.heap.size w V) (h : sm = true) => on_any c l vs id A A2 A3 k k2 k3 V (hr.below hV) (hr2.below hV) (hr3.below hV) (by have := hsmall.out h; omega) (by have := hsmall.out h; omega))
  have e2 : (l ++ [b]).length = l.length + 1 := by simp
  rw [e2] at hmay hon1
  have e3 := Lib.hid (fun (ht : Tree (l ++ [b])) (hv : ∀ v ∈ vs, v.head ≠ nb) => onC_snoc c vs id ht (by rw [hnb]; exact hv))
  have e4 := Lib.hid (fun (ht : Tree (l ++ [b])) (hv : ∀ v ∈ vs, v.head ≠ nb) => onC_new c vs ht (by rw [hnb]; exact hv))
  rw [hnb] at e4
  clear e2 hnb
  unfold cfgv idv blkv at *
  have hW : ∃ W, (((w.alloc (.cells #[.slice A c.W.length k, .int .u64 c.seed, .int .i64 c.epoch, .int .i64 c.num, .int .i64 c.den] 25)).alloc (.cells #[.int .i64 b.slot, .int .i64 b.frm, .int .u64 b.par.hi, .int .u64 b.par.lo, .int .u64 b.salt] 45)).alloc (.cells #[.int .u64 id.hi, .int .u64 id.lo] 29)) = W := ⟨_, rfl⟩
  obtain ⟨W, hW⟩ := hW
  have hB : Below w.heap.size w W := by subst hW; exact (((Below.refl _ w).alloc (Nat.le_refl _) _).alloc (by simp) _).alloc (by simp <;> omega) _
  have b0 : W.heap[w.heap.size]? = some (.cells #[.slice A c.W.length k, .int .u64 c.seed, .int .i64 c.epoch, .int .i64 c.num, .int .i64 c.den] 25 (0, 0)) := by subst hW; exact ha_lt (ha_lt (ha_at rfl))
  have b1 : W.heap[w.heap.size + 1]? = some (.cells #[.int .i64 b.slot, .int .i64 b.frm, .int .u64 b.par.hi, .int .u64 b.par.lo, .int .u64 b.salt] 45 (0, 0)) := by subst hW; exact ha_lt (ha_at (by simp))
  have b2 : W.heap[w.heap.size + 1 + 1]? = some (.cells #[.int .u64 id.hi, .int .u64 id.lo] 29 (0, 0)) := by subst hW; exact ha_at (by simp)
  obtain ⟨c0, c1, c2, c3, c4⟩ := blk5 b0
  go_enter Try.func7, Try.ntmps7
  go_wp2_with (first
    | (go_at_call 9; refine (haw _).mono ?_; clear haw; rintro e w1 ⟨rfl, hb1⟩; have hB1 := below_call hB hB.size hb1; obtain ⟨d0, d1, d2, d3, d4⟩ := blk5 (bl_own hb1 b0))
    | (go_at_call 10; refine (hfew _).mono ?_; clear hfew; rintro e w3 ⟨rfl, hb3⟩; have hB3 := below_call hB1 hB1.size hb3))
  have a0 := bl_own hb3 (bl_own hb1 b0)
  have a1 := bl_own hb3 (bl_own hb1 b1)
  have a2 := bl_own hb3 (bl_own hb1 b2)
  clear b0 b1 b2 c0 c1 c2 c3 c4 d0 d1 d2 d3 d4 hb1 hb3 hB1 hB
  obtain ⟨c0, c1, c2, c3, c4⟩ := blk5 a1
  have hKD : Below w3.heap.size w3 w3.drew := (Below.refl _ w3).drew
  have hszD : w3.drew.heap.size = w3.heap.size := rfl
  obtain ⟨Y, hY⟩ : ∃ Y, w3.drew.alloc (.cells #[.int .i64 b.slot, .int .i64 b.frm, .int .u64 b.par.hi, .int .u64 b.par.lo, .int .u64 b.salt] 45) = Y := ⟨_, rfl⟩
  have hY2 : (w3.alloc (.cells #[.int .i64 b.slot, .int .i64 b.frm, .int .u64 b.par.hi, .int .u64 b.par.lo, .int .u64 b.salt] 45)).drew = Y := hY
  have hKY : Below w3.heap.size w3 Y := by subst hY; exact hKD.alloc hKD.size _
  have hxY : Y.heap[w3.heap.size]? = some (.cells #[.int .i64 b.slot, .int .i64 b.frm, .int .u64 b.par.hi, .int .u64 b.par.lo, .int .u64 b.salt] 45 (0, 0)) := by subst hY; exact ha_at hszD.symm
  have hrD := hr2.below (below_call hB3 hB3.size hKD)
  have hrY := hr2.below (below_call hB3 hB3.size hKY)
  have hnb : ∀ k, (Value.slice none 0 0).ownBlock = some k → w3.heap.size ≤ k := fun k e => by simp [Value.ownBlock] at e
  have hbn : (([] : List Blk).length + l.length) * 40 ≤ 140737488355328 := by simp; omega
  have hln : ([] : List Blk).length + l.length ≤ maxLen := by simp [maxLen]; omega
  have hb1 : (([] ++ l : List Blk).length + 1) * 40 ≤ 140737488355328 := by simp; omega
  have hl1 : ([] ++ l : List Blk).length + 1 ≤ maxLen := by simp [maxLen]; omega
  go_region_held3 (fun W' => W'.cell? ⟨w.heap.size + 1, 0, none⟩ = some (.int .i64 b.slot) ∧ W'.cell? ⟨w.heap.size + 1, 1, none⟩ = some (.int .i64 b.frm) ∧ W'.cell? ⟨w.heap.size + 1, 2, none⟩ = some (.int .u64 b.par.hi) ∧ W'.cell? ⟨w.heap.size + 1, 3, none⟩ = some (.int .u64 b.par.lo) ∧ W'.cell? ⟨w.heap.size + 1, 4, none⟩ = some (.int .u64 b.salt))
    (first | exact ⟨c0, c1, c2, c3, c4⟩ | exact blk5 (bl_own hK6 a1) | exact blk5 (bl_own hKZ a1) | exact blk5 (bl_own hK4 a1) | exact blk5 (bl_own hKY a1)) ((first
    | (with_reducible refine step_append_all (w := w3.drew) (by with_unfolding_all rfl) (by with_unfolding_all rfl) hunB infoB (by with_unfolding_all rfl) (by decide) encBlk_len encBlk_one (by with_unfolding_all rfl) (Own.nil _ w3.heap.size _ _ _) (by with_unfolding_all rfl) hN hrD hbn hln hKD.size ?_; intro v4 w4 ho4 hg4 hat4; have hK4 := below_step hKD hKD.size hg4 hnb; have hO4 : ∀ k, v4.ownBlock = some k → w3.heap.size ≤ k := fun k hk => (ho4.base k hk).1; obtain ⟨Z, hZ⟩ : ∃ Z, w4.alloc (.cells #[.int .i64 b.slot, .int .i64 b.frm, .int .u64 b.par.hi, .int .u64 b.par.lo, .int .u64 b.salt] 45) = Z := ⟨_, rfl⟩; have hKZ : Below w3.heap.size w3 Z := (by subst hZ; exact hK4.alloc hK4.size _); have hoZ : Own Z w3.heap.size 45 5 encBlk v4 ([] ++ l) := (by subst hZ; exact ho4.below ((Below.refl _ w4).alloc (Nat.le_refl _) _)); have hxZ : Z.heap[w4.heap.size]? = some (.cells #[.int .i64 b.slot, .int .i64 b.frm, .int .u64 b.par.hi, .int .u64 b.par.lo, .int .u64 b.salt] 45 (0, 0)) := (by subst hZ; exact ha_at rfl))
    | (with_reducible refine step_append_all (w := Y) (by with_unfolding_all rfl) (by with_unfolding_all rfl) hunB infoB (by with_unfolding_all rfl) (by decide) encBlk_len encBlk_one (by with_unfolding_all rfl) (Own.nil _ w3.heap.size _ _ _) (by with_unfolding_all rfl) hN hrY hbn hln hKY.size ?_; intro v4 Z hoZ hgZ hatZ; have hKZ := below_step hKY hKY.size hgZ hnb; have hO4 : ∀ k, v4.ownBlock = some k → w3.heap.size ≤ k := fun k hk => (hoZ.base k hk).1; have hxZ := grown_own hgZ hxY (by simp [Value.ownBlock]))
    | (with_reducible refine step_append1 (w := Z) (by with_unfolding_all rfl) (by with_unfolding_all rfl) hunB infoB (by with_unfolding_all rfl) (by decide) encBlk_len encBlk_one (by with_unfolding_all rfl) hoZ (c := 1) (by with_unfolding_all rfl) (y := b) hxZ (by with_unfolding_all rfl) hb1 hl1 hKZ.size ?_; intro v6 w6 ho6 hg6 hat6; have hK6 := below_step hKZ hKZ.size hg6 hO4; obtain ⟨A6, k6, hv6, hR6⟩ := ho6.rd encBlk_len; simp only [List.nil_append, List.length_append, List.length_singleton] at hv6 hR6; subst hv6)))
  all_goals
    have r0 := bl_own hK6 a0
    have r1 := bl_own hK6 a1
    have r2 := bl_own hK6 a2
    have hR7 := below_call hB3 hB3.size hK6
    obtain ⟨s0, s1, s2, s3, s4⟩ := blk5 r0
    obtain ⟨s5, s6, s7, s8, s9⟩ := blk5 r1
    obtain ⟨s10, s11, _, _⟩ := blk2 r2
    have g0 := gr_cell s0
    have g1 := gr_cell s1
    have g2 := gr_cell s2
    have g3 := gr_cell s3
    have g4 := gr_cell s4
    have g5 := gr_cell s5
    have g6 := gr_cell s6
    have g7 := gr_cell s7
    have g8 := gr_cell s8
    have g9 := gr_cell s9
    have g10 := gr_cell s10
    have g11 := gr_cell s11
    have hBg : ∀ p, Below w.heap.size w (gr w6 p) := fun p => hR7.trans ((gr_below _ _).mono hR7.size)
    have hRg := fun p => hR6.below (gr_below w6 p)
    have hmlen := hR6.1
    rw [show (l ++ [b]).length = l.length + 1 by simp] at hmlen
    clear c0 c1 c2 c3 c4 a0 a1 a2 hK6 hKZ hO4 hKD hKY hxY hnb hrD hrY hoZ hxZ s0 s1 s2 s3 s4 s5 s6 s7 s8 s9 s10 s11 hbn hln hb1 hl1
    go_wp2_with fail
    cases hsv : sm with
    | false =>
      subst hsv
      refine wp_region_gr (by kernel_rfl) (by kernel_rfl) ?_
      repeat (go_big_quiet_step (fail))
      refine wpQuiet_nil ?_
      rintro _ ⟨pq, rfl⟩
      go_wp2
      go_ret
      exact ⟨rfl, hBg _⟩
    | true =>
      have hmay' := fun p => hmay.out _ (hBg p) _ k6 hsv (hRg p)
      by_cases ht : Tree (l ++ [b])
      · have hd : mayB (l ++ [b]) = true := by simp [mayB, ht]
        rw [hd] at hmay'
        have heq := eql_idw id nb
        by_cases hid : id = nb
        · have hd2 : decide (id = nb) = true := by simpa using hid
          rw [hd2] at heq
          clear hd hd2 hid
          subst hsv
          refine wp_region_gr (by kernel_rfl) (by kernel_rfl) ?_
          repeat (go_big_quiet_step ((first
            | (go_at_call 20; with_reducible exact Calls.gr_of (hmay' _))
            | (go_at_call 21; with_reducible exact Calls.gr_of (hnm _)))))
          refine wpQuiet_nil ?_
          rintro _ ⟨pq, rfl⟩
          go_wp2
          go_ret
          exact ⟨rfl, hBg _⟩
        · have hd2 : decide (id = nb) = false := by simpa using hid
          rw [hd2] at heq
          clear hd hd2
          have ht' := Lib.hid ht
          have hid' := Lib.hid hid
          clear ht hid
          have hsv' := Lib.hid hsv
          subst hsv
          refine wp_region_gr (by kernel_rfl) (by kernel_rfl) ?_
          repeat (go_big_quiet_step ((first
            | (go_at_call 20; with_reducible exact Calls.gr_of (hmay' _))
            | (go_at_call 21; with_reducible exact Calls.gr_of (hnm _)))))
          refine wpQuiet_nil ?_
          rintro _ ⟨pq, rfl⟩
          go_wp2_with fail
          clear heq hmay' hmay
          go_loopw [14] (fun i wr => ∃ j : Nat, j ≤ vs.length ∧ i = .int .i64 j ∧ (∀ v ∈ vs.take j, v.head ≠ nb) ∧ Below w6.heap.size w6 wr) (fun i _ => vs.length - (intOf i).toNat)
          case atStart => exact ⟨0, Nat.zero_le _, rfl, by simp, gr_below _ _⟩
          case round =>
            obtain ⟨j, hj, rfl, hno, hBW⟩ := hrel
            have hno' := Lib.hid hno
            clear hno g0 g1 g2 g3 g4 g5 g6 g7 g8 g9 g10 g11
            have hBr := below_call hR7 hR7.size hBW
            have hBg2 : ∀ p, Below w.heap.size w (gr wr p) := fun p => hBr.trans ((gr_below _ _).mono hBr.size)
            have hRg2 := fun p => (hR6.below hBW).below (gr_below wr p)
            obtain ⟨s0, s1, s2, s3, s4⟩ := blk5 (bl_own hBW r0)
            obtain ⟨s5, s6, s7, s8, s9⟩ := blk5 (bl_own hBW r1)
            obtain ⟨s10, s11, _, _⟩ := blk2 (bl_own hBW r2)
            have g0 := gr_cell s0
            have g1 := gr_cell s1
            have g2 := gr_cell s2
            have g3 := gr_cell s3
            have g4 := gr_cell s4
            have g5 := gr_cell s5
            have g6 := gr_cell s6
            have g7 := gr_cell s7
            have g8 := gr_cell s8
            have g9 := gr_cell s9
            have g10 := gr_cell s10
            have g11 := gr_cell s11
            clear s0 s1 s2 s3 s4 s5 s6 s7 s8 s9 s10 s11
            by_cases hlt : j < vs.length
            · obtain ⟨b', o, rfl, hbo, d0, d1, d2, d3⟩ := (hr3.below hBr).atVote hlt
              obtain ⟨x, hxe⟩ : ∃ x, vs[j] = x := ⟨_, rfl⟩
              have htk := Lib.hid (show vs.take (j + 1) = vs.take j ++ [x] by rw [← hxe]; exact List.take_succ_eq_append_getElem hlt)
              rw [hxe] at d0 d1 d2 d3
              clear hxe
              have f2 := gr_cell d2
              have f3 := gr_cell d3
              have heq2 := eql_idw x.head nb
              by_cases hxn : x.head = nb
              · have hd2 : decide (x.head = nb) = true := by simpa using hxn
                rw [hd2] at heq2
                clear hd2 hxn
                go_wp2_with fail
                refine wp_region_gr (by kernel_rfl) (by kernel_rfl) ?_
                repeat (go_big_quiet_step ((go_at_call 21; with_reducible exact Calls.gr_of (hnm _))))
                refine wpQuiet_nil ?_
                rintro _ ⟨pq, rfl⟩
                go_wp2
                go_ret
                exact ⟨rfl, hBg2 _⟩
              · have hd2 : decide (x.head = nb) = false := by simpa using hxn
                rw [hd2] at heq2
                have hxn' := Lib.hid hxn
                clear hd2 hxn
                go_wp2_with fail
                refine wp_region_gr (by kernel_rfl) (by kernel_rfl) ?_
                repeat (go_big_quiet_step ((go_at_call 21; with_reducible exact Calls.gr_of (hnm _))))
                refine wpQuiet_nil ?_
                rintro _ ⟨pq, rfl⟩
                go_wp2
                go_roundw
                case rel => exact ⟨j + 1, hlt, by go_num, fun v hv => by rw [htk.out] at hv; rcases List.mem_append.1 hv with h | h; exact hno'.out v h; rw [List.mem_singleton.1 h]; exact hxn'.out, hBW.trans ((gr_below _ _).mono hBW.size)⟩
                case measure => simp [intOf]; omega
            · obtain rfl : j = vs.length := by omega
              have hall : ∀ v ∈ vs, v.head ≠ nb := by have := hno'.out; rwa [List.take_length] at this
              have h1' := fun p => hon1.out _ (hBg2 p) _ k6 trivial (hRg2 p) id
              have h3' := fun p => hon1.out _ (hBg2 p) _ k6 trivial (hRg2 p) nb
              have h2' := fun p => hon2.out _ (hBg2 p) trivial
              rw [e3.out ht'.out hall] at h1'
              rw [e4.out ht'.out hall] at h3'
              clear hall
              go_wp2_with fail
              refine wp_region_gr (by kernel_rfl) (by kernel_rfl) ?_
              repeat (go_big_quiet_step ((first
                | (go_at_call 11; with_reducible exact Calls.gr_of (h1' _))
                | (go_at_call 11; with_reducible exact Calls.gr_of (h2' _))
                | (go_at_call 11; with_reducible exact Calls.gr_of (h3' _))
                | (go_at_call 21; with_reducible exact Calls.gr_of (hnm _)))))
              refine wpQuiet_nil ?_
              rintro _ ⟨pq, rfl⟩
              go_wp2
              go_ret
              exact ⟨rfl, hBg2 _⟩
      · have hd : mayB (l ++ [b]) = false := by simp [mayB, ht]
        rw [hd] at hmay'
        clear hd ht
        subst hsv
        refine wp_region_gr (by kernel_rfl) (by kernel_rfl) ?_
        repeat (go_big_quiet_step ((go_at_call 20; with_reducible exact Calls.gr_of (hmay' _))))
        refine wpQuiet_nil ?_
        rintro _ ⟨pq, rfl⟩
        go_wp2
        go_ret
        exact ⟨rfl, hBg _⟩
theorem more_walk (A : Option Addr) (c : Cfg) (k : Nat) (A2 : Option Addr) (l : List Blk) (k2 : Nat) (A3 : Option Addr) (vs : List Vote) (k3 : Nat) (b : Blk) (id : ID) (w : World) (_ : c.W.length ≤ k) (_ : k ≤ maxLen) (hr : Rd 1 encI w A c.W) (_ : c.Ok) (hlk : l.length ≤ k2) (_ : k2 ≤ maxLen) (hr2 : Rd 5 encBlk w A2 l) (_ : ∀ b ∈ l, b.Ok) (hN : A2 = none → k2 = 0) (hz : k2 * 40 ≤ 140737488351232) (_ : vs.length ≤ k3) (_ : k3 ≤ maxLen) (hr3 : Rd 4 encVote w A3 vs) (_ : ∀ b ∈ vs, b.Ok) (_ : b.Ok) (_ : id.Ok) :
    Calls Try.prog 7 #[cfgv A k c, .slice A2 l.length k2, .slice A3 vs.length k3, blkv b, idv id] w fun e w' => e = .returned (.bool true) ∧ Below w.heap.size w w' :=
  more_any c l vs b id A A2 A3 k k2 k3 w hr hr2 hr3 hN hlk hz
end Go.Proofs.Ytlhndhgkoacilaa
