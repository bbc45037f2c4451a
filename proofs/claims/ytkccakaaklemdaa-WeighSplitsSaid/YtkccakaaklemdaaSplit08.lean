/- WeighSplits, walked. -/
import Derived.Test.YtkccakaaklemdaaRead
import Derived.Test.YtkccakaaklemdaaSplitP
import Derived.Test.YtkccakaaklemdaaVoteE
import Derived.Test.YtkccakaaklemdaaAppend
namespace Go.Proofs.Ytkccakaaklemdaa
open Go.RowKit
set_option maxRecDepth 100000 in
set_option maxHeartbeats 4000000 in
theorem splits_any (c : Cfg) (l : List Blk) (vs : List Vote) (s : Int) (id : ID) (A A2 A3 : Option Addr) (k k2 k3 : Nat) (w : World) (hr : Rd 1 encI w A c.W) (hr2 : Rd 5 encBlk w A2 l) (hr3 : Rd 4 encVote w A3 vs) :
    Calls Try.prog 3 #[cfgv A k c, .slice A2 l.length k2, .slice A3 vs.length k3, .int .i64 s, idv id] w fun e w' => e = .returned (.bool true) ∧ Below w.heap.size w w' := by
  have hm := hr.1
  have hm2 := hr2.1
  have hm3 := hr3.1
  have hunI := Try.underlying22
  have haw := fun V => awake_any V
  have hfew := fun V => few_any c l.length vs.length A A2 A3 k k2 k3 V hm hm2 hm3
  by_cases hsm : c.W.length ≤ 40 ∧ l.length ≤ 30 ∧ vs.length ≤ 30
  · have hd : decide (c.W.length ≤ 40 ∧ l.length ≤ 30 ∧ vs.length ≤ 30) = true := by simpa using hsm
    rw [hd] at hfew
    obtain ⟨hsm1, hsm2, hsm3⟩ := hsm
    clear hd
    have hmay := fun V (hV : Below w.heap.size w V) => may_any l A2 k2 V (hr2.below hV)
    by_cases ht : Tree l
    · have hd : mayB l = true := by simp [mayB, ht]
      rw [hd] at hmay
      have hlm := ofL_len vs s
      have hrm := (ofL_is vs s).1
      have hof := fun V (hV : Below w.heap.size w V) => vof_any vs s A3 k3 V (hr3.below hV) (by omega)
      obtain ⟨m, hme⟩ : ∃ m, ofL vs s = m := ⟨_, rfl⟩
      rw [hme] at hlm hrm hof
      have hlm3 : m.length ≤ 30 := by omega
      clear hme hlm hd
      have hki := fun V (hV : Below w.heap.size w V) => kids_any l id A2 k2 V (hr2.below hV) (by omega)
      rw [show kids l id = kidsOf l id by simp [kids, ht]] at hki
      have hlk := kidsOf_len l id
      have hsplit := Lib.hid (fun h => on_splits c ht hrm (id := id) h)
      have hunk := Lib.hid (fun h => on_unknown c (l := l) m (id := id) h)
      obtain ⟨ks, hks⟩ : ∃ ks, kidsOf l id = ks := ⟨_, rfl⟩
      rw [hks] at hki hlk hsplit
      have hlk3 : ks.length ≤ 30 := by omega
      clear hks hlk
      have hch := fun V (hV : Below w.heap.size w V) => chain_any l id A2 k2 V (hr2.below hV) (fun m h => tree_ahead h) (by omega)
      have hon := Lib.hid (fun V (hV : Below w.heap.size w V) (B : Option Addr) (kb : Nat) (hB : Rd 4 encVote V B m) (x : ID) => on_any c l m x A A2 B k k2 kb V (hr.below hV) (hr2.below hV) hB (by omega) (by omega))
      have hwe := Lib.hid (fun V (hV : Below w.heap.size w V) (B : Option Addr) (kb : Nat) (hB : Rd 1 encI V B (ownOf m id)) => dweight_any c (ownOf m id) A B k kb V (hr.below hV) hB)
      have hcb : ∀ x, 0 ≤ onC c l m x ∧ onC c l m x ≤ 13194139533312 := fun x => weightC_bd c _
      have hwb := weightC_bd c (ownOf m id)
      obtain ⟨wo, hwo⟩ : ∃ wo, weightC c (ownOf m id) = wo := ⟨_, rfl⟩
      rw [hwo] at hwe hwb hsplit
      clear hwo ht hrm
      have hch' := Lib.hid hch
      have hki' := Lib.hid hki
      have hof' := Lib.hid hof
      have hcb' := Lib.hid hcb
      clear hch hki hof hcb
      obtain ⟨f, hf⟩ : ∃ f, onC c l m = f := ⟨_, rfl⟩
      rw [hf] at hcb' hsplit hunk hon
      clear hf
      unfold cfgv idv at *
      have hW : ∃ W, ((w.alloc (.cells #[.slice A c.W.length k, .int .u64 c.seed, .int .i64 c.epoch, .int .i64 c.num, .int .i64 c.den] 25)).alloc (.cells #[.int .u64 id.hi, .int .u64 id.lo] 29)) = W := ⟨_, rfl⟩
      obtain ⟨W, hW⟩ := hW
      have hB : Below w.heap.size w W := by subst hW; exact ((Below.refl _ w).alloc (Nat.le_refl _) _).alloc (by simp) _
      have b0 : W.heap[w.heap.size]? = some (.cells #[.slice A c.W.length k, .int .u64 c.seed, .int .i64 c.epoch, .int .i64 c.num, .int .i64 c.den] 25 (0, 0)) := by subst hW; exact ha_lt (ha_at rfl)
      have b1 : W.heap[w.heap.size + 1]? = some (.cells #[.int .u64 id.hi, .int .u64 id.lo] 29 (0, 0)) := by subst hW; exact ha_at (by simp)
      obtain ⟨c0, c1, c2, c3, c4⟩ := blk5 b0
      go_enter Try.func3, Try.ntmps3
      go_wp2_with (first
        | (go_at_call 11; refine (haw _).mono ?_; clear haw; rintro e w1 ⟨rfl, hb1⟩; have hB1 := below_call hB hB.size hb1; have a0 := bl_own hb1 b0; have a1 := bl_own hb1 b1; obtain ⟨d0, d1, d2, d3, d4⟩ := blk5 a0)
        | (go_at_call 12; refine (hfew _).mono ?_; clear hfew; rintro e w2 ⟨rfl, hb2⟩; have hB2 := below_call hB1 hB1.size hb2; have e0 := bl_own hb2 a0; have e1 := bl_own hb2 a1)
        | (go_at_call 13; refine (hmay _ hB2).mono ?_; clear hmay; rintro e w3 ⟨rfl, hb3⟩; have hB3 := below_call hB2 hB2.size hb3; have f0 := bl_own hb3 e0; have f1 := bl_own hb3 e1)
        | (go_at_call 14; refine (hof'.out _ hB3).mono ?_; clear hof'; rintro e w4 ⟨u, rfl, hom, hb4⟩; obtain ⟨A4, k4, rfl, hR4⟩ := hom.rd encVote_len; have hB4 := below_call hB3 hB3.size hb4; have g0 := bl_own hb4 f0; have g1 := bl_own hb4 f1; obtain ⟨g5, g6, _, _⟩ := blk2 g1)
        | (go_at_call 15; refine (hki'.out _ hB4).mono ?_; clear hki'; rintro e w5 ⟨u, rfl, hok, hb5⟩; obtain ⟨A5, k5, rfl, hR5⟩ := hok.rd encID_len; have hB5 := below_call hB4 hB4.size hb5; have h0 := bl_own hb5 g0; have h1 := bl_own hb5 g1; have hS4 := hR4.below hb5))
      clear b0 b1 c0 c1 c2 c3 c4 d0 d1 d2 d3 d4 a0 a1 e0 e1 f0 f1 g0 g1 g5 g6 hb1 hb2 hb3 hb4 hb5 hB hB1 hB2 hB3 hB4 hom hok hR4
      go_loopw [14, 16] (fun q i wr => ∃ j : Nat, j ≤ ks.length ∧ i = .int .i64 j ∧ q = .int .i64 (sumL f (ks.take j)) ∧ Below w5.heap.size w5 wr) (fun _ i _ => ks.length - (intOf i).toNat)
      case atStart => exact ⟨0, Nat.zero_le _, rfl, rfl, Below.refl _ _⟩
      case round =>
        obtain ⟨j, hj, rfl, rfl, hBW⟩ := hrel
        have hBr := below_call hB5 hB5.size hBW
        have hb := sumL_bd hcb'.out (ks.take j)
        have hjl : (ks.take j).length = j := by simp; omega
        rw [hjl] at hb
        by_cases hlt : j < ks.length
        · obtain ⟨b', o, rfl, hbo, d0, d1⟩ := (hR5.below hBW).atID hlt
          have hsn := show sumL f (ks.take (j + 1)) = sumL f (ks.take j) + f ks[j] by rw [List.take_succ_eq_append_getElem hlt, sumL_snoc]
          obtain ⟨x, hx⟩ : ∃ x, ks[j] = x := ⟨_, rfl⟩
          rw [hx] at d0 d1 hsn
          clear hx
          have hfx := hcb'.out x
          have hon1 := fun p => hon.out (gr wr p) (hBr.trans ((gr_below _ _).mono hBr.size)) _ k4 ((hS4.below hBW).below (gr_below wr p)) x
          obtain ⟨fx, hfe⟩ : ∃ fx, f x = fx := ⟨_, rfl⟩
          obtain ⟨sj, hsj⟩ : ∃ sj, sumL f (ks.take j) = sj := ⟨_, rfl⟩
          rw [hfe] at hon1 hfx hsn
          rw [hsj] at hsn hb
          rw [hsj]
          have hsn' := Lib.hid hsn
          have hsj' := Lib.hid hsj
          clear hsn hfe hsj
          obtain ⟨s0, s1, s2, s3, s4⟩ := blk5 (bl_own hBW h0)
          have y0 := gr_cell s0
          have y1 := gr_cell s1
          have y2 := gr_cell s2
          have y3 := gr_cell s3
          have y4 := gr_cell s4
          have y5 := gr_cell d0
          have y6 := gr_cell d1
          go_wp2_with fail
          refine wp_region_gr (by kernel_rfl) (by kernel_rfl) ?_
          repeat (go_big_quiet_step ((go_at_call 16; with_reducible exact Calls.gr_of (hon1 _))))
          refine wpQuiet_nil ?_
          rintro _ ⟨pq, rfl⟩
          go_wp2
          go_roundw
          case rel => exact ⟨j + 1, hlt, by go_num, by rw [hsn'.out], hBW.trans ((gr_below _ _).mono hBW.size)⟩
          case measure => simp [intOf]; omega
        · obtain rfl : j = ks.length := by omega
          rw [List.take_length] at hb ⊢
          obtain ⟨sum, hsum⟩ : ∃ sum, sumL f ks = sum := ⟨_, rfl⟩
          rw [hsum] at hb hsplit
          rw [hsum]
          clear hsum
          have i0 := bl_own hBW h0
          have i1 := bl_own hBW h1
          have hT4 := hS4.below hBW
          clear hBW h0 h1 hS4 hR5 hB5
          rename World => w6
          go_wp2_with fail
          go_loopw [17, 18] (fun v i wr => ∃ j : Nat, j ≤ m.length ∧ i = .int .i64 j ∧ Own wr w6.heap.size 3 1 encI v (ownOf (m.take j) id) ∧ Below w6.heap.size w6 wr) (fun _ i _ => m.length - (intOf i).toNat)
          case atStart => exact ⟨0, Nat.zero_le _, rfl, Own.nil _ _ _ _ _, Below.refl _ _⟩
          case round =>
            obtain ⟨j, hj2, rfl, hown, hBT⟩ := hrel
            have hBt := below_call hBr hBr.size hBT
            by_cases hlt : j < m.length
            · obtain ⟨b', o, rfl, hbo, d0, d1, d2, d3⟩ := (hT4.below hBT).atVote hlt
              have hsn := ownOf_snoc (id := id) hlt
              have hle := ownOf_len (m.take j) id
              have htk : (m.take j).length ≤ 30 := by simp; omega
              have hlo : (ownOf (m.take j) id).length ≤ 30 := by omega
              clear hle htk
              obtain ⟨x, hx⟩ : ∃ x, m[j] = x := ⟨_, rfl⟩
              rw [hx] at d0 d1 d2 d3 hsn
              clear hx
              obtain ⟨y0, y1, _, _⟩ := blk2 (bl_own hBT i1)
              have heq := eql_idw x.head id
              have hvb : ∀ k, u17.ownBlock = some k → w6.heap.size ≤ k := fun k hk => (hown.base k hk).1
              by_cases hin : x.head = id
              · have hd : decide (x.head = id) = true := by simpa using hin
                rw [hd] at heq
                rw [if_pos hin] at hsn
                have hsn' := Lib.hid hsn
                clear hsn hd hin
                go_wp2_with fail
                go_quiet (fail)
                have hW5 : Below wr.heap.size wr ((wr.drewN nq).alloc (.cells #[.int .i64 x.frm] 3)) := (pw_below_drewN (Below.refl _ wr) nq).alloc (Nat.le_refl _) _
                have ho5 := hown.below hW5
                have hB5 := below_call hBT hBT.size hW5
                go_wp2_with (at_builtin; refine wp_append1 rfl rfl hunI infoI rfl (by decide) encI_len encI_one rfl ho5 (g := wr.heap.size) (c := 1) rfl (y := x.frm) (ha_at rfl) rfl (by omega) (by unfold maxLen; omega) hB5.size ?_; intro v' w9 ho6 hg6 hat6)
                go_roundw
                case rel =>
                  refine ⟨j + 1, hlt, by go_num, ?_, ?_⟩
                  · rw [hsn'.out]; exact ho6
                  · exact below_step hB5 hB5.size hg6 hvb
                case measure => simp [intOf]; omega
              · have hd : decide (x.head = id) = false := by simpa using hin
                rw [hd] at heq
                rw [if_neg hin] at hsn
                have hsn' := Lib.hid hsn
                clear hsn hd hin
                go_wp2_with fail
                go_quiet (fail)
                go_wp2_with fail
                go_roundw
                case rel => exact ⟨j + 1, hlt, by go_num, by rw [hsn'.out, List.append_nil]; exact hown.below (pw_below_drewN (Below.refl _ wr) _), pw_below_drewN hBT _⟩
                case measure => simp [intOf]; omega
            · obtain rfl : j = m.length := by omega
              rw [List.take_length] at hown
              obtain ⟨A6, k6, rfl, hR6⟩ := hown.rd encI_len
              have j0 := bl_own hBT i0
              have j1 := bl_own hBT i1
              have hU4 := hT4.below hBT
              obtain ⟨y5, y6, _, _⟩ := blk2 j1
              clear i0 i1 hBT hown hT4
              by_cases hne : chain l id = []
              · have hlen : (chain l id).length = 0 := by rw [hne]; rfl
                have hz := hunk.out hne
                have hon2 := fun V (hV : Below w.heap.size w V) (hB : Rd 4 encVote V A4 m) => hon.out V hV A4 k4 hB id
                rw [hz] at hon2
                clear hne
                go_wp2_with (first
                  | (go_at_call 17; (refine (hch'.out _ hBt).mono ?_; clear hch'; rintro e w7 ⟨uc, rfl, hc7, hb7⟩; obtain ⟨Ac, cc, rfl, _⟩ := hc7.rd encID_len; have hB7 := below_call hBt hBt.size hb7; obtain ⟨z0, z1, z2, z3, z4⟩ := blk5 (bl_own hb7 j0); obtain ⟨z5, z6, _, _⟩ := blk2 (bl_own hb7 j1); have hV4 := hU4.below hb7))
                  | (go_at_call 16; refine (hon2 _ hB7 hV4).mono ?_; clear hon2; rintro e w8 ⟨rfl, hb8⟩; have hB8 := below_call hB7 hB7.size hb8))
                go_ret
                exact ⟨rfl, hB8⟩
              · have hpos : 0 < (chain l id).length := List.length_pos_iff.2 hne
                have hs := hsplit.out hne
                have hon2 := fun V (hV : Below w.heap.size w V) (hB : Rd 4 encVote V A4 m) => hon.out V hV A4 k4 hB id
                have hwe2 := fun V (hV : Below w.heap.size w V) (hB : Rd 1 encI V A6 (ownOf m id)) => hwe.out V hV A6 k6 hB
                obtain ⟨fi, hfi⟩ : ∃ fi, f id = fi := ⟨_, rfl⟩
                rw [hfi] at hs hon2
                have hs' := Lib.hid hs
                clear hne hfi hs
                go_wp2_with (go_at_call 17; refine (hch'.out _ hBt).mono ?_; clear hch'; rintro e w7 ⟨uc, rfl, hc7, hb7⟩; obtain ⟨Ac, cc, rfl, _⟩ := hc7.rd encID_len; have hB7 := below_call hBt hBt.size hb7; obtain ⟨z0, z1, z2, z3, z4⟩ := blk5 (bl_own hb7 j0); obtain ⟨z5, z6, _, _⟩ := blk2 (bl_own hb7 j1); have hV4 := hU4.below hb7; have hV6 := hR6.below hb7)
                have hon3 := fun p => hon2 (gr w7 p) (hB7.trans ((gr_below _ _).mono hB7.size)) (hV4.below (gr_below w7 p))
                have hwe3 := fun p => hwe2 (gr w7 p) (hB7.trans ((gr_below _ _).mono hB7.size)) (hV6.below (gr_below w7 p))
                have t0 := gr_cell z0
                have t1 := gr_cell z1
                have t2 := gr_cell z2
                have t3 := gr_cell z3
                have t4 := gr_cell z4
                have t5 := gr_cell z5
                have t6 := gr_cell z6
                refine wp_region_gr (by kernel_rfl) (by kernel_rfl) ?_
                repeat (go_big_quiet_step ((first
                  | (go_at_call 16; with_reducible exact Calls.gr_of (hon3 _))
                  | (go_at_call 18; with_reducible exact Calls.gr_of (hwe3 _)))))
                refine wpQuiet_nil ?_
                rintro _ ⟨pq, rfl⟩
                go_wp2
                go_ret
                exact ⟨ret_bool (by rw [hs'.out]; simp), hB7.trans ((gr_below _ _).mono hB7.size)⟩
    · have hd : mayB l = false := by simp [mayB, ht]
      rw [hd] at hmay
      clear hd ht
      unfold cfgv idv at *
      have hW : ∃ W, ((w.alloc (.cells #[.slice A c.W.length k, .int .u64 c.seed, .int .i64 c.epoch, .int .i64 c.num, .int .i64 c.den] 25)).alloc (.cells #[.int .u64 id.hi, .int .u64 id.lo] 29)) = W := ⟨_, rfl⟩
      obtain ⟨W, hW⟩ := hW
      have hB : Below w.heap.size w W := by subst hW; exact ((Below.refl _ w).alloc (Nat.le_refl _) _).alloc (by simp) _
      have b0 : W.heap[w.heap.size]? = some (.cells #[.slice A c.W.length k, .int .u64 c.seed, .int .i64 c.epoch, .int .i64 c.num, .int .i64 c.den] 25 (0, 0)) := by subst hW; exact ha_lt (ha_at rfl)
      go_enter Try.func3, Try.ntmps3
      go_wp2_with (first
        | (go_at_call 11; refine (haw _).mono ?_; clear haw; rintro e w1 ⟨rfl, hb1⟩; have hB1 := below_call hB hB.size hb1; obtain ⟨c0, c1, c2, c3, c4⟩ := blk5 (bl_own hb1 b0))
        | (go_at_call 12; refine (hfew _).mono ?_; clear hfew; rintro e w2 ⟨rfl, hb2⟩; have hB2 := below_call hB1 hB1.size hb2)
        | (go_at_call 13; refine (hmay _ hB2).mono ?_; clear hmay; rintro e w3 ⟨rfl, hb3⟩; have hB3 := below_call hB2 hB2.size hb3))
      go_ret
      exact ⟨rfl, hB3⟩
  · have hd : decide (c.W.length ≤ 40 ∧ l.length ≤ 30 ∧ vs.length ≤ 30) = false := by simpa using hsm
    rw [hd] at hfew
    clear hsm hd
    unfold cfgv idv at *
    have hW : ∃ W, ((w.alloc (.cells #[.slice A c.W.length k, .int .u64 c.seed, .int .i64 c.epoch, .int .i64 c.num, .int .i64 c.den] 25)).alloc (.cells #[.int .u64 id.hi, .int .u64 id.lo] 29)) = W := ⟨_, rfl⟩
    obtain ⟨W, hW⟩ := hW
    have hB : Below w.heap.size w W := by subst hW; exact ((Below.refl _ w).alloc (Nat.le_refl _) _).alloc (by simp) _
    have b0 : W.heap[w.heap.size]? = some (.cells #[.slice A c.W.length k, .int .u64 c.seed, .int .i64 c.epoch, .int .i64 c.num, .int .i64 c.den] 25 (0, 0)) := by subst hW; exact ha_lt (ha_at rfl)
    go_enter Try.func3, Try.ntmps3
    go_wp2_with (first
      | (go_at_call 11; refine (haw _).mono ?_; clear haw; rintro e w1 ⟨rfl, hb1⟩; have hB1 := below_call hB hB.size hb1; obtain ⟨c0, c1, c2, c3, c4⟩ := blk5 (bl_own hb1 b0))
      | (go_at_call 12; refine (hfew _).mono ?_; clear hfew; rintro e w2 ⟨rfl, hb2⟩; have hB2 := below_call hB1 hB1.size hb2))
    go_ret
    exact ⟨rfl, hB2⟩
theorem splits_walk (A : Option Addr) (c : Cfg) (k : Nat) (A2 : Option Addr) (l : List Blk) (k2 : Nat) (A3 : Option Addr) (vs : List Vote) (k3 : Nat) (s : Int) (id : ID) (w : World) (_ : c.W.length ≤ k) (_ : k ≤ maxLen) (hr : Rd 1 encI w A c.W) (_ : c.Ok) (_ : l.length ≤ k2) (_ : k2 ≤ maxLen) (hr2 : Rd 5 encBlk w A2 l) (_ : ∀ b ∈ l, b.Ok) (_ : vs.length ≤ k3) (_ : k3 ≤ maxLen) (hr3 : Rd 4 encVote w A3 vs) (_ : ∀ b ∈ vs, b.Ok) (_ : I64 s) (_ : id.Ok) :
    Calls Try.prog 3 #[cfgv A k c, .slice A2 l.length k2, .slice A3 vs.length k3, .int .i64 s, idv id] w fun e w' => e = .returned (.bool true) ∧ Below w.heap.size w w' :=
  splits_any c l vs s id A A2 A3 k k2 k3 w hr hr2 hr3
end Go.Proofs.Ytkccakaaklemdaa
