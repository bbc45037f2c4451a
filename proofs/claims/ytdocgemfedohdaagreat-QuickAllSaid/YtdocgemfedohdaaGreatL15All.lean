/- QuickAll, walked. -/
import Derived.Test.YtdocgemfedohdaaGreatGD
import Derived.Test.YtdocgemfedohdaaGreatGP
import Derived.Deep.RegionLaw
import Derived.Test.YtdocgemfedohdaaGreatGH
namespace Go.Proofs.YtdocgemfedohdaaGreat
open Go.RowKit
set_option linter.unusedVariables false
set_option maxRecDepth 100000 in
set_option maxHeartbeats 8000000 in
theorem all15_any (c : Cfg) (l : List Blk) (s : Int) (x : ID) (A A2 : Option Addr) (k k2 : Nat) (w : World) (hr : Rd 1 encI w A c.W) (hr2 : Rd 5 encBlk w A2 l) :
    Calls Tryz.prog 3 #[cfgv A k c, .slice A2 l.length k2, .int .i64 s, idv x] w fun e w' => e = .returned (.bool true) ∧ Below w.heap.size w w' := by
  have hm := hr.1
  have hm2 := hr2.1
  have haw := fun V => awake15_any V
  have hfew := fun V => fewN_any c l.length 0 A A2 none k k2 0 V hm hm2 (by decide)
  by_cases hsm : c.W.length ≤ 40 ∧ l.length ≤ 20 ∧ 0 ≤ 30
  · rw [decide_eq_true hsm] at hfew
    obtain ⟨hsm1, hsm2, -⟩ := hsm
    have hmay := fun V (hV : Below w.heap.size w V) => dmay_any c A k V (hr.below hV)
    by_cases hmc : MayC c
    · have hch := fun V (hV : Below w.heap.size w V) => chain_any l x A2 k2 V (hr2.below hV) (fun m h => tree_ahead h) (by omega)
      have hcl := chain_bound (l := l) x
      by_cases hx0 : chain l x = []
      · rw [hx0] at hch
        rw [decide_eq_true hmc] at hmay
        clear hmc hx0 hcl
        unfold cfgv at *
        unfold idv at *
        have hW : ∃ W, (w.alloc (.cells #[.slice A c.W.length k, .int .u64 c.seed, .int .i64 c.epoch, .int .i64 c.num, .int .i64 c.den] 25)).alloc (.cells #[.int .u64 x.hi, .int .u64 x.lo] 28) = W := ⟨_, rfl⟩
        obtain ⟨W, hW⟩ := hW
        have hB : Below w.heap.size w W := by subst hW; exact ((Below.refl _ w).alloc (Nat.le_refl _) _).alloc (by simp <;> omega) _
        have b0 : W.heap[w.heap.size]? = some (.cells #[.slice A c.W.length k, .int .u64 c.seed, .int .i64 c.epoch, .int .i64 c.num, .int .i64 c.den] 25 (0, 0)) := by subst hW; exact ha_lt (ha_at rfl)
        have b1 : W.heap[w.heap.size + 1]? = some (.cells #[.int .u64 x.hi, .int .u64 x.lo] 28 (0, 0)) := by subst hW; exact ha_at (by simp)
        go_enter Tryz.func3, Tryz.ntmps3
        go_wp2_with (first
          | (go_at_call 5; (with_reducible refine (haw _).mono ?_); clear haw; rintro e w1 ⟨rfl, hb1⟩; have hB1 := below_call hB hB.size hb1; have a0 := bl_own hb1 b0; have a1 := bl_own hb1 b1; obtain ⟨p0, p1, p2, p3, p4⟩ := blk5 a0; obtain ⟨p5, p6, _, _⟩ := blk2 a1)
          | (go_at_call 6; (with_reducible refine (hfew _).mono ?_); clear hfew; rintro e w2 ⟨rfl, hb2⟩; have hB2 := below_call hB1 hB1.size hb2; have d0 := bl_own hb2 a0; have d1 := bl_own hb2 a1; obtain ⟨q0, q1, q2, q3, q4⟩ := blk5 d0; obtain ⟨q5, q6, _, _⟩ := blk2 d1)
          | (go_at_call 7; (with_reducible refine (hmay _ hB2).mono ?_); clear hmay; rintro e w3 ⟨rfl, hb3⟩; have hB3 := below_call hB2 hB2.size hb3; have f0 := bl_own hb3 d0; have f1 := bl_own hb3 d1; obtain ⟨r0, r1, r2, r3, r4⟩ := blk5 f0; obtain ⟨r5, r6, _, _⟩ := blk2 f1)
          | (go_at_call 8; (with_reducible refine (hch _ hB3).mono ?_); clear hch; rintro e w4 ⟨u, rfl, ho4, hb4⟩; obtain ⟨A4, k4, hu, hR4⟩ := ho4.rd encID_len; subst hu; have hB4 := below_call hB3 hB3.size hb4; have g0 := bl_own hb4 f0; have g1 := bl_own hb4 f1; obtain ⟨s0, s1, s2, s3, s4⟩ := blk5 g0; obtain ⟨s5, s6, _, _⟩ := blk2 g1))
        go_ret
        exact ⟨rfl, hB4⟩
      · have hcm := fun V (hV : Below w.heap.size w V) => committee_any c s A k V (hr.below hV)
        have hwt := Lib.hid (fun V (hV : Below w.heap.size w V) A4 k4 h4 => dweight_any c (comC c s) A A4 k k4 V (hr.below hV) h4)
        have htop := Lib.hid (top_all hmc (s := s) hx0)
        have hfa := Lib.hid (for_all c l s (chain_self hx0))
        have hsa := Lib.hid (sure_all hmc l s (chain_self hx0))
        have hnf := Lib.hid hmc.few
        have hcl2 := comC_len c s
        have hbnd : 0 ≤ 2 * c.num ∧ 2 * c.num ≤ 4611686018427387904 := by obtain ⟨-, -, -, n1, n2, n3, n4⟩ := hmc; omega
        have hw1 : wrap64 (2 * c.num) = 2 * c.num := by unfold wrap64; omega
        have hw2 : IntKind.i64.wrap (2 * c.num) = 2 * c.num := Go.IntWalk.i64_in _ (by omega)
        have hw1h := Lib.hid hw1
        have hw2h := Lib.hid hw2
        clear hbnd hw1 hw2
        have hr0 : weightC c (comC c s) = quickAll c s := rfl
        rw [hr0] at hwt
        clear hr0
        generalize quickAll c s = al at *
        generalize comC c s = cm at *
        have hz0 : (chain l x).length ≠ 0 := fun h => hx0 (List.length_eq_zero_iff.1 h)
        generalize chain l x = ch at *
        rw [decide_eq_true hmc] at hmay
        have z1 : ((ch.length : Int) == 0) = false := by simpa using hx0
        have z2 : ¬ ((ch.length : Int) = 0) := by omega
        have hunV := Tryz.underlying35
        clear hmc hx0 hz0
        unfold cfgv at *
        unfold idv at *
        have hwt := Lib.hid hwt.out
        have hW : ∃ W, (w.alloc (.cells #[.slice A c.W.length k, .int .u64 c.seed, .int .i64 c.epoch, .int .i64 c.num, .int .i64 c.den] 25)).alloc (.cells #[.int .u64 x.hi, .int .u64 x.lo] 28) = W := ⟨_, rfl⟩
        obtain ⟨W, hW⟩ := hW
        have hB : Below w.heap.size w W := by subst hW; exact ((Below.refl _ w).alloc (Nat.le_refl _) _).alloc (by simp <;> omega) _
        have b0 : W.heap[w.heap.size]? = some (.cells #[.slice A c.W.length k, .int .u64 c.seed, .int .i64 c.epoch, .int .i64 c.num, .int .i64 c.den] 25 (0, 0)) := by subst hW; exact ha_lt (ha_at rfl)
        have b1 : W.heap[w.heap.size + 1]? = some (.cells #[.int .u64 x.hi, .int .u64 x.lo] 28 (0, 0)) := by subst hW; exact ha_at (by simp)
        go_enter Tryz.func3, Tryz.ntmps3
        go_wp2_with (first
          | (go_at_call 5; (with_reducible refine (haw _).mono ?_); clear haw; rintro e w1 ⟨rfl, hb1⟩; have hB1 := below_call hB hB.size hb1; have a0 := bl_own hb1 b0; have a1 := bl_own hb1 b1; obtain ⟨p0, p1, p2, p3, p4⟩ := blk5 a0; obtain ⟨p5, p6, _, _⟩ := blk2 a1)
          | (go_at_call 6; (with_reducible refine (hfew _).mono ?_); clear hfew; rintro e w2 ⟨rfl, hb2⟩; have hB2 := below_call hB1 hB1.size hb2; have d0 := bl_own hb2 a0; have d1 := bl_own hb2 a1; obtain ⟨q0, q1, q2, q3, q4⟩ := blk5 d0; obtain ⟨q5, q6, _, _⟩ := blk2 d1)
          | (go_at_call 7; (with_reducible refine (hmay _ hB2).mono ?_); clear hmay; rintro e w3 ⟨rfl, hb3⟩; have hB3 := below_call hB2 hB2.size hb3; have f0 := bl_own hb3 d0; have f1 := bl_own hb3 d1; obtain ⟨r0, r1, r2, r3, r4⟩ := blk5 f0; obtain ⟨r5, r6, _, _⟩ := blk2 f1)
          | (go_at_call 8; (with_reducible refine (hch _ hB3).mono ?_); clear hch; rintro e w4 ⟨u, rfl, ho4, hb4⟩; obtain ⟨A4, k4, hu, hR4⟩ := ho4.rd encID_len; subst hu; have hB4 := below_call hB3 hB3.size hb4; have g0 := bl_own hb4 f0; have g1 := bl_own hb4 f1; obtain ⟨s0, s1, s2, s3, s4⟩ := blk5 g0; obtain ⟨s5, s6, _, _⟩ := blk2 g1)
          | (go_at_call 9; (with_reducible refine (hcm _ hB4).mono ?_); clear hcm; rintro e w5 ⟨u, rfl, ho5, hb5⟩; obtain ⟨A5, k5, hu, hR5⟩ := ho5.rd encI_len; subst hu; have hB5 := below_call hB4 hB4.size hb5; have i0 := bl_own hb5 g0; have i1 := bl_own hb5 g1))
        clear p0 q0 r0 s0 p1 q1 r1 s1 p2 q2 r2 s2 p3 q3 r3 s3 p4 q4 r4 s4 p5 q5 r5 s5 p6 q6 r6 s6 a0 a1 b0 b1 d0 d1 f0 f1 g0 g1 hb1 hb2 hb3 hb4 hb5 hB hB1 hB2 hB3 hB4 hW ho4 ho5 hR4 z1 z2
        go_loopw [12, 13] (fun v i wr => ∃ j : Nat, j ≤ cm.length ∧ i = .int .i64 j ∧ Own wr w5.heap.size 37 4 encVote v (votesAll (cm.take j) s x) ∧ Below w5.heap.size w5 wr) (fun _ i _ => cm.length - (intOf i).toNat)
        case atStart => exact ⟨0, Nat.zero_le _, rfl, Own.nil _ _ _ _ _, Below.refl _ _⟩
        case round =>
          obtain ⟨j, hj, rfl, ho, hb⟩ := hrel
          obtain ⟨A8, k8, hv8, hR8⟩ := ho.rd encVote_len
          have hrow := fun kk e => (ho.base kk e).1
          subst hv8
          have hBr := below_call hB5 hB5.size hb
          have j0 := bl_own hb i0
          have j1 := bl_own hb i1
          have hlen : (votesAll (cm.take j) s x).length = j := by unfold votesAll; simp; omega
          have hkl : (votesAll (cm.take j) s x).length ≤ j := Nat.le_of_eq hlen
          have hlenh := Lib.hid hlen
          clear hlen
          by_cases hlt : j < cm.length
          · obtain ⟨b, ofs, rfl, hbo, c9⟩ := (hR5.below hb).atI hlt
            have htk := Lib.hid (show votesAll (cm.take (j + 1)) s x = votesAll (cm.take j) s x ++ [⟨cm[j], s, x⟩] by unfold votesAll; rw [← List.take_append_getElem hlt, List.map_append]; rfl)
            obtain ⟨ci, hci⟩ : ∃ ci, cm[j] = ci := ⟨_, rfl⟩
            rw [hci] at c9 htk
            obtain ⟨c7, c8, _, _⟩ := blk2 j1
            have hlt1 : (0 : Int) ≤ (j : Int) := by omega
            have hlt2 : (j : Int) < (cm.length : Int) := by omega
            clear hci
            obtain ⟨Y, hY⟩ : ∃ Y, wr.drew.alloc (.cells #[.int .i64 ci, .int .i64 s, .int .u64 x.hi, .int .u64 x.lo] 37) = Y := ⟨_, rfl⟩
            have hY2 : (wr.alloc (.cells #[.int .i64 ci, .int .i64 s, .int .u64 x.hi, .int .u64 x.lo] 37)).drew = Y := hY
            have hKD : Below wr.heap.size wr wr.drew := (Below.refl _ wr).drew
            have hKY : Below wr.heap.size wr Y := by subst hY; exact hKD.alloc hKD.size _
            have hxY : Y.heap[wr.heap.size]? = some (.cells #[.int .i64 ci, .int .i64 s, .int .u64 x.hi, .int .u64 x.lo] 37 (0, 0)) := by subst hY; exact ha_at rfl
            have hoY := ho.below hKY
            have hbY := below_call hb hb.size hKY
            have hbb : ((votesAll (cm.take j) s x).length + 1) * 32 ≤ 140737488355328 := by omega
            have hll : (votesAll (cm.take j) s x).length + 1 ≤ maxLen := by unfold maxLen; omega
            have hszY := hbY.size
            go_wp2_with fail
            go_region_law ((with_reducible refine step_append1 (w := Y) (by with_unfolding_all rfl) (by with_unfolding_all rfl) hunV infoV (by with_unfolding_all rfl) (by decide) encVote_len encVote_one (by with_unfolding_all rfl) hoY (c := 1) (by with_unfolding_all rfl) (y := ⟨ci, s, x⟩) hxY (by with_unfolding_all rfl) hbb hll hszY ?_; intro v6 w6 ho6 hg6 hat6))
            all_goals
              go_wp2
              go_roundw
              case rel => exact ⟨j + 1, hlt, by go_num, by rw [htk.out]; exact ho6, below_step hbY hbY.size hg6 (fun k e => (hoY.base k e).1)⟩
              case measure => simp [intOf]; omega
          · obtain rfl : j = cm.length := by omega
            have hlen := hlenh.out
            clear hkl
            rw [List.take_length] at ho hR8 hlenh hlen ⊢
            obtain ⟨vs, hvs⟩ : ∃ vs, votesAll cm s x = vs := ⟨_, rfl⟩
            have hvl : vs.length ≤ 12 := by rw [← hvs]; omega
            rw [hvs] at ho hR8 hlenh hlen ⊢
            have htop := htop.out
            have hfa := hfa.out
            have hsa := hsa.out
            rw [hvs] at htop hfa hsa
            have hto := fun V (hV : Below w.heap.size w V) h8 => qtop_any c l vs s x A A2 A8 k k2 k8 V (hr.below hV) (hr2.below hV) h8 (by omega) (by omega) hnf.out
            have hsu := fun V (hV : Below w.heap.size w V) h8 => qsure_any c l vs s x A A2 A8 k k2 k8 V (hr.below hV) (hr2.below hV) h8 (by omega) (by omega) hnf.out
            have hfo := fun V (hV : Below w.heap.size w V) h8 => qfor_any c l vs s x A A2 A8 k k2 k8 V (hr.below hV) (hr2.below hV) h8 (by omega) (by omega)
            rw [hsa] at hsu
            rw [hfa] at hfo
            rw [htop] at hto
            unfold cfgv at hto hsu hfo
            unfold idv at hto hsu hfo
            clear htop hfa hsa hvs hlen hlenh hnf hvl ho hrow
            have hw1 := hw1h.out
            have hne : (al == al) = true := by simp
            have hlt3 : ¬ ((cm.length : Int) < (cm.length : Int)) := by omega
            have qa := neq_idw x ⟨0, 0⟩
            have hw2 := hw2h.out
            obtain ⟨c0, c1, c2, c3, c4⟩ := blk5 j0
            obtain ⟨c5, c6, _, _⟩ := blk2 j1
            by_cases h1 : 0 < al
            · have e1 : decide (0 < al) = true := decide_eq_true h1
              have e2 : decide (al > 0) = true := decide_eq_true h1
              by_cases h2 : 2 * c.num < c.den
              · have e3 : decide (2 * c.num < c.den) = true := decide_eq_true h2
                rw [decide_eq_true (⟨h1, h2⟩ : 0 < al ∧ 2 * c.num < c.den)] at hsu hto
                by_cases h3 : x = ⟨0, 0⟩
                · rw [decide_eq_true h3] at qa
                  rw [decide_eq_false (fun h => h h3 : ¬ x ≠ zid)] at hto
                  simp only [Bool.and_false, Bool.false_eq_true, if_false] at hto
                  clear h3
                  (try unfold zid at hto)
                  (try dsimp only at hto)
                  go_wp2_with (first
                    | (go_at_call 10; (with_reducible refine (hwt.out _ hBr _ _ (hR5.below hb)).mono ?_); rintro e w6 ⟨rfl, hb6⟩; have hB6 := below_call hBr hBr.size hb6; have hl7 : Below w6.heap.size w6 (w6.alloc (.cells #[.slice A2 l.length k2, .slice A8 vs.length k8] 40)) := (Below.refl _ w6).alloc (Nat.le_refl _) _; have hB7 := below_call hB6 hB6.size hl7; have n0 := bl_own hl7 (bl_own hb6 j0); have n1 := bl_own hl7 (bl_own hb6 j1); have n2 := ha_at (w := w6) (o := .cells #[.slice A2 l.length k2, .slice A8 vs.length k8] 40) (k := w6.heap.size) rfl; have hR7 := (hR8.below hb6).below hl7; obtain ⟨t0, t1, t2, t3, t4⟩ := blk5 n0; obtain ⟨t5, t6, _, _⟩ := blk2 n1; obtain ⟨t7, t8, _, _⟩ := blk2 n2)
                    | (go_at_call 11; (with_reducible refine (hto _ hB7 hR7).mono ?_); clear hto; rintro e w8 ⟨rfl, hb8⟩; have hB8 := below_call hB7 hB7.size hb8; have hl9 : Below w8.heap.size w8 (w8.alloc (.cells #[.int .u64 0, .int .u64 0] 28)) := (Below.refl _ w8).alloc (Nat.le_refl _) _; have hB9 := below_call hB8 hB8.size hl9; have o0 := bl_own hl9 (bl_own hb8 n0); have o1 := bl_own hl9 (bl_own hb8 n1); have o2 := bl_own hl9 (bl_own hb8 n2); have o3 := ha_at (w := w8) (o := .cells #[.int .u64 0, .int .u64 0] 28) (k := w8.heap.size) rfl; have hR9 := (hR7.below hb8).below hl9; obtain ⟨v0, v1, v2, v3, v4⟩ := blk5 o0; obtain ⟨v5, v6, _, _⟩ := blk2 o1; obtain ⟨v7, v8, _, _⟩ := blk2 o2; obtain ⟨v9, v10, _, _⟩ := blk2 o3)
                    | (go_at_call 12; (with_reducible refine (hfo _ hB9 hR9).mono ?_); clear hfo; rintro e w10 ⟨rfl, hb10⟩; have hB10 := below_call hB9 hB9.size hb10; have p0 := bl_own hb10 o0; have p1 := bl_own hb10 o1; have p2 := bl_own hb10 o2; have p3 := bl_own hb10 o3; have hR10 := hR9.below hb10; obtain ⟨y0, y1, y2, y3, y4⟩ := blk5 p0; obtain ⟨y5, y6, _, _⟩ := blk2 p1; obtain ⟨y7, y8, _, _⟩ := blk2 p2; obtain ⟨y9, y10, _, _⟩ := blk2 p3)
                    | (go_at_call 13; (with_reducible refine (hsu _ hB10 hR10).mono ?_); clear hsu; rintro e w11 ⟨rfl, hb11⟩; have hB11 := below_call hB10 hB10.size hb11; have q0 := bl_own hb11 p0; have q1 := bl_own hb11 p1; have q2 := bl_own hb11 p2; have q3 := bl_own hb11 p3; obtain ⟨z0, z1, z2, z3, z4⟩ := blk5 q0; obtain ⟨z5, z6, _, _⟩ := blk2 q1; obtain ⟨z7, z8, _, _⟩ := blk2 q2; obtain ⟨z9, z10, _, _⟩ := blk2 q3))
                  go_ret
                  exact ⟨rfl, hB11⟩
                · rw [decide_eq_false h3] at qa
                  rw [decide_eq_true (h3 : x ≠ zid)] at hto
                  simp only [Bool.and_true, if_true] at hto
                  have qb := eql_idw x x
                  rw [decide_eq_true (rfl : x = x)] at qb
                  (try dsimp only at hto)
                  go_wp2_with (first
                    | (go_at_call 10; (with_reducible refine (hwt.out _ hBr _ _ (hR5.below hb)).mono ?_); rintro e w6 ⟨rfl, hb6⟩; have hB6 := below_call hBr hBr.size hb6; have hl7 : Below w6.heap.size w6 (w6.alloc (.cells #[.slice A2 l.length k2, .slice A8 vs.length k8] 40)) := (Below.refl _ w6).alloc (Nat.le_refl _) _; have hB7 := below_call hB6 hB6.size hl7; have n0 := bl_own hl7 (bl_own hb6 j0); have n1 := bl_own hl7 (bl_own hb6 j1); have n2 := ha_at (w := w6) (o := .cells #[.slice A2 l.length k2, .slice A8 vs.length k8] 40) (k := w6.heap.size) rfl; have hR7 := (hR8.below hb6).below hl7; obtain ⟨t0, t1, t2, t3, t4⟩ := blk5 n0; obtain ⟨t5, t6, _, _⟩ := blk2 n1; obtain ⟨t7, t8, _, _⟩ := blk2 n2)
                    | (go_at_call 11; (with_reducible refine (hto _ hB7 hR7).mono ?_); clear hto; rintro e w8 ⟨rfl, hb8⟩; have hB8 := below_call hB7 hB7.size hb8; have hl9 : Below w8.heap.size w8 (w8.alloc (.cells #[.int .u64 x.hi, .int .u64 x.lo] 28)) := (Below.refl _ w8).alloc (Nat.le_refl _) _; have hB9 := below_call hB8 hB8.size hl9; have o0 := bl_own hl9 (bl_own hb8 n0); have o1 := bl_own hl9 (bl_own hb8 n1); have o2 := bl_own hl9 (bl_own hb8 n2); have o3 := ha_at (w := w8) (o := .cells #[.int .u64 x.hi, .int .u64 x.lo] 28) (k := w8.heap.size) rfl; have hR9 := (hR7.below hb8).below hl9; obtain ⟨v0, v1, v2, v3, v4⟩ := blk5 o0; obtain ⟨v5, v6, _, _⟩ := blk2 o1; obtain ⟨v7, v8, _, _⟩ := blk2 o2; obtain ⟨v9, v10, _, _⟩ := blk2 o3)
                    | (go_at_call 12; (with_reducible refine (hfo _ hB9 hR9).mono ?_); clear hfo; rintro e w10 ⟨rfl, hb10⟩; have hB10 := below_call hB9 hB9.size hb10; have p0 := bl_own hb10 o0; have p1 := bl_own hb10 o1; have p2 := bl_own hb10 o2; have p3 := bl_own hb10 o3; have hR10 := hR9.below hb10; obtain ⟨y0, y1, y2, y3, y4⟩ := blk5 p0; obtain ⟨y5, y6, _, _⟩ := blk2 p1; obtain ⟨y7, y8, _, _⟩ := blk2 p2; obtain ⟨y9, y10, _, _⟩ := blk2 p3)
                    | (go_at_call 13; (with_reducible refine (hsu _ hB10 hR10).mono ?_); clear hsu; rintro e w11 ⟨rfl, hb11⟩; have hB11 := below_call hB10 hB10.size hb11; have q0 := bl_own hb11 p0; have q1 := bl_own hb11 p1; have q2 := bl_own hb11 p2; have q3 := bl_own hb11 p3; obtain ⟨z0, z1, z2, z3, z4⟩ := blk5 q0; obtain ⟨z5, z6, _, _⟩ := blk2 q1; obtain ⟨z7, z8, _, _⟩ := blk2 q2; obtain ⟨z9, z10, _, _⟩ := blk2 q3))
                  go_ret
                  exact ⟨rfl, hB11⟩
              · have e3 : decide (2 * c.num < c.den) = false := decide_eq_false h2
                rw [decide_eq_false (fun h => h2 h.2 : ¬ (0 < al ∧ 2 * c.num < c.den))] at hsu hto
                simp only [Bool.false_and, Bool.false_eq_true, if_false] at hto
                clear qa
                (try unfold zid at hto)
                (try dsimp only at hto)
                go_wp2_with (first
                  | (go_at_call 10; (with_reducible refine (hwt.out _ hBr _ _ (hR5.below hb)).mono ?_); rintro e w6 ⟨rfl, hb6⟩; have hB6 := below_call hBr hBr.size hb6; have hl7 : Below w6.heap.size w6 (w6.alloc (.cells #[.slice A2 l.length k2, .slice A8 vs.length k8] 40)) := (Below.refl _ w6).alloc (Nat.le_refl _) _; have hB7 := below_call hB6 hB6.size hl7; have n0 := bl_own hl7 (bl_own hb6 j0); have n1 := bl_own hl7 (bl_own hb6 j1); have n2 := ha_at (w := w6) (o := .cells #[.slice A2 l.length k2, .slice A8 vs.length k8] 40) (k := w6.heap.size) rfl; have hR7 := (hR8.below hb6).below hl7; obtain ⟨t0, t1, t2, t3, t4⟩ := blk5 n0; obtain ⟨t5, t6, _, _⟩ := blk2 n1; obtain ⟨t7, t8, _, _⟩ := blk2 n2)
                  | (go_at_call 11; (with_reducible refine (hto _ hB7 hR7).mono ?_); clear hto; rintro e w8 ⟨rfl, hb8⟩; have hB8 := below_call hB7 hB7.size hb8; have hl9 : Below w8.heap.size w8 (w8.alloc (.cells #[.int .u64 0, .int .u64 0] 28)) := (Below.refl _ w8).alloc (Nat.le_refl _) _; have hB9 := below_call hB8 hB8.size hl9; have o0 := bl_own hl9 (bl_own hb8 n0); have o1 := bl_own hl9 (bl_own hb8 n1); have o2 := bl_own hl9 (bl_own hb8 n2); have o3 := ha_at (w := w8) (o := .cells #[.int .u64 0, .int .u64 0] 28) (k := w8.heap.size) rfl; have hR9 := (hR7.below hb8).below hl9; obtain ⟨v0, v1, v2, v3, v4⟩ := blk5 o0; obtain ⟨v5, v6, _, _⟩ := blk2 o1; obtain ⟨v7, v8, _, _⟩ := blk2 o2; obtain ⟨v9, v10, _, _⟩ := blk2 o3)
                  | (go_at_call 12; (with_reducible refine (hfo _ hB9 hR9).mono ?_); clear hfo; rintro e w10 ⟨rfl, hb10⟩; have hB10 := below_call hB9 hB9.size hb10; have p0 := bl_own hb10 o0; have p1 := bl_own hb10 o1; have p2 := bl_own hb10 o2; have p3 := bl_own hb10 o3; have hR10 := hR9.below hb10; obtain ⟨y0, y1, y2, y3, y4⟩ := blk5 p0; obtain ⟨y5, y6, _, _⟩ := blk2 p1; obtain ⟨y7, y8, _, _⟩ := blk2 p2; obtain ⟨y9, y10, _, _⟩ := blk2 p3)
                  | (go_at_call 13; (with_reducible refine (hsu _ hB10 hR10).mono ?_); clear hsu; rintro e w11 ⟨rfl, hb11⟩; have hB11 := below_call hB10 hB10.size hb11; have q0 := bl_own hb11 p0; have q1 := bl_own hb11 p1; have q2 := bl_own hb11 p2; have q3 := bl_own hb11 p3; obtain ⟨z0, z1, z2, z3, z4⟩ := blk5 q0; obtain ⟨z5, z6, _, _⟩ := blk2 q1; obtain ⟨z7, z8, _, _⟩ := blk2 q2; obtain ⟨z9, z10, _, _⟩ := blk2 q3))
                go_ret
                exact ⟨rfl, hB11⟩
            · have e1 : decide (0 < al) = false := decide_eq_false h1
              have e2 : decide (al > 0) = false := decide_eq_false h1
              rw [decide_eq_false (fun h => h1 h.1 : ¬ (0 < al ∧ 2 * c.num < c.den))] at hsu hto
              simp only [Bool.false_and, Bool.false_eq_true, if_false] at hto
              clear qa
              (try unfold zid at hto)
              (try dsimp only at hto)
              go_wp2_with (first
                | (go_at_call 10; (with_reducible refine (hwt.out _ hBr _ _ (hR5.below hb)).mono ?_); rintro e w6 ⟨rfl, hb6⟩; have hB6 := below_call hBr hBr.size hb6; have hl7 : Below w6.heap.size w6 (w6.alloc (.cells #[.slice A2 l.length k2, .slice A8 vs.length k8] 40)) := (Below.refl _ w6).alloc (Nat.le_refl _) _; have hB7 := below_call hB6 hB6.size hl7; have n0 := bl_own hl7 (bl_own hb6 j0); have n1 := bl_own hl7 (bl_own hb6 j1); have n2 := ha_at (w := w6) (o := .cells #[.slice A2 l.length k2, .slice A8 vs.length k8] 40) (k := w6.heap.size) rfl; have hR7 := (hR8.below hb6).below hl7; obtain ⟨t0, t1, t2, t3, t4⟩ := blk5 n0; obtain ⟨t5, t6, _, _⟩ := blk2 n1; obtain ⟨t7, t8, _, _⟩ := blk2 n2)
                | (go_at_call 11; (with_reducible refine (hto _ hB7 hR7).mono ?_); clear hto; rintro e w8 ⟨rfl, hb8⟩; have hB8 := below_call hB7 hB7.size hb8; have hl9 : Below w8.heap.size w8 (w8.alloc (.cells #[.int .u64 0, .int .u64 0] 28)) := (Below.refl _ w8).alloc (Nat.le_refl _) _; have hB9 := below_call hB8 hB8.size hl9; have o0 := bl_own hl9 (bl_own hb8 n0); have o1 := bl_own hl9 (bl_own hb8 n1); have o2 := bl_own hl9 (bl_own hb8 n2); have o3 := ha_at (w := w8) (o := .cells #[.int .u64 0, .int .u64 0] 28) (k := w8.heap.size) rfl; have hR9 := (hR7.below hb8).below hl9; obtain ⟨v0, v1, v2, v3, v4⟩ := blk5 o0; obtain ⟨v5, v6, _, _⟩ := blk2 o1; obtain ⟨v7, v8, _, _⟩ := blk2 o2; obtain ⟨v9, v10, _, _⟩ := blk2 o3)
                | (go_at_call 12; (with_reducible refine (hfo _ hB9 hR9).mono ?_); clear hfo; rintro e w10 ⟨rfl, hb10⟩; have hB10 := below_call hB9 hB9.size hb10; have p0 := bl_own hb10 o0; have p1 := bl_own hb10 o1; have p2 := bl_own hb10 o2; have p3 := bl_own hb10 o3; have hR10 := hR9.below hb10; obtain ⟨y0, y1, y2, y3, y4⟩ := blk5 p0; obtain ⟨y5, y6, _, _⟩ := blk2 p1; obtain ⟨y7, y8, _, _⟩ := blk2 p2; obtain ⟨y9, y10, _, _⟩ := blk2 p3)
                | (go_at_call 13; (with_reducible refine (hsu _ hB10 hR10).mono ?_); clear hsu; rintro e w11 ⟨rfl, hb11⟩; have hB11 := below_call hB10 hB10.size hb11; have q0 := bl_own hb11 p0; have q1 := bl_own hb11 p1; have q2 := bl_own hb11 p2; have q3 := bl_own hb11 p3; obtain ⟨z0, z1, z2, z3, z4⟩ := blk5 q0; obtain ⟨z5, z6, _, _⟩ := blk2 q1; obtain ⟨z7, z8, _, _⟩ := blk2 q2; obtain ⟨z9, z10, _, _⟩ := blk2 q3))
              go_ret
              exact ⟨rfl, hB11⟩
    · rw [decide_eq_false hmc] at hmay
      clear hmc
      unfold cfgv at *
      unfold idv at *
      have hW : ∃ W, (w.alloc (.cells #[.slice A c.W.length k, .int .u64 c.seed, .int .i64 c.epoch, .int .i64 c.num, .int .i64 c.den] 25)).alloc (.cells #[.int .u64 x.hi, .int .u64 x.lo] 28) = W := ⟨_, rfl⟩
      obtain ⟨W, hW⟩ := hW
      have hB : Below w.heap.size w W := by subst hW; exact ((Below.refl _ w).alloc (Nat.le_refl _) _).alloc (by simp <;> omega) _
      have b0 : W.heap[w.heap.size]? = some (.cells #[.slice A c.W.length k, .int .u64 c.seed, .int .i64 c.epoch, .int .i64 c.num, .int .i64 c.den] 25 (0, 0)) := by subst hW; exact ha_lt (ha_at rfl)
      have b1 : W.heap[w.heap.size + 1]? = some (.cells #[.int .u64 x.hi, .int .u64 x.lo] 28 (0, 0)) := by subst hW; exact ha_at (by simp)
      go_enter Tryz.func3, Tryz.ntmps3
      go_wp2_with (first
        | (go_at_call 5; (with_reducible refine (haw _).mono ?_); clear haw; rintro e w1 ⟨rfl, hb1⟩; have hB1 := below_call hB hB.size hb1; have a0 := bl_own hb1 b0; have a1 := bl_own hb1 b1; obtain ⟨p0, p1, p2, p3, p4⟩ := blk5 a0; obtain ⟨p5, p6, _, _⟩ := blk2 a1)
        | (go_at_call 6; (with_reducible refine (hfew _).mono ?_); clear hfew; rintro e w2 ⟨rfl, hb2⟩; have hB2 := below_call hB1 hB1.size hb2; have d0 := bl_own hb2 a0; have d1 := bl_own hb2 a1; obtain ⟨q0, q1, q2, q3, q4⟩ := blk5 d0; obtain ⟨q5, q6, _, _⟩ := blk2 d1)
        | (go_at_call 7; (with_reducible refine (hmay _ hB2).mono ?_); clear hmay; rintro e w3 ⟨rfl, hb3⟩; have hB3 := below_call hB2 hB2.size hb3; have f0 := bl_own hb3 d0; have f1 := bl_own hb3 d1; obtain ⟨r0, r1, r2, r3, r4⟩ := blk5 f0; obtain ⟨r5, r6, _, _⟩ := blk2 f1))
      go_ret
      exact ⟨rfl, hB3⟩
  · rw [decide_eq_false hsm] at hfew
    clear hsm
    unfold cfgv at *
    unfold idv at *
    have hW : ∃ W, (w.alloc (.cells #[.slice A c.W.length k, .int .u64 c.seed, .int .i64 c.epoch, .int .i64 c.num, .int .i64 c.den] 25)).alloc (.cells #[.int .u64 x.hi, .int .u64 x.lo] 28) = W := ⟨_, rfl⟩
    obtain ⟨W, hW⟩ := hW
    have hB : Below w.heap.size w W := by subst hW; exact ((Below.refl _ w).alloc (Nat.le_refl _) _).alloc (by simp <;> omega) _
    have b0 : W.heap[w.heap.size]? = some (.cells #[.slice A c.W.length k, .int .u64 c.seed, .int .i64 c.epoch, .int .i64 c.num, .int .i64 c.den] 25 (0, 0)) := by subst hW; exact ha_lt (ha_at rfl)
    have b1 : W.heap[w.heap.size + 1]? = some (.cells #[.int .u64 x.hi, .int .u64 x.lo] 28 (0, 0)) := by subst hW; exact ha_at (by simp)
    go_enter Tryz.func3, Tryz.ntmps3
    go_wp2_with (first
      | (go_at_call 5; (with_reducible refine (haw _).mono ?_); clear haw; rintro e w1 ⟨rfl, hb1⟩; have hB1 := below_call hB hB.size hb1; have a0 := bl_own hb1 b0; have a1 := bl_own hb1 b1; obtain ⟨p0, p1, p2, p3, p4⟩ := blk5 a0; obtain ⟨p5, p6, _, _⟩ := blk2 a1)
      | (go_at_call 6; (with_reducible refine (hfew _).mono ?_); clear hfew; rintro e w2 ⟨rfl, hb2⟩; have hB2 := below_call hB1 hB1.size hb2; have d0 := bl_own hb2 a0; have d1 := bl_own hb2 a1; obtain ⟨q0, q1, q2, q3, q4⟩ := blk5 d0; obtain ⟨q5, q6, _, _⟩ := blk2 d1))
    go_ret
    exact ⟨rfl, hB2⟩
theorem all15_walk (A : Option Addr) (c : Cfg) (k : Nat) (A2 : Option Addr) (l : List Blk) (k2 : Nat) (s : Int) (x : ID) (w : World) (_ : c.W.length ≤ k) (_ : k ≤ maxLen) (hr : Rd 1 encI w A c.W) (_ : c.Ok) (_ : l.length ≤ k2) (_ : k2 ≤ maxLen) (hr2 : Rd 5 encBlk w A2 l) (_ : ∀ b ∈ l, b.Ok) (_ : I64 s) (_ : x.Ok) :
    Calls Tryz.prog 3 #[cfgv A k c, .slice A2 l.length k2, .int .i64 s, idv x] w fun e w' => e = .returned (.bool true) ∧ Below w.heap.size w w' :=
  all15_any c l s x A A2 k k2 w hr hr2
end Go.Proofs.YtdocgemfedohdaaGreat
