/- GoldAll, walked. -/
import Derived.Test.YtaohkcdfjjiggaaGreatGJ
import Derived.Test.YtaohkcdfjjiggaaGreatGP
import Derived.Test.YtaohkcdfjjiggaaGreatAw14
import Derived.Test.YtaohkcdfjjiggaaGreatGH
namespace Go.Proofs.YtaohkcdfjjiggaaGreat
open Go.RowKit
set_option linter.unusedVariables false
/-- The votes of validators. -/
def ownAll (c : Cfg) (m : List Vote) : List Vote := m.filter fun v => decide (0 ≤ v.frm ∧ v.frm < c.W.length)
theorem gold_all {c : Cfg} {s : Int} (hm : MayC c) (hs : SlotOk s) (h1 : c.epoch = 1) (v : List Vote) : goldOf c v s = ownAll c (ofL v s) := by
  unfold goldOf ownAll
  refine List.filter_congr fun x _ => ?_
  rw [Bool.eq_iff_iff, decide_eq_true_eq, decide_eq_true_eq]
  exact com_one hm hs h1 x.frm
set_option maxRecDepth 100000 in
set_option maxHeartbeats 8000000 in
theorem all14_any (c : Cfg) (l : List Blk) (vs : List Vote) (s : Int) (A A2 A3 : Option Addr) (k k2 k3 : Nat) (w : World) (hok : ∀ b ∈ l, b.Ok) (hr : Rd 1 encI w A c.W) (hr2 : Rd 5 encBlk w A2 l) (hr3 : Rd 4 encVote w A3 vs) :
    Calls Tryz.prog 4 #[cfgv A k c, .agg #[.slice A2 l.length k2, .slice A3 vs.length k3], .int .i64 s] w fun e w' => e = .returned (.bool true) ∧ Below w.heap.size w w' := by
  have hm := hr.1
  have hm2 := hr2.1
  have hm3 := hr3.1
  have haw := fun V => awake14_any V
  have hfew := fun V => fewN_any c l.length vs.length A A2 A3 k k2 k3 V hm hm2 hm3
  by_cases hsm : c.W.length ≤ 40 ∧ l.length ≤ 20 ∧ vs.length ≤ 30
  · rw [decide_eq_true hsm] at hfew
    obtain ⟨hsm1, hsm2, hsm3⟩ := hsm
    have hof := fun V (hV : Below w.heap.size w V) => gof_any c vs s A A3 k k3 V (hr.below hV) (hr3.below hV) (by omega)
    have hvo := fun V (hV : Below w.heap.size w V) => vof_any vs s A3 k3 V (hr3.below hV) (by omega)
    have hmay := fun V (hV : Below w.heap.size w V) => dmay_any c A k V (hr.below hV)
    have hh := fun V (hV : Below w.heap.size w V) => gohead_any c l vs s A A2 A3 k k2 k3 V (hr.below hV) (hr2.below hV) (hr3.below hV) (by omega) (by omega)
    have hgh := fun V (hV : Below w.heap.size w V) => ghead_any c l [] A A2 none k k2 0 V (hr.below hV) (hr2.below hV) (Rd_nil _ _ _ _) (by omega) (by simp)
    simp only [List.length_nil] at hgh
    have hunV := Tryz.underlying27
    unfold cfgv at *
    try unfold idv at *
    have hW : ∃ W, (w.alloc (.cells #[.slice A c.W.length k, .int .u64 c.seed, .int .i64 c.epoch, .int .i64 c.num, .int .i64 c.den] 25)).alloc (.cells #[.slice A2 l.length k2, .slice A3 vs.length k3] 29) = W := ⟨_, rfl⟩
    obtain ⟨W, hW⟩ := hW
    have hB : Below w.heap.size w W := by subst hW; exact ((Below.refl _ w).alloc (Nat.le_refl _) _).alloc (by simp <;> omega) _
    have b0 : W.heap[w.heap.size]? = some (.cells #[.slice A c.W.length k, .int .u64 c.seed, .int .i64 c.epoch, .int .i64 c.num, .int .i64 c.den] 25 (0, 0)) := by subst hW; exact ha_lt (ha_at rfl)
    have b1 : W.heap[w.heap.size + 1]? = some (.cells #[.slice A2 l.length k2, .slice A3 vs.length k3] 29 (0, 0)) := by subst hW; exact ha_at (by simp)
    by_cases hok2 : MayC c ∧ SlotOk s
    · have hfin : c.epoch = 1 → goldOf c vs s = ownAll c (ofL vs s) := fun h1 => gold_all hok2.1 hok2.2 h1 vs
      obtain ⟨hMc, hs1, hs2⟩ := hok2
      rw [decide_eq_true hMc] at hmay
      have e1 : ¬ (s < 1) := by omega
      have e2 : ¬ (1048576 < s) := by omega
      have hsh := ofL_short (s := s) (l := vs) (by omega)
      obtain ⟨o, ho⟩ : ∃ o, goldOf c vs s = o := ⟨_, rfl⟩
      obtain ⟨m, hm⟩ : ∃ m, ofL vs s = m := ⟨_, rfl⟩
      simp only [ho] at hof hfin
      simp only [hm] at hvo hfin hsh
      have hso := fun V (B C : Option Addr) (kb kc : Nat) (h1 : Rd 4 encVote V B o) (h2 : Rd 4 encVote V C (ownAll c m)) => same_any o (ownAll c m) B C kb kc V h1 h2
      have hso' := Lib.hid hso
      have hfin' := Lib.hid hfin
      clear hso hfin ho hm hh hgh hMc
      go_enter Tryz.func4, Tryz.ntmps4
      go_wp2_with (first
        | (go_at_call 16; (with_reducible refine (haw _).mono ?_); clear haw; rintro e w1 ⟨rfl, hb1⟩; have hB1 := below_call hB hB.size hb1; have a0 := bl_own hb1 b0; have a1 := bl_own hb1 b1; obtain ⟨p0, p1, p2, p3, p4⟩ := blk5 a0; obtain ⟨p5, p6, _, _⟩ := blk2 a1)
        | (go_at_call 17; (with_reducible refine (hfew _).mono ?_); clear hfew; rintro e w2 ⟨rfl, hb2⟩; have hB2 := below_call hB1 hB1.size hb2; have d0 := bl_own hb2 a0; have d1 := bl_own hb2 a1; obtain ⟨q0, q1, q2, q3, q4⟩ := blk5 d0; obtain ⟨q5, q6, _, _⟩ := blk2 d1)
        | (go_at_call 19; (with_reducible refine (hof _ hB2).mono ?_); clear hof; rintro e w3 ⟨A4, k4, rfl, hR4, hb3⟩; have hB3 := below_call hB2 hB2.size hb3; have f0 := bl_own hb3 d0; have f1 := bl_own hb3 d1; obtain ⟨r0, r1, r2, r3, r4⟩ := blk5 f0; obtain ⟨r5, r6, _, _⟩ := blk2 f1)
        | (go_at_call 23; (with_reducible refine (hmay _ hB3).mono ?_); clear hmay; rintro e w4 ⟨rfl, hb4⟩; have hB4 := below_call hB3 hB3.size hb4; have g0 := bl_own hb4 f0; have g1 := bl_own hb4 f1; obtain ⟨s0, s1, s2, s3, s4⟩ := blk5 g0; obtain ⟨s5, s6, _, _⟩ := blk2 g1)
        | (go_at_call 25; (with_reducible refine (hvo _ hB4).mono ?_); clear hvo; rintro e w5 ⟨u, rfl, ho5, hb5⟩; obtain ⟨A5, k5, hu, hR5⟩ := ho5.rd encVote_len; subst hu; have hB5 := below_call hB4 hB4.size hb5; have hR45 := (hR4.below hb4).below hb5; have i0 := bl_own hb5 g0; have i1 := bl_own hb5 g1; obtain ⟨t0, t1, t2, t3, t4⟩ := blk5 i0; obtain ⟨t5, t6, _, _⟩ := blk2 i1))
      clear p0 q0 r0 s0 t0 p1 q1 r1 s1 t1 p2 q2 r2 s2 t2 p3 q3 r3 s3 t3 p4 q4 r4 s4 t4 p5 q5 r5 s5 t5 p6 q6 r6 s6 t6 a0 a1 d0 d1 f0 f1 g0 g1 b0 b1 i1 hb1 hb2 hb3 hb4 hb5 hB hB1 hB2 hB3 hB4 hW hR4 ho5
      go_loopw [10, 12] (fun x i wr => ∃ j : Nat, j ≤ m.length ∧ i = .int .i64 j ∧ Own wr w5.heap.size 42 4 encVote x (ownAll c (m.take j)) ∧ Below w5.heap.size w5 wr) (fun _ i _ => m.length - (intOf i).toNat)
      case atStart => exact ⟨0, by omega, rfl, Own.nil _ _ _ _ _, Below.refl _ _⟩
      case round =>
        obtain ⟨j, hj, rfl, ho, hb⟩ := hrel
        obtain ⟨A6, k6, hv6, hR6⟩ := ho.rd encVote_len
        subst hv6
        have hsz := hb.size
        have hBr := below_call hB5 hB5.size hb
        have ir := bl_own hb i0
        obtain ⟨c0, c1, c2, c3, c4⟩ := blk5 ir
        by_cases hlt : j < m.length
        · obtain ⟨b, ofs, rfl, hbo, d0, d1, d2, d3⟩ := (hR5.below hb).atVote hlt
          have hls := Lib.hid (show ownAll c (m.take (j + 1)) = ownAll c (m.take j) ++ ownAll c [m[j]] by rw [← List.take_append_getElem hlt]; exact List.filter_append _ _)
          have hkl : (ownAll c (m.take j)).length ≤ j := Nat.le_trans (List.length_filter_le _ _) (by simp; omega)
          by_cases hk1 : 0 ≤ m[j].frm
          · by_cases hk2 : m[j].frm < c.W.length
            · have hkk := Lib.hid (show ownAll c [m[j]] = [m[j]] by simp [ownAll, hk1, hk2])
              go_wp2_with fail
              go_quiet (fail)
              have hbq : Below wr.heap.size wr (wr.drewN nq) := pw_below_drewN (Below.refl _ wr) nq
              have hoq := ho.below hbq
              have hBq := below_call hb hb.size hbq
              have hRq := (hR5.below hb).below hbq
              clear d0 d1 d2 d3 c0 c1 c2 c3 c4
              obtain ⟨b', o', e', hbo', d0, d1, d2, d3⟩ := hRq.atVote hlt
              cases e'
              generalize wr.drewN nq = wq at hbq hoq hBq hRq d0 d1 d2 d3 ⊢
              have hoA := hoq.below ((Below.refl _ wq).alloc (Nat.le_refl _) (.cells #[.int .i64 m[j].frm, .int .i64 m[j].slot, .int .u64 m[j].head.hi, .int .u64 m[j].head.lo] 42))
              have hszq := hBq.size
              go_wp2_with (at_builtin; refine wp_append1 rfl rfl hunV infoV rfl (by decide) encVote_len encVote_one rfl hoA (g := wq.heap.size) (c := 1) rfl (y := m[j]) (ha_at rfl) rfl (by omega) (by unfold maxLen; omega) (by simp; omega) ?_; intro v6 w6 ho6 hg6 _)
              go_roundw
              case rel => exact ⟨j + 1, hlt, by go_num, by rw [hls.out, hkk.out]; exact ho6, (hBq.alloc hBq.size _).grown hg6 (by simp; omega) (fun k e => (hoA.base k e).1)⟩
              case measure => simp [intOf]; omega
            · have hkk := Lib.hid (show ownAll c (m.take (j + 1)) = ownAll c (m.take j) by rw [hls.out]; simp [ownAll, hk2])
              go_wp2_with fail
              go_quiet (fail)
              go_wp2_with fail
              go_roundw
              case rel => exact ⟨j + 1, hlt, by go_num, by rw [hkk.out]; exact ho.below (pw_below_drewN (Below.refl _ wr) _), pw_below_drewN hb _⟩
              case measure => simp [intOf]; omega
          · have hkk := Lib.hid (show ownAll c (m.take (j + 1)) = ownAll c (m.take j) by rw [hls.out]; simp [ownAll]; omega)
            have hg1 : decide (m[j].frm ≥ 0) = false := decide_eq_false hk1
            have hg2 : decide (0 ≤ m[j].frm) = false := decide_eq_false hk1
            clear hk1
            go_wp2_with fail
            go_quiet (fail)
            go_wp2_with fail
            go_roundw
            case rel => exact ⟨j + 1, hlt, by go_num, by rw [hkk.out]; exact ho.below (pw_below_drewN (Below.refl _ wr) _), pw_below_drewN hb _⟩
            case measure => simp [intOf]; omega
        · obtain rfl : j = m.length := by omega
          rw [List.take_length] at ho hR6 ⊢
          have hss := hso'.out wr A4 A6 k4 k6 (hR45.below hb) hR6
          by_cases h1 : c.epoch = 1
          · rw [decide_eq_true (hfin'.out h1)] at hss
            have hb1 : (c.epoch == 1) = true := by simpa using h1
            go_wp2_with (go_at_call 18; (with_reducible refine hss.mono ?_); clear hss; rintro e w7 ⟨rfl, hb7⟩; have hB7 := below_call hBr hBr.size hb7; obtain ⟨y0, y1, y2, y3, y4⟩ := blk5 (bl_own hb7 ir))
            go_ret
            exact ⟨rfl, hB7⟩
          · have hb1 : (c.epoch == 1) = false := by simpa using h1
            go_wp2_with (go_at_call 18; (with_reducible refine hss.mono ?_); clear hss; rintro e w7 ⟨rfl, hb7⟩; have hB7 := below_call hBr hBr.size hb7; obtain ⟨y0, y1, y2, y3, y4⟩ := blk5 (bl_own hb7 ir))
            go_ret
            exact ⟨rfl, hB7⟩
    · have hno := gold_none hok2 vs
      have hhd : goldHead c l vs s = headBy l (onC c l []) := by unfold goldHead; rw [hno]
      rw [hno] at hof
      rw [hhd] at hh
      simp only [List.length_nil] at hof
      obtain ⟨h, hhe⟩ : ∃ h, headBy l (onC c l []) = h := ⟨_, rfl⟩
      rw [hhe] at hh hgh
      have heq := eql_idw h h
      rw [decide_eq_true (rfl : h = h)] at heq
      clear hno hhd hhe hvo
      have hcase : ¬ MayC c ∨ (MayC c ∧ s < 1) ∨ (MayC c ∧ ¬ (s < 1) ∧ 1048576 < s) := by
        by_cases h1 : MayC c
        · by_cases h2 : s < 1
          · exact .inr (.inl ⟨h1, h2⟩)
          · exact .inr (.inr ⟨h1, h2, Int.lt_of_not_ge fun h3 => hok2 ⟨h1, by omega, h3⟩⟩)
        · exact .inl h1
      clear hok2
      rcases hcase with h1 | ⟨h1, h2⟩ | ⟨h1, h2, h3⟩
      · rw [decide_eq_false h1] at hmay
        clear h1
        go_enter Tryz.func4, Tryz.ntmps4
        go_wp2_with (first
          | (go_at_call 16; (with_reducible refine (haw _).mono ?_); clear haw; rintro e w1 ⟨rfl, hb1⟩; have hB1 := below_call hB hB.size hb1; have a0 := bl_own hb1 b0; have a1 := bl_own hb1 b1; obtain ⟨p0, p1, p2, p3, p4⟩ := blk5 a0; obtain ⟨p5, p6, _, _⟩ := blk2 a1)
          | (go_at_call 17; (with_reducible refine (hfew _).mono ?_); clear hfew; rintro e w2 ⟨rfl, hb2⟩; have hB2 := below_call hB1 hB1.size hb2; have d0 := bl_own hb2 a0; have d1 := bl_own hb2 a1; obtain ⟨q0, q1, q2, q3, q4⟩ := blk5 d0; obtain ⟨q5, q6, _, _⟩ := blk2 d1)
          | (go_at_call 19; (with_reducible refine (hof _ hB2).mono ?_); clear hof; rintro e w3 ⟨A4, k4, rfl, hR4, hb3⟩; have hB3 := below_call hB2 hB2.size hb3; have f0 := bl_own hb3 d0; have f1 := bl_own hb3 d1; obtain ⟨r0, r1, r2, r3, r4⟩ := blk5 f0; obtain ⟨r5, r6, _, _⟩ := blk2 f1)
          | (go_at_call 23; (with_reducible refine (hmay _ hB3).mono ?_); clear hmay; rintro e w4 ⟨rfl, hb4⟩; have hB4 := below_call hB3 hB3.size hb4; have g0 := bl_own hb4 f0; have g1 := bl_own hb4 f1; obtain ⟨s0, s1, s2, s3, s4⟩ := blk5 g0; obtain ⟨s5, s6, _, _⟩ := blk2 g1))
        clear p0 q0 r0 p1 q1 r1 p2 q2 r2 p3 q3 r3 p4 q4 r4 p5 q5 r5 p6 q6 r6 a0 a1 d0 d1 f0 f1 b0 b1 hb1 hb2 hb3 hB hB1 hB2 hW hR4
        have ys0 := gr_cell s0
        have ys1 := gr_cell s1
        have ys2 := gr_cell s2
        have ys3 := gr_cell s3
        have ys4 := gr_cell s4
        have ys5 := gr_cell s5
        have ys6 := gr_cell s6
        have hV : ∀ p, Below w.heap.size w (gr w4 p) := fun p => hB4.trans ((gr_below _ _).mono hB4.size)
        refine wp_region_gr (by kernel_rfl) (by kernel_rfl) ?_
        repeat (go_big_quiet_step ((first
          | (go_at_call 21; with_reducible exact Calls.gr_of (hh _ (hV _)))
          | (go_at_call 24; with_reducible exact Calls.gr_of (hgh _ (hV _))))))
        refine wpQuiet_nil ?_
        rintro _ ⟨pq, rfl⟩
        go_wp2
        go_ret
        exact ⟨rfl, hV _⟩
      · rw [decide_eq_true h1] at hmay
        clear h1
        go_enter Tryz.func4, Tryz.ntmps4
        go_wp2_with (first
          | (go_at_call 16; (with_reducible refine (haw _).mono ?_); clear haw; rintro e w1 ⟨rfl, hb1⟩; have hB1 := below_call hB hB.size hb1; have a0 := bl_own hb1 b0; have a1 := bl_own hb1 b1; obtain ⟨p0, p1, p2, p3, p4⟩ := blk5 a0; obtain ⟨p5, p6, _, _⟩ := blk2 a1)
          | (go_at_call 17; (with_reducible refine (hfew _).mono ?_); clear hfew; rintro e w2 ⟨rfl, hb2⟩; have hB2 := below_call hB1 hB1.size hb2; have d0 := bl_own hb2 a0; have d1 := bl_own hb2 a1; obtain ⟨q0, q1, q2, q3, q4⟩ := blk5 d0; obtain ⟨q5, q6, _, _⟩ := blk2 d1)
          | (go_at_call 19; (with_reducible refine (hof _ hB2).mono ?_); clear hof; rintro e w3 ⟨A4, k4, rfl, hR4, hb3⟩; have hB3 := below_call hB2 hB2.size hb3; have f0 := bl_own hb3 d0; have f1 := bl_own hb3 d1; obtain ⟨r0, r1, r2, r3, r4⟩ := blk5 f0; obtain ⟨r5, r6, _, _⟩ := blk2 f1)
          | (go_at_call 23; (with_reducible refine (hmay _ hB3).mono ?_); clear hmay; rintro e w4 ⟨rfl, hb4⟩; have hB4 := below_call hB3 hB3.size hb4; have g0 := bl_own hb4 f0; have g1 := bl_own hb4 f1; obtain ⟨s0, s1, s2, s3, s4⟩ := blk5 g0; obtain ⟨s5, s6, _, _⟩ := blk2 g1))
        clear p0 q0 r0 p1 q1 r1 p2 q2 r2 p3 q3 r3 p4 q4 r4 p5 q5 r5 p6 q6 r6 a0 a1 d0 d1 f0 f1 b0 b1 hb1 hb2 hb3 hB hB1 hB2 hW hR4
        have ys0 := gr_cell s0
        have ys1 := gr_cell s1
        have ys2 := gr_cell s2
        have ys3 := gr_cell s3
        have ys4 := gr_cell s4
        have ys5 := gr_cell s5
        have ys6 := gr_cell s6
        have hV : ∀ p, Below w.heap.size w (gr w4 p) := fun p => hB4.trans ((gr_below _ _).mono hB4.size)
        refine wp_region_gr (by kernel_rfl) (by kernel_rfl) ?_
        repeat (go_big_quiet_step ((first
          | (go_at_call 21; with_reducible exact Calls.gr_of (hh _ (hV _)))
          | (go_at_call 24; with_reducible exact Calls.gr_of (hgh _ (hV _))))))
        refine wpQuiet_nil ?_
        rintro _ ⟨pq, rfl⟩
        go_wp2
        go_ret
        exact ⟨rfl, hV _⟩
      · rw [decide_eq_true h1] at hmay
        clear h1
        go_enter Tryz.func4, Tryz.ntmps4
        go_wp2_with (first
          | (go_at_call 16; (with_reducible refine (haw _).mono ?_); clear haw; rintro e w1 ⟨rfl, hb1⟩; have hB1 := below_call hB hB.size hb1; have a0 := bl_own hb1 b0; have a1 := bl_own hb1 b1; obtain ⟨p0, p1, p2, p3, p4⟩ := blk5 a0; obtain ⟨p5, p6, _, _⟩ := blk2 a1)
          | (go_at_call 17; (with_reducible refine (hfew _).mono ?_); clear hfew; rintro e w2 ⟨rfl, hb2⟩; have hB2 := below_call hB1 hB1.size hb2; have d0 := bl_own hb2 a0; have d1 := bl_own hb2 a1; obtain ⟨q0, q1, q2, q3, q4⟩ := blk5 d0; obtain ⟨q5, q6, _, _⟩ := blk2 d1)
          | (go_at_call 19; (with_reducible refine (hof _ hB2).mono ?_); clear hof; rintro e w3 ⟨A4, k4, rfl, hR4, hb3⟩; have hB3 := below_call hB2 hB2.size hb3; have f0 := bl_own hb3 d0; have f1 := bl_own hb3 d1; obtain ⟨r0, r1, r2, r3, r4⟩ := blk5 f0; obtain ⟨r5, r6, _, _⟩ := blk2 f1)
          | (go_at_call 23; (with_reducible refine (hmay _ hB3).mono ?_); clear hmay; rintro e w4 ⟨rfl, hb4⟩; have hB4 := below_call hB3 hB3.size hb4; have g0 := bl_own hb4 f0; have g1 := bl_own hb4 f1; obtain ⟨s0, s1, s2, s3, s4⟩ := blk5 g0; obtain ⟨s5, s6, _, _⟩ := blk2 g1))
        clear p0 q0 r0 p1 q1 r1 p2 q2 r2 p3 q3 r3 p4 q4 r4 p5 q5 r5 p6 q6 r6 a0 a1 d0 d1 f0 f1 b0 b1 hb1 hb2 hb3 hB hB1 hB2 hW hR4
        have ys0 := gr_cell s0
        have ys1 := gr_cell s1
        have ys2 := gr_cell s2
        have ys3 := gr_cell s3
        have ys4 := gr_cell s4
        have ys5 := gr_cell s5
        have ys6 := gr_cell s6
        have hV : ∀ p, Below w.heap.size w (gr w4 p) := fun p => hB4.trans ((gr_below _ _).mono hB4.size)
        refine wp_region_gr (by kernel_rfl) (by kernel_rfl) ?_
        repeat (go_big_quiet_step ((first
          | (go_at_call 21; with_reducible exact Calls.gr_of (hh _ (hV _)))
          | (go_at_call 24; with_reducible exact Calls.gr_of (hgh _ (hV _))))))
        refine wpQuiet_nil ?_
        rintro _ ⟨pq, rfl⟩
        go_wp2
        go_ret
        exact ⟨rfl, hV _⟩
  · rw [decide_eq_false hsm] at hfew
    clear hsm
    unfold cfgv at *
    try unfold idv at *
    have hW : ∃ W, (w.alloc (.cells #[.slice A c.W.length k, .int .u64 c.seed, .int .i64 c.epoch, .int .i64 c.num, .int .i64 c.den] 25)).alloc (.cells #[.slice A2 l.length k2, .slice A3 vs.length k3] 29) = W := ⟨_, rfl⟩
    obtain ⟨W, hW⟩ := hW
    have hB : Below w.heap.size w W := by subst hW; exact ((Below.refl _ w).alloc (Nat.le_refl _) _).alloc (by simp <;> omega) _
    have b0 : W.heap[w.heap.size]? = some (.cells #[.slice A c.W.length k, .int .u64 c.seed, .int .i64 c.epoch, .int .i64 c.num, .int .i64 c.den] 25 (0, 0)) := by subst hW; exact ha_lt (ha_at rfl)
    have b1 : W.heap[w.heap.size + 1]? = some (.cells #[.slice A2 l.length k2, .slice A3 vs.length k3] 29 (0, 0)) := by subst hW; exact ha_at (by simp)
    go_enter Tryz.func4, Tryz.ntmps4
    go_wp2_with (first
      | (go_at_call 16; (with_reducible refine (haw _).mono ?_); clear haw; rintro e w1 ⟨rfl, hb1⟩; have hB1 := below_call hB hB.size hb1; have a0 := bl_own hb1 b0; have a1 := bl_own hb1 b1; obtain ⟨p0, p1, p2, p3, p4⟩ := blk5 a0; obtain ⟨p5, p6, _, _⟩ := blk2 a1)
      | (go_at_call 17; (with_reducible refine (hfew _).mono ?_); clear hfew; rintro e w2 ⟨rfl, hb2⟩; have hB2 := below_call hB1 hB1.size hb2; have d0 := bl_own hb2 a0; have d1 := bl_own hb2 a1; obtain ⟨q0, q1, q2, q3, q4⟩ := blk5 d0; obtain ⟨q5, q6, _, _⟩ := blk2 d1))
    go_ret
    exact ⟨rfl, hB2⟩
theorem all14_walk (A : Option Addr) (c : Cfg) (k : Nat) (A2 : Option Addr) (l : List Blk) (k2 : Nat) (A3 : Option Addr) (vs : List Vote) (k3 : Nat) (s : Int) (w : World) (_ : c.W.length ≤ k) (_ : k ≤ maxLen) (hr : Rd 1 encI w A c.W) (_ : c.Ok) (_ : l.length ≤ k2) (_ : k2 ≤ maxLen) (hr2 : Rd 5 encBlk w A2 l) (hok : ∀ b ∈ l, b.Ok) (_ : A2 = none → k2 = 0) (hlk : vs.length ≤ k3) (hkm : k3 ≤ maxLen) (hr3 : Rd 4 encVote w A3 vs) (_ : ∀ b ∈ vs, b.Ok) (hN : A3 = none → k3 = 0) (_ : I64 s) :
    Calls Tryz.prog 4 #[cfgv A k c, .agg #[.slice A2 l.length k2, .slice A3 vs.length k3], .int .i64 s] w fun e w' => e = .returned (.bool true) ∧ Below w.heap.size w w' :=
  all14_any c l vs s A A2 A3 k k2 k3 w hok hr hr2 hr3
end Go.Proofs.YtaohkcdfjjiggaaGreat
