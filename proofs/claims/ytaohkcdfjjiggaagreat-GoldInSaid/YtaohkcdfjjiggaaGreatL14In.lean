/- GoldIn, walked. -/
import Derived.Test.YtaohkcdfjjiggaaGreatGJ
import Derived.Test.YtaohkcdfjjiggaaGreatGP
import Derived.Test.YtaohkcdfjjiggaaGreatAw14
import Derived.Test.YtaohkcdfjjiggaaGreatGM
import Derived.Test.YtaohkcdfjjiggaaGreatGD
import Derived.Test.YtaohkcdfjjiggaaGreatGH
namespace Go.Proofs.YtaohkcdfjjiggaaGreat
open Go.RowKit
set_option linter.unusedVariables false
set_option maxRecDepth 100000 in
set_option maxHeartbeats 8000000 in
theorem in14_any (c : Cfg) (vs : List Vote) (s : Int) (A A3 : Option Addr) (k k3 : Nat) (w : World) (hr : Rd 1 encI w A c.W) (hr3 : Rd 4 encVote w A3 vs) :
    Calls Tryz.prog 8 #[cfgv A k c, .slice A3 vs.length k3, .int .i64 s] w fun e w' => e = .returned (.bool true) ∧ Below w.heap.size w w' := by
  have hm := hr.1
  have hm3 := hr3.1
  have haw := fun V => awake14_any V
  unfold cfgv
  have hW : ∃ W, w.alloc (.cells #[.slice A c.W.length k, .int .u64 c.seed, .int .i64 c.epoch, .int .i64 c.num, .int .i64 c.den] 25) = W := ⟨_, rfl⟩
  obtain ⟨W, hW⟩ := hW
  have hB : Below w.heap.size w W := by subst hW; exact (Below.refl _ w).alloc (Nat.le_refl _) _
  have b0 : W.heap[w.heap.size]? = some (.cells #[.slice A c.W.length k, .int .u64 c.seed, .int .i64 c.epoch, .int .i64 c.num, .int .i64 c.den] 25 (0, 0)) := by subst hW; exact ha_at rfl
  by_cases hsm : c.W.length ≤ 40 ∧ vs.length ≤ 30
  · obtain ⟨hsm1, hsm2⟩ := hsm
    have e1 : ¬ (40 < (c.W.length : Int)) := by omega
    have e2 : ¬ (30 < (vs.length : Int)) := by omega
    have hof := fun V (hV : Below w.heap.size w V) => gof_any c vs s A A3 k k3 V (hr.below hV) (hr3.below hV) (by omega)
    have hdo := fun V (hV : Below w.heap.size w V) => doubles_any vs s A3 k3 V (hr3.below hV) (by omega)
    have hin := fun (x : Int) V (hV : Below w.heap.size w V) => din_any c s x A k V (hr.below hV)
    have hol := gold_len2 (c := c) (v := vs) (s := s) (by omega)
    have hdl := dblL_len vs s
    have hmg := Lib.hid (fun x => mem_gold (c := c) (v := vs) (s := s) (x := x))
    have hri := Lib.hid (fun i j hi hj hij => risesV_lt (goldOf_rises c vs s) i j hi hj hij)
    have hmd := Lib.hid (fun f => (dblL_is vs s).2 f)
    obtain ⟨o, ho⟩ : ∃ o, goldOf c vs s = o := ⟨_, rfl⟩
    obtain ⟨d, hd⟩ : ∃ d, dblL vs s = d := ⟨_, rfl⟩
    rw [ho] at hof hmg hri hol
    rw [hd] at hdo hdl hmd
    clear ho hd
    unfold cfgv at *
    have hin' := Lib.hid hin
    clear hin
    go_enter Tryz.func8, Tryz.ntmps8
    go_wp2_with (first
      | (go_at_call 16; (with_reducible refine (haw _).mono ?_); clear haw; rintro e w1 ⟨rfl, hb1⟩; have hB1 := below_call hB hB.size hb1; have a0 := bl_own hb1 b0; obtain ⟨p0, p1, p2, p3, p4⟩ := blk5 a0)
      | (go_at_call 19; (with_reducible refine (hof _ hB1).mono ?_); clear hof; rintro e w3 ⟨A4, k4, rfl, hR4, hb3⟩; have hB3 := below_call hB1 hB1.size hb3; have f0 := bl_own hb3 a0; obtain ⟨r0, r1, r2, r3, r4⟩ := blk5 f0)
      | (go_at_call 33; (with_reducible refine (hdo _ hB3).mono ?_); clear hdo; rintro e w4 ⟨u, rfl, ho4, hb4⟩; obtain ⟨A5, k5, hu, hR5⟩ := ho4.rd encI_len; subst hu; have hB4 := below_call hB3 hB3.size hb4; have hR44 := hR4.below hb4; have g0 := bl_own hb4 f0))
    clear p0 p1 p2 p3 p4 r0 r1 r2 r3 r4 a0 b0 f0 hb1 hb3 hb4 hB hB1 hB3 hR4 ho4 hW
    have hr34 := hr3.below hB4
    go_loopw [10, 11] (fun i _u11 wr => ∃ j : Nat, j ≤ o.length ∧ i = .int .i64 j ∧ Below w4.heap.size w4 wr) (fun i _ _ => o.length - (intOf i).toNat)
    case atStart => exact ⟨0, Nat.zero_le _, rfl, Below.refl _ _⟩
    case round =>
      obtain ⟨j, hj, rfl, hBW⟩ := hrel
      have hBr := below_call hB4 hB4.size hBW
      have gr0 := bl_own hBW g0
      obtain ⟨c0, c1, c2, c3, c4⟩ := blk5 gr0
      by_cases hlt : j < o.length
      · obtain ⟨x, hx⟩ : ∃ x, o[j] = x := ⟨_, rfl⟩
        obtain ⟨⟨hxl, hxs, hxd⟩, hxc⟩ := (hmg.out x).1 (hx ▸ List.getElem_mem hlt)
        obtain ⟨bo, oo, rfl, hbo, d0, d1, d2, d3⟩ := (hR44.below hBW).atVote hlt
        have hha := fun V (hV : Rd 1 encI V A5 d) => has14_any x.frm d A5 k5 V hV
        have hnd : decide (x.frm ∈ d) = false := by simpa using fun e => hxd ((hmd.out _).1 e)
        rw [hnd] at hha
        have hha' := Lib.hid (hha _ (hR5.below hBW))
        have hin1 := fun p => hin'.out x.frm (gr wr p) (hBr.trans ((gr_below _ _).mono hBr.size))
        rw [decide_eq_true hxc] at hin1
        have t1 : (x.slot != s) = false := by simpa using hxs
        rw [hx] at d0 d1 d2 d3
        clear hnd hha hxl hxs hxd hxc
        cases j with
        | zero =>
          clear hx
          simp only [Nat.zero_mul, Nat.add_zero] at d0 d1 d2 d3
          go_wp2_with (go_at_call 27; (with_reducible refine hha'.out.mono ?_); clear hha'; rintro e w9 ⟨rfl, hw9⟩; subst hw9)
          have yc0 := gr_cell c0
          have yc1 := gr_cell c1
          have yc2 := gr_cell c2
          have yc3 := gr_cell c3
          have yc4 := gr_cell c4
          have yd0 := gr_cell d0
          have yd1 := gr_cell d1
          have hV : ∀ p, Below w.heap.size w (gr w9 p) := fun p => hBr.trans ((gr_below _ _).mono hBr.size)
          refine wp_region_gr (by kernel_rfl) (by kernel_rfl) ?_
          repeat (go_big_quiet_step ((first
            | (go_at_call 26; with_reducible exact Calls.gr_of (hin1 _)))))
          refine wpQuiet_nil ?_
          rintro _ ⟨pq, rfl⟩
          go_wp2_with fail
          go_roundw
          case rel => exact ⟨1, by omega, by go_num, below_call hBW hBW.size (gr_below _ _)⟩
          case measure => simp [intOf]; omega
        | succ j =>
          have hlt2 : j < o.length := by omega
          have hyx := hri.out j (j + 1) hlt2 hlt (by omega)
          rw [hx] at hyx
          clear hx
          obtain ⟨b2, o2, he, _, q0, -, -, -⟩ := (hR44.below hBW).atVote hlt2
          cases he
          obtain ⟨y, hy⟩ : ∃ y, o[j] = y := ⟨_, rfl⟩
          rw [hy] at hyx q0
          have t3 : decide (x.frm ≤ y.frm) = false := by simp; omega
          have t4 : decide ((0 : Int) < (j : Int) + 1) = true := decide_eq_true (by omega)
          have i0 : (0 : Int) ≤ (j : Int) + 1 := by omega
          clear hy hyx
          go_wp2_with (go_at_call 27; (with_reducible refine hha'.out.mono ?_); clear hha'; rintro e w9 ⟨rfl, hw9⟩; subst hw9)
          have yc0 := gr_cell c0
          have yc1 := gr_cell c1
          have yc2 := gr_cell c2
          have yc3 := gr_cell c3
          have yc4 := gr_cell c4
          have yd0 := gr_cell d0
          have yd1 := gr_cell d1
          have yq0 := gr_cell q0
          have hV : ∀ p, Below w.heap.size w (gr w9 p) := fun p => hBr.trans ((gr_below _ _).mono hBr.size)
          refine wp_region_gr (by kernel_rfl) (by kernel_rfl) ?_
          repeat (go_big_quiet_step ((first
            | (go_at_call 26; with_reducible exact Calls.gr_of (hin1 _)))))
          refine wpQuiet_nil ?_
          rintro _ ⟨pq, rfl⟩
          go_wp2_with fail
          go_roundw
          case rel => exact ⟨j + 1 + 1, hlt, by go_num, below_call hBW hBW.size (gr_below _ _)⟩
          case measure => simp [intOf]; omega
      · obtain rfl : j = o.length := by omega
        clear c0 c1 c2 c3 c4
        go_wp2_with fail
        go_loopw [12, 13, 14, 15] (fun i _u13 _u14 _u15 wr => ∃ j : Nat, j ≤ vs.length ∧ i = .int .i64 j ∧ Below w4.heap.size w4 wr) (fun i _ _ _ _ => vs.length - (intOf i).toNat)
        case atStart => exact ⟨0, Nat.zero_le _, rfl, hBW⟩
        clear gr0 hBr hBW
        case round =>
          obtain ⟨j, hj, rfl, hBW⟩ := hrel
          have hBr := below_call hB4 hB4.size hBW
          have gr0 := bl_own hBW g0
          obtain ⟨c0, c1, c2, c3, c4⟩ := blk5 gr0
          by_cases hlt : j < vs.length
          · obtain ⟨x, hx⟩ : ∃ x, vs[j] = x := ⟨_, rfl⟩
            have hxm : x ∈ vs := hx ▸ List.getElem_mem hlt
            obtain ⟨bo, oo, rfl, hbo, d0, d1, d2, d3⟩ := (hr34.below hBW).atVote hlt
            rw [hx] at d0 d1 d2 d3
            have hha' := Lib.hid (has14_any x.frm d A5 k5 _ (hR5.below hBW))
            have hin1 := fun p => hin'.out x.frm (gr wr p) (hBr.trans ((gr_below _ _).mono hBr.size))
            have hx' := Lib.hid hx
            clear hx
            by_cases hxd : x.frm ∈ d
            · rw [decide_eq_true hxd] at hha'
              clear hxd hin1
              go_wp2_with (go_at_call 27; (with_reducible refine hha'.out.mono ?_); clear hha'; rintro e w9 ⟨rfl, hw9⟩; subst hw9)
              have hV : ∀ p, Below w.heap.size w (gr w9 p) := fun p => hBr.trans ((gr_below _ _).mono hBr.size)
              refine wp_region_gr (by kernel_rfl) (by kernel_rfl) ?_
              repeat (go_big_quiet_step (fail))
              refine wpQuiet_nil ?_
              rintro _ ⟨pq, rfl⟩
              go_wp2_with fail
              go_roundw
              case rel => exact ⟨j + 1, hlt, by go_num, below_call hBW hBW.size (gr_below _ _)⟩
              case measure => simp [intOf]; omega
            · rw [decide_eq_false hxd] at hha'
              have hnd := fun e => hxd ((hmd.out x.frm).2 e)
              by_cases hxs : x.slot = s
              · have t1 : (x.slot != s) = false := by simpa using hxs
                by_cases hxc : x.frm ∈ comC c s
                · have hxo := Lib.hid ((hmg.out x).2 ⟨⟨hxm, hxs, hnd⟩, hxc⟩)
                  rw [decide_eq_true hxc] at hin1
                  clear hxc hxs hnd hxd hxm
                  go_wp2_with (go_at_call 27; (with_reducible refine hha'.out.mono ?_); clear hha'; rintro e w9 ⟨rfl, hw9⟩; subst hw9)
                  have yc0 := gr_cell c0
                  have yc1 := gr_cell c1
                  have yc2 := gr_cell c2
                  have yc3 := gr_cell c3
                  have yc4 := gr_cell c4
                  have yd0 := gr_cell d0
                  have yd1 := gr_cell d1
                  have hV : ∀ p, Below w.heap.size w (gr w9 p) := fun p => hBr.trans ((gr_below _ _).mono hBr.size)
                  refine wp_region_gr (by kernel_rfl) (by kernel_rfl) ?_
                  repeat (go_big_quiet_step ((first
                    | (go_at_call 26; with_reducible exact Calls.gr_of (hin1 _)))))
                  refine wpQuiet_nil ?_
                  rintro _ ⟨pq, rfl⟩
                  have hbg := gr_below w9 pq
                  have hBG := below_call hBW hBW.size hbg
                  generalize gr w9 pq = w5 at hbg hBG ⊢
                  clear c0 c1 c2 c3 c4 d0 d1 d2 d3 yc0 yc1 yc2 yc3 yc4 yd0 yd1 hV hin1 gr0
                  go_wp2_with fail
                  go_loopw [14, 15] (fun is i wr => ∃ kk : Nat, kk ≤ o.length ∧ i = .int .i64 kk ∧ is = .bool (decide (x ∈ o.take kk)) ∧ Below w5.heap.size w5 wr) (fun _ i _ => o.length - (intOf i).toNat)
                  case atStart => exact ⟨0, Nat.zero_le _, rfl, by simp, Below.refl _ _⟩
                  case round =>
                    obtain ⟨kk, hkk, rfl, rfl, hBX⟩ := hrel
                    have hBx := below_call hBG hBG.size hBX
                    by_cases hlt3 : kk < o.length
                    · obtain ⟨b3, o3, rfl, hbo3, f0, f1, f2, f3⟩ := (hR44.below hBx).atVote hlt3
                      obtain ⟨b4, o4, he4, _, d0, d1, d2, d3⟩ := (hr34.below hBx).atVote hlt
                      cases he4
                      rw [hx'.out] at d0 d1 d2 d3
                      have hst : (x ∈ o.take (kk + 1)) ↔ (x ∈ o.take kk ∨ x = o[kk]) := by rw [← List.take_append_getElem hlt3, List.mem_append, List.mem_singleton]
                      obtain ⟨y, hy⟩ : ∃ y, o[kk] = y := ⟨_, rfl⟩
                      rw [hy] at f0 f1 f2 f3 hst
                      have heq := eql_votew y x
                      clear hy
                      by_cases hin2 : x ∈ o.take kk
                      · have hn := Lib.hid (decide_eq_true (hst.2 (.inl hin2)))
                        rw [decide_eq_true hin2]
                        clear heq hst hin2
                        go_wp2_with fail
                        go_quiet (fail)
                        go_wp2_with fail
                        go_roundw
                        case rel => exact ⟨kk + 1, hlt3, by go_num, by rw [hn.out], pw_below_drewN hBX _⟩
                        case measure => simp [intOf]; omega
                      · rw [decide_eq_false hin2]
                        by_cases he : y = x
                        · rw [decide_eq_true he] at heq
                          have hn := Lib.hid (decide_eq_true (hst.2 (.inr he.symm)))
                          clear hst hin2 he
                          go_wp2_with fail
                          go_quiet (fail)
                          go_wp2_with fail
                          go_roundw
                          case rel => exact ⟨kk + 1, hlt3, by go_num, by rw [hn.out], pw_below_drewN hBX _⟩
                          case measure => simp [intOf]; omega
                        · rw [decide_eq_false he] at heq
                          have hn := Lib.hid (decide_eq_false (fun h => (hst.1 h).elim hin2 (fun e => he e.symm)))
                          clear hst hin2 he
                          go_wp2_with fail
                          go_quiet (fail)
                          go_wp2_with fail
                          go_roundw
                          case rel => exact ⟨kk + 1, hlt3, by go_num, by rw [hn.out], pw_below_drewN hBX _⟩
                          case measure => simp [intOf]; omega
                    · obtain rfl : kk = o.length := by omega
                      rw [List.take_length]
                      rw [decide_eq_true hxo.out]
                      go_wp2_with fail
                      go_roundw
                      case rel => exact ⟨j + 1, hlt, by go_num, hBx⟩
                      case measure => simp [intOf]; omega
                · rw [decide_eq_false hxc] at hin1
                  clear hxc hxs hnd hxd hxm
                  go_wp2_with (go_at_call 27; (with_reducible refine hha'.out.mono ?_); clear hha'; rintro e w9 ⟨rfl, hw9⟩; subst hw9)
                  have yc0 := gr_cell c0
                  have yc1 := gr_cell c1
                  have yc2 := gr_cell c2
                  have yc3 := gr_cell c3
                  have yc4 := gr_cell c4
                  have yd0 := gr_cell d0
                  have yd1 := gr_cell d1
                  have hV : ∀ p, Below w.heap.size w (gr w9 p) := fun p => hBr.trans ((gr_below _ _).mono hBr.size)
                  refine wp_region_gr (by kernel_rfl) (by kernel_rfl) ?_
                  repeat (go_big_quiet_step ((first
                    | (go_at_call 26; with_reducible exact Calls.gr_of (hin1 _)))))
                  refine wpQuiet_nil ?_
                  rintro _ ⟨pq, rfl⟩
                  go_wp2_with fail
                  go_roundw
                  case rel => exact ⟨j + 1, hlt, by go_num, below_call hBW hBW.size (gr_below _ _)⟩
                  case measure => simp [intOf]; omega
              · have t1 : (x.slot != s) = true := by simpa using hxs
                clear hxs hnd hxd hxm hin1
                go_wp2_with (go_at_call 27; (with_reducible refine hha'.out.mono ?_); clear hha'; rintro e w9 ⟨rfl, hw9⟩; subst hw9)
                have yd1 := gr_cell d1
                have hV : ∀ p, Below w.heap.size w (gr w9 p) := fun p => hBr.trans ((gr_below _ _).mono hBr.size)
                refine wp_region_gr (by kernel_rfl) (by kernel_rfl) ?_
                repeat (go_big_quiet_step (fail))
                refine wpQuiet_nil ?_
                rintro _ ⟨pq, rfl⟩
                go_wp2_with fail
                go_roundw
                case rel => exact ⟨j + 1, hlt, by go_num, below_call hBW hBW.size (gr_below _ _)⟩
                case measure => simp [intOf]; omega
          · obtain rfl : j = vs.length := by omega
            go_wp2_with fail
            go_ret
            exact ⟨rfl, hBr⟩
  · have hcase : 40 < c.W.length ∨ (c.W.length ≤ 40 ∧ 30 < vs.length) := by omega
    clear hsm
    rcases hcase with h1 | ⟨h1, h2⟩
    · have e1 : 40 < (c.W.length : Int) := by omega
      go_enter Tryz.func8, Tryz.ntmps8
      go_wp2_with (go_at_call 16; (with_reducible refine (haw _).mono ?_); clear haw; rintro e w1 ⟨rfl, hb1⟩; have hB1 := below_call hB hB.size hb1; have a0 := bl_own hb1 b0; obtain ⟨p0, p1, p2, p3, p4⟩ := blk5 a0)
      go_ret
      exact ⟨rfl, hB1⟩
    · have e1 : ¬ (40 < (c.W.length : Int)) := by omega
      have e2 : 30 < (vs.length : Int) := by omega
      go_enter Tryz.func8, Tryz.ntmps8
      go_wp2_with (go_at_call 16; (with_reducible refine (haw _).mono ?_); clear haw; rintro e w1 ⟨rfl, hb1⟩; have hB1 := below_call hB hB.size hb1; have a0 := bl_own hb1 b0; obtain ⟨p0, p1, p2, p3, p4⟩ := blk5 a0)
      go_ret
      exact ⟨rfl, hB1⟩
theorem in14_walk (A : Option Addr) (c : Cfg) (k : Nat) (A3 : Option Addr) (vs : List Vote) (k3 : Nat) (s : Int) (w : World) (_ : c.W.length ≤ k) (_ : k ≤ maxLen) (hr : Rd 1 encI w A c.W) (_ : c.Ok) (_ : vs.length ≤ k3) (_ : k3 ≤ maxLen) (hr3 : Rd 4 encVote w A3 vs) (_ : ∀ b ∈ vs, b.Ok) (_ : I64 s) :
    Calls Tryz.prog 8 #[cfgv A k c, .slice A3 vs.length k3, .int .i64 s] w fun e w' => e = .returned (.bool true) ∧ Below w.heap.size w w' :=
  in14_any c vs s A A3 k k3 w hr hr3
end Go.Proofs.YtaohkcdfjjiggaaGreat
