/- FfgEpochs, walked. -/
import Derived.Test.YtdocgemfedohdaaGD
import Derived.Test.YtdocgemfedohdaaGM
namespace Go.Proofs.Ytdocgemfedohdaa
open Go.RowKit
theorem any_take_last {α : Type} (p : α → Bool) {g : List α} {j : Nat} (hj : j < g.length) : (g.take (j + 1)).any p = ((g.take j).any p || p g[j]) := by
  rw [List.take_succ_eq_append_getElem hj, List.any_append]
  simp
/-- Is there such a link, that may be? -/
def isL (c : Cfg) (l : List Blk) (x y : Lnk) : Bool := decide (y.src = x.src) && decide (y.tgt = x.tgt) && decide (MayL c l y)
theorem isL_strong {c : Cfg} {l : List Blk} {v : List Lnk} {x : Lnk} (h : StrongW c l v ⟨x.src, x.tgt⟩) : v.any (isL c l x) = true := by
  obtain ⟨y, h1, h2, h3⟩ := strong_link h
  rw [List.any_eq_true]
  refine ⟨y, h1, ?_⟩
  unfold isL
  rw [decide_eq_true (show y.src = x.src from congrArg Way.src h3), decide_eq_true (show y.tgt = x.tgt from congrArg Way.tgt h3), decide_eq_true h2]
  rfl
set_option maxRecDepth 100000 in
set_option maxHeartbeats 8000000 in
theorem epochs11_any (c : Cfg) (l : List Blk) (v : List Lnk) (x : Lnk) (A A2 A3 : Option Addr) (k k2 k3 : Nat) (w : World) (hr : Rd 1 encI w A c.W) (hr2 : Rd 5 encBlk w A2 l) (hok : ∀ b ∈ l, b.Ok) (hr3 : Rd 7 encLnk w A3 v) (_ : v.length ≤ k3) (_ : k3 ≤ maxLen) (_ : A3 = none → k3 = 0) :
    Calls Try.prog 8 #[cfgv A k c, .slice A2 l.length k2, .slice A3 v.length k3, lnkv x] w fun e w' => e = .returned (.bool true) ∧ Below w.heap.size w w' := by
  have hm := hr.1
  have hm2 := hr2.1
  have hm3 := hr3.1
  have haw := fun V => awake11_any V
  have hfew := fun V => few11_any c l.length v.length A A2 A3 k k2 k3 V hm hm2 hm3
  obtain ⟨W, hW⟩ : ∃ W, (w.alloc (.cells #[.slice A c.W.length k, .int .u64 c.seed, .int .i64 c.epoch, .int .i64 c.num, .int .i64 c.den] 25)).alloc (.cells #[.int .i64 x.frm, .int .i64 x.src.epoch, .int .u64 x.src.root.hi, .int .u64 x.src.root.lo, .int .i64 x.tgt.epoch, .int .u64 x.tgt.root.hi, .int .u64 x.tgt.root.lo] 33) = W := ⟨_, rfl⟩
  have hB : Below w.heap.size w W := by subst hW; exact ((Below.refl _ w).alloc (Nat.le_refl _) _).alloc (by simp) _
  have b0 : W.heap[w.heap.size]? = some (.cells #[.slice A c.W.length k, .int .u64 c.seed, .int .i64 c.epoch, .int .i64 c.num, .int .i64 c.den] 25 (0, 0)) := by subst hW; exact ha_lt (ha_at rfl)
  have x0 : W.heap[w.heap.size + 1]? = some (.cells #[.int .i64 x.frm, .int .i64 x.src.epoch, .int .u64 x.src.root.hi, .int .u64 x.src.root.lo, .int .i64 x.tgt.epoch, .int .u64 x.tgt.root.hi, .int .u64 x.tgt.root.lo] 33 (0, 0)) := by subst hW; exact ha_at (by simp)
  by_cases hsm : c.W.length ≤ 40 ∧ l.length ≤ 20 ∧ v.length ≤ 40
  · rw [decide_eq_true hsm] at hfew
    obtain ⟨_, hs2, hs3⟩ := hsm
    have hfm := fun y V (hV : Below w.heap.size w V) => fmay_any c l y A A2 k k2 V (hr.below hV) (hr2.below hV) (by omega)
    have hfs := fun V (hV : Below w.heap.size w V) => fstrong_any c l v x.src x.tgt A A2 A3 k k2 k3 V (hr.below hV) (hr2.below hV) (by omega) (hr3.below hV) (by omega)
    have hst := Lib.hid (fun h : StrongW c l v ⟨x.src, x.tgt⟩ => isL_strong h)
    have hso := Lib.hid (fun h : StrongW c l v ⟨x.src, x.tgt⟩ => (strong_ok h).lt)
    have hmo := Lib.hid (fun h : MayL c l x => h.2.2.2.2.1)
    unfold cfgv chkv lnkv at *
    by_cases hep : x.tgt.epoch ≤ x.src.epoch
    · have e1 : decide (x.src.epoch ≥ x.tgt.epoch) = true := decide_eq_true hep
      have hfmx := hfm x
      rw [decide_eq_false (fun h => by have h2 : x.src.epoch < x.tgt.epoch := hso.out h; omega)] at hfs
      rw [decide_eq_false (fun h => by have h2 : x.src.epoch < x.tgt.epoch := hmo.out h; omega)] at hfmx
      clear hep hfm
      go_enter Try.func8, Try.ntmps8
      go_wp2_with (first
        | (go_at_call 11; (with_reducible refine (haw _).mono ?_); clear haw; rintro e w1 ⟨rfl, hb1⟩; have hB1 := below_call hB hB.size hb1; have b1 := bl_own hb1 b0; obtain ⟨c10, c11, c12, c13, c14⟩ := blk5 b1)
        | (go_at_call 12; (with_reducible refine (hfew _).mono ?_); clear hfew; rintro e w2 ⟨rfl, hb2⟩; have hB2 := below_call hB1 hB1.size hb2; have b2 := bl_own hb2 b1; obtain ⟨c20, c21, c22, c23, c24⟩ := blk5 b2; have x2 := bl_own hb2 (bl_own hb1 x0); obtain ⟨x20, x21, x22, x23, x24, x25, x26⟩ := blkL x2)
        | (go_at_call 21; (with_reducible refine (hfs _ hB2).mono ?_); clear hfs; rintro e w3 ⟨rfl, hb3⟩; have hB3 := below_call hB2 hB2.size hb3; obtain ⟨c30, c31, c32, c33, c34⟩ := blk5 (bl_own hb3 b2); obtain ⟨x30, x31, x32, x33, x34, x35, x36⟩ := blkL (bl_own hb3 x2))
        | (go_at_call 20; (with_reducible refine (hfmx _ hB3).mono ?_); clear hfmx; rintro e w4 ⟨rfl, hb4⟩; have hB4 := below_call hB3 hB3.size hb4))
      go_ret
      exact ⟨rfl, hB4⟩
    · have e1 : decide (x.src.epoch ≥ x.tgt.epoch) = false := decide_eq_false hep
      obtain ⟨q, hq⟩ : ∃ q, decide (StrongW c l v ⟨x.src, x.tgt⟩) = q := ⟨_, rfl⟩
      rw [hq] at hfs
      have hres := Lib.hid (show q = true → v.any (isL c l x) = true from fun h => hst.out (of_decide_eq_true (hq.trans h)))
      clear hep hq
      go_enter Try.func8, Try.ntmps8
      go_wp2_with (first
        | (go_at_call 11; (with_reducible refine (haw _).mono ?_); clear haw; rintro e w1 ⟨rfl, hb1⟩; have hB1 := below_call hB hB.size hb1; have b1 := bl_own hb1 b0; obtain ⟨c10, c11, c12, c13, c14⟩ := blk5 b1)
        | (go_at_call 12; (with_reducible refine (hfew _).mono ?_); clear hfew; rintro e w2 ⟨rfl, hb2⟩; have hB2 := below_call hB1 hB1.size hb2; have b2 := bl_own hb2 b1; obtain ⟨c20, c21, c22, c23, c24⟩ := blk5 b2; have x2 := bl_own hb2 (bl_own hb1 x0); obtain ⟨x20, x21, x22, x23, x24, x25, x26⟩ := blkL x2)
        | (go_at_call 21; (with_reducible refine (hfs _ hB2).mono ?_); clear hfs; rintro e w3 ⟨rfl, hb3⟩; have hB3 := below_call hB2 hB2.size hb3; have b3 := bl_own hb3 b2; have x3 := bl_own hb3 x2; obtain ⟨c30, c31, c32, c33, c34⟩ := blk5 b3; obtain ⟨x30, x31, x32, x33, x34, x35, x36⟩ := blkL x3))
      clear hb1 hb2 hb3 hB hB1 hB2 b0 b1 b2 x0 x2 hW c10 c11 c12 c13 c14 c20 c21 c22 c23 c24 c30 c31 c32 c33 c34 x20 x21 x22 x23 x24 x25 x26 x30 x31 x32 x33 x34 x35 x36 e1
      go_loopw [12, 13] (fun u12 u13 wr => ∃ j : Nat, j ≤ v.length ∧ u13 = .int .i64 j ∧ u12 = .bool ((v.take j).any (isL c l x)) ∧ Below w3.heap.size w3 wr) (fun _ u13 _ => v.length - (intOf u13).toNat)
      case atStart => exact ⟨0, Nat.zero_le _, rfl, rfl, Below.refl _ _⟩
      case round =>
        obtain ⟨j, hj, rfl, rfl, hBW⟩ := hrel
        have hBr := below_call hB3 hB3.size hBW
        obtain ⟨p, hp⟩ : ∃ p, (v.take j).any (isL c l x) = p := ⟨_, rfl⟩
        by_cases hlt : j < v.length
        · obtain ⟨b, o, rfl, hbo, d0, d1, d2, d3, d4, d5, d6⟩ := (hr3.below hBr).atL hlt
          have hsn := any_take_last (isL c l x) hlt
          obtain ⟨y, hy⟩ : ∃ y, v[j] = y := ⟨_, rfl⟩
          rw [hy] at d0 d1 d2 d3 d4 d5 d6 hsn
          rw [hp] at hsn ⊢
          rw [show isL c l x y = (decide (y.src = x.src) && decide (y.tgt = x.tgt) && decide (MayL c l y)) from rfl] at hsn
          clear hy hp
          obtain ⟨c0, c1, c2, c3, c4⟩ := blk5 (bl_own hBW b3)
          obtain ⟨x0, x1, x2, x3', x4, x5, x6⟩ := blkL (bl_own hBW x3)
          have y0 := gr_cell c0
          have y1 := gr_cell c1
          have y2 := gr_cell c2
          have y3 := gr_cell c3
          have y4 := gr_cell c4
          have z0 := gr_cell d0
          have z1 := gr_cell d1
          have z2 := gr_cell d2
          have z3 := gr_cell d3
          have z4 := gr_cell d4
          have z5 := gr_cell d5
          have z6 := gr_cell d6
          have t1 := gr_cell x1
          have t2 := gr_cell x2
          have t3 := gr_cell x3'
          have t4 := gr_cell x4
          have t5 := gr_cell x5
          have t6 := gr_cell x6
          have hq1 := eql_chk y.src x.src
          have hq2 := eql_chk y.tgt x.tgt
          have hmy := fun p => hfm y (gr wr p) (below_call hBr hBr.size (gr_below wr p))
          cases p
          · by_cases h1 : y.src = x.src
            · rw [decide_eq_true h1] at hq1 hsn
              by_cases h2 : y.tgt = x.tgt
              · rw [decide_eq_true h2] at hq2 hsn
                obtain ⟨m, hmm⟩ : ∃ m, decide (MayL c l y) = m := ⟨_, rfl⟩
                rw [hmm] at hsn hmy
                clear h1 h2 hmm
                have hsn : (v.take (j + 1)).any (isL c l x) = m := hsn.trans (by simp)
                have hsn := Lib.hid hsn
                go_wp2_with fail
                refine wp_region_gr (by kernel_rfl) (by kernel_rfl) ?_
                repeat (go_big_quiet_step ((go_at_call 20; with_reducible exact Calls.gr_of (hmy _))))
                refine wpQuiet_nil ?_
                rintro _ ⟨pq, rfl⟩
                have hg := gr_below wr pq
                generalize gr wr pq = w4 at hg ⊢
                clear y0 y1 y2 y3 y4 z0 z1 z2 z3 z4 z5 z6 t1 t2 t3 t4 t5 t6 hq1 hq2 hmy
                go_wp2_with fail
                go_roundw
                case rel => exact ⟨j + 1, hlt, by go_num, by rw [hsn.out], below_call hBW hBW.size hg⟩
                case measure => simp [intOf]; omega
              · rw [decide_eq_false h2] at hq2 hsn
                clear h1 h2
                have hsn : (v.take (j + 1)).any (isL c l x) = false := hsn.trans (by simp)
                have hsn := Lib.hid hsn
                go_wp2_with fail
                refine wp_region_gr (by kernel_rfl) (by kernel_rfl) ?_
                repeat (go_big_quiet_step ((go_at_call 20; with_reducible exact Calls.gr_of (hmy _))))
                refine wpQuiet_nil ?_
                rintro _ ⟨pq, rfl⟩
                have hg := gr_below wr pq
                generalize gr wr pq = w4 at hg ⊢
                clear y0 y1 y2 y3 y4 z0 z1 z2 z3 z4 z5 z6 t1 t2 t3 t4 t5 t6 hq1 hq2 hmy
                go_wp2_with fail
                go_roundw
                case rel => exact ⟨j + 1, hlt, by go_num, by rw [hsn.out], below_call hBW hBW.size hg⟩
                case measure => simp [intOf]; omega
            · rw [decide_eq_false h1] at hq1 hsn
              clear h1
              have hsn : (v.take (j + 1)).any (isL c l x) = false := hsn.trans (by simp)
              have hsn := Lib.hid hsn
              go_wp2_with fail
              refine wp_region_gr (by kernel_rfl) (by kernel_rfl) ?_
              repeat (go_big_quiet_step ((go_at_call 20; with_reducible exact Calls.gr_of (hmy _))))
              refine wpQuiet_nil ?_
              rintro _ ⟨pq, rfl⟩
              have hg := gr_below wr pq
              generalize gr wr pq = w4 at hg ⊢
              clear y0 y1 y2 y3 y4 z0 z1 z2 z3 z4 z5 z6 t1 t2 t3 t4 t5 t6 hq1 hq2 hmy
              go_wp2_with fail
              go_roundw
              case rel => exact ⟨j + 1, hlt, by go_num, by rw [hsn.out], below_call hBW hBW.size hg⟩
              case measure => simp [intOf]; omega
          · have hsn : (v.take (j + 1)).any (isL c l x) = true := hsn.trans (by simp)
            have hsn := Lib.hid hsn
            go_wp2_with fail
            refine wp_region_gr (by kernel_rfl) (by kernel_rfl) ?_
            repeat (go_big_quiet_step ((go_at_call 20; with_reducible exact Calls.gr_of (hmy _))))
            refine wpQuiet_nil ?_
            rintro _ ⟨pq, rfl⟩
            have hg := gr_below wr pq
            generalize gr wr pq = w4 at hg ⊢
            clear y0 y1 y2 y3 y4 z0 z1 z2 z3 z4 z5 z6 t1 t2 t3 t4 t5 t6 hq1 hq2 hmy
            go_wp2_with fail
            go_roundw
            case rel => exact ⟨j + 1, hlt, by go_num, by rw [hsn.out], below_call hBW hBW.size hg⟩
            case measure => simp [intOf]; omega
        · obtain rfl : j = v.length := by omega
          rw [List.take_length] at hp ⊢
          rw [hp] at hres ⊢
          have hq' := hres.out
          clear hp
          cases q
          · clear hq'
            go_wp2_with fail
            go_ret
            exact ⟨rfl, hBr⟩
          · obtain rfl := hq' rfl
            go_wp2_with fail
            go_ret
            exact ⟨rfl, hBr⟩
  · rw [decide_eq_false hsm] at hfew
    clear hsm
    unfold cfgv lnkv at *
    go_enter Try.func8, Try.ntmps8
    go_wp2_with (first
      | (go_at_call 11; (with_reducible refine (haw _).mono ?_); clear haw; rintro e w1 ⟨rfl, hb1⟩; have hB1 := below_call hB hB.size hb1; have b1 := bl_own hb1 b0; obtain ⟨c10, c11, c12, c13, c14⟩ := blk5 b1)
      | (go_at_call 12; (with_reducible refine (hfew _).mono ?_); clear hfew; rintro e w2 ⟨rfl, hb2⟩; have hB2 := below_call hB1 hB1.size hb2; have b2 := bl_own hb2 b1; obtain ⟨c20, c21, c22, c23, c24⟩ := blk5 b2))
    go_ret
    exact ⟨rfl, hB2⟩
theorem epochs11_walk (A : Option Addr) (c : Cfg) (k : Nat) (A2 : Option Addr) (l : List Blk) (k2 : Nat) (A3 : Option Addr) (v : List Lnk) (k3 : Nat) (x : Lnk) (w : World) (_ : c.W.length ≤ k) (_ : k ≤ maxLen) (hr : Rd 1 encI w A c.W) (_ : c.Ok) (_ : l.length ≤ k2) (_ : k2 ≤ maxLen) (hr2 : Rd 5 encBlk w A2 l) (hok : ∀ b ∈ l, b.Ok) (hk3 : v.length ≤ k3) (hk3m : k3 ≤ maxLen) (hr3 : Rd 7 encLnk w A3 v) (_ : ∀ b ∈ v, b.Ok) (hN : A3 = none → k3 = 0) (_ : x.Ok) :
    Calls Try.prog 8 #[cfgv A k c, .slice A2 l.length k2, .slice A3 v.length k3, lnkv x] w fun e w' => e = .returned (.bool true) ∧ Below w.heap.size w w' :=
  epochs11_any c l v x A A2 A3 k k2 k3 w hr hr2 hok hr3 hk3 hk3m hN
end Go.Proofs.Ytdocgemfedohdaa
