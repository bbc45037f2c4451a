/- FfgWeak, walked. -/
import Derived.Test.YtdocgemfedohdaaGD
import Derived.Test.YtdocgemfedohdaaGM
import Derived.Test.YtdocgemfedohdaaGH
import Derived.IntWalk
namespace Go.Proofs.Ytdocgemfedohdaa
open Go.RowKit
set_option maxRecDepth 100000 in
set_option maxHeartbeats 8000000 in
theorem weak11_any (c : Cfg) (l : List Blk) (v : List Lnk) (A A2 A3 : Option Addr) (k k2 k3 : Nat) (w : World) (hr : Rd 1 encI w A c.W) (hr2 : Rd 5 encBlk w A2 l) (hok : ∀ b ∈ l, b.Ok) (hr3 : Rd 7 encLnk w A3 v) (_ : v.length ≤ k3) (_ : k3 ≤ maxLen) (_ : A3 = none → k3 = 0) :
    Calls Try.prog 7 #[cfgv A k c, .slice A2 l.length k2, .slice A3 v.length k3] w fun e w' => e = .returned (.bool true) ∧ Below w.heap.size w w' := by
  have hm := hr.1
  have hm2 := hr2.1
  have hm3 := hr3.1
  have haw := fun V => awake11_any V
  have hfew := fun V => few11_any c l.length v.length A A2 A3 k k2 k3 V hm hm2 hm3
  obtain ⟨W, hW⟩ : ∃ W, w.alloc (.cells #[.slice A c.W.length k, .int .u64 c.seed, .int .i64 c.epoch, .int .i64 c.num, .int .i64 c.den] 25) = W := ⟨_, rfl⟩
  have hB : Below w.heap.size w W := by subst hW; exact (Below.refl _ w).alloc (Nat.le_refl _) _
  have b0 : W.heap[w.heap.size]? = some (.cells #[.slice A c.W.length k, .int .u64 c.seed, .int .i64 c.epoch, .int .i64 c.num, .int .i64 c.den] 25 (0, 0)) := by subst hW; exact ha_at rfl
  by_cases hsm : c.W.length ≤ 40 ∧ l.length ≤ 20 ∧ v.length ≤ 40
  · rw [decide_eq_true hsm] at hfew
    obtain ⟨_, hs2, hs3⟩ := hsm
    have hun := Try.underlying22
    have hfj := fun V (hV : Below w.heap.size w V) => fjust_any c l v A A2 A3 k k2 k3 V (hr.below hV) (hr2.below hV) (by omega) (hr3.below hV) (by omega)
    have hff := fun V (hV : Below w.heap.size w V) => ffinal_any c l v A A2 A3 k k2 k3 V (hr.below hV) (hr2.below hV) (by omega) (hr3.below hV) (by omega)
    have hwt := fun V (hV : Below w.heap.size w V) who A4 k4 h4 => dweight_any c who A A4 k k4 V (hr.below hV) h4
    have htt := fun V (hV : Below w.heap.size w V) => dtotal_any c A k V (hr.below hV)
    have hwj := Lib.hid (fun h => justL_weak (c := c) (l := l) (v := v) h)
    have hwf := Lib.hid (fun h => finalL_weak (c := c) (l := l) (v := v) h)
    have hbt := Lib.hid (totalC_bd c)
    have hbw := Lib.hid (weightC_bd c (v.map (·.frm)))
    unfold cfgv at *
    go_enter Try.func7, Try.ntmps7
    go_wp2_with (first
      | (go_at_call 11; (with_reducible refine (haw _).mono ?_); clear haw; rintro e w1 ⟨rfl, hb1⟩; have hB1 := below_call hB hB.size hb1; have b1 := bl_own hb1 b0; obtain ⟨c10, c11, c12, c13, c14⟩ := blk5 b1)
      | (go_at_call 12; (with_reducible refine (hfew _).mono ?_); clear hfew; rintro e w2 ⟨rfl, hb2⟩; have hB2 := below_call hB1 hB1.size hb2; have b2 := bl_own hb2 b1; obtain ⟨c20, c21, c22, c23, c24⟩ := blk5 b2))
    clear hb1 hb2 hB hB1 b0 b1 hW c10 c11 c12 c13 c14 c20 c21 c22 c23 c24
    go_loopw [9, 10] (fun u9 u10 wr => ∃ j : Nat, j ≤ v.length ∧ u10 = .int .i64 j ∧ Own wr w2.heap.size 3 1 encI u9 ((v.take j).map (·.frm)) ∧ Below w2.heap.size w2 wr) (fun _ u10 _ => v.length - (intOf u10).toNat)
    case atStart => exact ⟨0, Nat.zero_le _, rfl, Own.nil _ _ _ _ _, Below.refl _ _⟩
    case round =>
      obtain ⟨j, hj, rfl, hown, hBW⟩ := hrel
      have hBr := below_call hB2 hB2.size hBW
      by_cases hlt : j < v.length
      · obtain ⟨b, o, rfl, hbo, d0, d1, d2, d3, d4, d5, d6⟩ := (hr3.below hBr).atL hlt
        have hsn : (v.take (j + 1)).map (·.frm) = (v.take j).map (·.frm) ++ [v[j].frm] := by rw [List.take_succ_eq_append_getElem hlt, List.map_append]; rfl
        have hfl : ((v.take j).map (·.frm)).length ≤ j := by rw [List.length_map]; exact List.length_take_le _ _
        obtain ⟨y, hy⟩ : ∃ y, v[j] = y := ⟨_, rfl⟩
        rw [hy] at d0 d1 d2 d3 d4 d5 d6 hsn
        have hsn := Lib.hid hsn
        clear hy
        have hZ : Below wr.heap.size wr (wr.alloc (.cells #[.int .i64 y.frm] 3)) := (Below.refl _ wr).alloc (Nat.le_refl _) _
        have hoZ := hown.below hZ
        have hBZ := below_call hBW hBW.size hZ
        have hszz := hBZ.size
        have z0 := ha_at (w := wr) (o := .cells #[.int .i64 y.frm] 3) (k := wr.heap.size) rfl
        go_wp2_with (at_builtin; refine wp_append1 rfl rfl hun infoI rfl (by decide) encI_len encI_one rfl hoZ (g := wr.heap.size) (c := 1) rfl (y := y.frm) z0 rfl (by omega) (by unfold maxLen; omega) (by omega) ?_; intro v6 w6 ho6 hg6 _)
        go_roundw
        case rel => exact ⟨j + 1, hlt, by go_num, by rw [hsn.out]; exact ho6, below_step hBZ hBZ.size hg6 (fun q e => (hoZ.base q e).1)⟩
        case measure => simp [intOf]; omega
      · obtain rfl : j = v.length := by omega
        rw [List.take_length] at hown
        obtain ⟨ws, hws⟩ : ∃ ws, v.map (·.frm) = ws := ⟨_, rfl⟩
        rw [hws] at hown hbw
        simp only [hws] at hwj hwf
        clear hws
        obtain ⟨A9, k9, rfl, hR9⟩ := hown.rd encI_len
        have hwt := fun p => hwt (gr wr p) (below_call hBr hBr.size (gr_below wr p)) ws A9 k9 (hR9.below (gr_below wr p))
        have htt := fun p => htt (gr wr p) (below_call hBr hBr.size (gr_below wr p))
        obtain ⟨q, hq⟩ : ∃ q, weightC c ws = q := ⟨_, rfl⟩
        obtain ⟨r, hrr⟩ : ∃ r, totalC c = r := ⟨_, rfl⟩
        rw [hq] at hwt hbw hwj hwf
        rw [hrr] at htt hbt hwj hwf
        clear hq hrr
        have hw3 : IntKind.i64.wrap (3 * q) = 3 * q := Go.IntWalk.i64_in _ (by have := hbw.out; omega)
        have hw2 : IntKind.i64.wrap (2 * r) = 2 * r := Go.IntWalk.i64_in _ (by have := hbt.out; omega)
        obtain ⟨c0, c1, c2, c3, c4⟩ := blk5 (bl_own hBW b2)
        have y0 := gr_cell c0
        have y1 := gr_cell c1
        have y2 := gr_cell c2
        have y3 := gr_cell c3
        have y4 := gr_cell c4
        obtain ⟨gj, hgj⟩ : ∃ g, justL c l v = g := ⟨_, rfl⟩
        obtain ⟨gf, hgf⟩ : ∃ g, finalL c l v = g := ⟨_, rfl⟩
        rw [hgj] at hfj hwj
        rw [hgf] at hff hwf
        clear hgj hgf
        have b3 := bl_own hBW b2
        by_cases hz : 2 * r ≤ 3 * q
        · have e1 : decide (3 * q ≥ 2 * r) = true := decide_eq_true hz
          clear hz hwj hwf
          go_wp2_with fail
          refine wp_region_gr (by kernel_rfl) (by kernel_rfl) ?_
          repeat (go_big_quiet_step ((first | (go_at_call 24; with_reducible exact Calls.gr_of (hwt _)) | (go_at_call 25; with_reducible exact Calls.gr_of (htt _)))))
          refine wpQuiet_nil ?_
          rintro _ ⟨pq, rfl⟩
          have hg := gr_below wr pq
          generalize gr wr pq = w4 at hg ⊢
          clear hw3 hw2
          go_wp2_with fail
          go_ret
          exact ⟨rfl, below_call hBr hBr.size hg⟩
        · have e1 : decide (3 * q ≥ 2 * r) = false := decide_eq_false hz
          have g1 : gj.length ≤ 1 := hwj.out (by omega)
          have g2 : gf.length ≤ 1 := hwf.out (by omega)
          have g3 : (gj.length : Int) ≤ 1 := by omega
          have g4 : (gf.length : Int) ≤ 1 := by omega
          clear hz hwj hwf
          go_wp2_with fail
          refine wp_region_gr (by kernel_rfl) (by kernel_rfl) ?_
          repeat (go_big_quiet_step ((first | (go_at_call 24; with_reducible exact Calls.gr_of (hwt _)) | (go_at_call 25; with_reducible exact Calls.gr_of (htt _)))))
          refine wpQuiet_nil ?_
          rintro _ ⟨pq, rfl⟩
          have hg := gr_below wr pq
          generalize gr wr pq = w4 at hg ⊢
          clear hw3 hw2 y0 y1 y2 y3 y4 c0 c1 c2 c3 c4
          have hB4 := below_call hBr hBr.size hg
          have b4 := bl_own hg b3
          obtain ⟨c0, c1, c2, c3, c4⟩ := blk5 b4
          go_wp2_with (first
            | (go_at_call 16; (with_reducible refine (hfj _ hB4).mono ?_); clear hfj; rintro e w5 ⟨u5, rfl, ho5, hb5⟩; have hB5 := below_call hB4 hB4.size hb5; obtain ⟨A5, k5, rfl, _⟩ := ho5.rd encChk_len; obtain ⟨f0, f1, f2, f3, f4⟩ := blk5 (bl_own hb5 b4))
            | (go_at_call 18; (with_reducible refine (hff _ hB5).mono ?_); clear hff; rintro e w6 ⟨u6, rfl, ho6, hb6⟩; have hB6 := below_call hB5 hB5.size hb6; obtain ⟨A6, k6, rfl, _⟩ := ho6.rd encChk_len))
          go_ret
          exact ⟨rfl, hB6⟩
  · rw [decide_eq_false hsm] at hfew
    clear hsm
    unfold cfgv at *
    go_enter Try.func7, Try.ntmps7
    go_wp2_with (first
      | (go_at_call 11; (with_reducible refine (haw _).mono ?_); clear haw; rintro e w1 ⟨rfl, hb1⟩; have hB1 := below_call hB hB.size hb1; have b1 := bl_own hb1 b0; obtain ⟨c10, c11, c12, c13, c14⟩ := blk5 b1)
      | (go_at_call 12; (with_reducible refine (hfew _).mono ?_); clear hfew; rintro e w2 ⟨rfl, hb2⟩; have hB2 := below_call hB1 hB1.size hb2; have b2 := bl_own hb2 b1; obtain ⟨c20, c21, c22, c23, c24⟩ := blk5 b2))
    go_ret
    exact ⟨rfl, hB2⟩
theorem weak11_walk (A : Option Addr) (c : Cfg) (k : Nat) (A2 : Option Addr) (l : List Blk) (k2 : Nat) (A3 : Option Addr) (v : List Lnk) (k3 : Nat) (w : World) (_ : c.W.length ≤ k) (_ : k ≤ maxLen) (hr : Rd 1 encI w A c.W) (_ : c.Ok) (_ : l.length ≤ k2) (_ : k2 ≤ maxLen) (hr2 : Rd 5 encBlk w A2 l) (hok : ∀ b ∈ l, b.Ok) (hk3 : v.length ≤ k3) (hk3m : k3 ≤ maxLen) (hr3 : Rd 7 encLnk w A3 v) (_ : ∀ b ∈ v, b.Ok) (hN : A3 = none → k3 = 0) :
    Calls Try.prog 7 #[cfgv A k c, .slice A2 l.length k2, .slice A3 v.length k3] w fun e w' => e = .returned (.bool true) ∧ Below w.heap.size w w' :=
  weak11_any c l v A A2 A3 k k2 k3 w hr hr2 hok hr3 hk3 hk3m hN
end Go.Proofs.Ytdocgemfedohdaa
