/- GN: several texts in one. -/
import Derived.Test.YtdocgemfedohdaaGH
import Derived.Test.YtdocgemfedohdaaGA
import Derived.Test.YtdocgemfedohdaaGI
import Derived.Test.YtdocgemfedohdaaGL
import Derived.IntWalk
import Derived.Test.YtdocgemfedohdaaGG
import Derived.Test.YtdocgemfedohdaaGJ
import Derived.Test.YtdocgemfedohdaaGK
/-! How much a boost is, walked: lmd.Boost, and the document's. -/
namespace Go.Proofs.Ytdocgemfedohdaa
open Go.RowKit
set_option maxRecDepth 100000 in
set_option maxHeartbeats 2000000 in
theorem rtotal_any (c : Cfg) (A : Option Addr) (k : Nat) (w : World) (hr : Rd 1 encI w A c.W) :
    Calls Try.prog 60 #[cfgv A k c] w fun e w' => e = .returned (.int .i64 (totalC c)) ∧ Below w.heap.size w w' := by
  have hm := hr.1
  have hmay := fun W (hW : Below w.heap.size w W) => rcmay_any c A k W (hr.below hW)
  unfold cfgv at *
  have hW : ∃ W, w.alloc (.cells #[.slice A c.W.length k, .int .u64 c.seed, .int .i64 c.epoch, .int .i64 c.num, .int .i64 c.den] 25) = W := ⟨_, rfl⟩
  obtain ⟨W, hW⟩ := hW
  have hB : Below w.heap.size w W := by subst hW; exact (Below.refl _ w).alloc (Nat.le_refl _) _
  have hb : W.heap[w.heap.size]? = some (.cells #[.slice A c.W.length k, .int .u64 c.seed, .int .i64 c.epoch, .int .i64 c.num, .int .i64 c.den] 25 (0, 0)) := by subst hW; exact ha_at rfl
  obtain ⟨c0, c1, c2, c3, c4⟩ := blk5 hb
  by_cases hmc : MayC c
  · rw [decide_eq_true hmc] at hmay
    have hres := Lib.hid (show totalC c = wsumTo c.W (fun _ => true) c.W.length by simp [totalC, hmc])
    have hbd' := Lib.hid (wsumTo_bd hmc.W (fun _ => true))
    have hlen := hmc.len
    have hWx' := Lib.hid hmc.W
    clear hmc
    go_enter Try.func60, Try.ntmps60
    go_wp2_with (go_at_call 29; refine (hmay _ hB).mono ?_; rintro e w1 ⟨rfl, hb1⟩)
    have hB1 := below_call hB hB.size hb1
    have hbb := bl_own hb1 hb
    have e0 := blk_cell hbb 0
    clear hmay hb1 c0 c1 c2 c3 c4
    go_loop [3, 5] (fun n i => ∃ i0 : Nat, i0 ≤ c.W.length ∧ i = .int .i64 i0 ∧ n = .int .i64 (wsumTo c.W (fun _ => true) i0)) (fun _ i => c.W.length - (intOf i).toNat)
    case atStart => exact ⟨0, Nat.zero_le _, rfl, rfl⟩
    case round =>
      obtain ⟨i, hi, rfl, rfl⟩ := hrel
      have hbi := hbd'.out i
      have hst : wsumTo c.W (fun _ => true) (i + 1) = wsumTo c.W (fun _ => true) i + c.W[i]?.getD 0 := by simp [wsumTo]
      obtain ⟨s, hs⟩ : ∃ s, wsumTo c.W (fun _ => true) i = s := ⟨_, rfl⟩
      rw [hs] at hbi hst ⊢
      have hs' := Lib.hid hs
      clear hs
      obtain ⟨hb1, hb2⟩ := hbi
      have hb3 : s ≤ 13194139533312 := by omega
      by_cases hlt : i < c.W.length
      · obtain ⟨b, o, rfl, hbo, d⟩ := (hr.below hB1).atI hlt
        obtain ⟨hx0, hx1⟩ := hWx'.out _ (List.getElem_mem hlt)
        rw [List.getElem?_eq_getElem hlt, Option.getD_some] at hst
        obtain ⟨x, hx⟩ : ∃ x, c.W[i] = x := ⟨_, rfl⟩
        rw [hx] at d hst hx0 hx1
        have hst' := Lib.hid hst
        clear hx hst
        go_wp2_with fail
        go_round
        case rel => exact ⟨i + 1, hlt, by go_num, by rw [hst'.out]⟩
        case measure => simp [intOf]; omega
      · obtain rfl : i = c.W.length := by omega
        clear hst
        go_wp2_with fail
        go_ret
        exact ⟨ret_int (by rw [hres.out, hs'.out]), hB1⟩
  · rw [decide_eq_false hmc] at hmay
    have hres := Lib.hid (show totalC c = 0 by simp [totalC, hmc])
    clear hmc
    go_enter Try.func60, Try.ntmps60
    go_wp2_with (go_at_call 29; refine (hmay _ hB).mono ?_; rintro e w1 ⟨rfl, hb1⟩)
    have hB1 := below_call hB hB.size hb1
    have hbb := bl_own hb1 hb
    have e0 := blk_cell hbb 0
    clear hmay hb1 c0 c1 c2 c3 c4
    refine wp_loop_rounds 1 ?_
    rw [rounds_succ]
    go_wp2_with fail
    all_goals (go_ret; exact ⟨ret_int hres.out.symm, hB1⟩)
end Go.Proofs.Ytdocgemfedohdaa
/-! The reference's words on links, walked: marigoldref11.Fine, strong, Strong. -/
namespace Go.Proofs.Ytdocgemfedohdaa
open Go.RowKit
theorem fineL_snoc (c : Cfg) (l : List Blk) (v : List Lnk) (x : Lnk) : fineL c l (v ++ [x]) = fineL c l v ++ (if MayL c l x then [x] else []) := by
  unfold fineL
  rw [List.filter_append]
  congr 1
  by_cases h : MayL c l x <;> simp [h]
theorem whoR_snoc (v : List Lnk) (x : Lnk) (s t : Chk) : whoR (v ++ [x]) s t = whoR v s t ++ (if x.src = s ∧ x.tgt = t then [x.frm] else []) := by
  unfold whoR
  rw [List.filter_append, List.map_append]
  congr 1
  by_cases h1 : x.src = s <;> by_cases h2 : x.tgt = t <;> simp [h1, h2]
theorem whoR_len (v : List Lnk) (s t : Chk) : (whoR v s t).length ≤ v.length := by
  unfold whoR
  rw [List.length_map]
  exact List.length_filter_le _ _
set_option maxRecDepth 100000 in
set_option maxHeartbeats 4000000 in
theorem rfine_any (c : Cfg) (l : List Blk) (v : List Lnk) (A A2 A3 : Option Addr) (k k2 k3 : Nat) (w : World) (hr : Rd 1 encI w A c.W) (hr2 : Rd 5 encBlk w A2 l) (hok : ∀ b ∈ l, b.Ok) (hl : l.length ≤ 100000) (hr3 : Rd 7 encLnk w A3 v) (hv : v.length ≤ 90000) :
    Calls Try.prog 33 #[cfgv A k c, .slice A2 l.length k2, .slice A3 v.length k3] w fun e w' => ∃ u, e = .returned u ∧ Own w' w.heap.size 33 7 encLnk u (fineL c l v) ∧ Below w.heap.size w w' := by
  have hm := hr.1
  have hm2 := hr2.1
  have hm3 := hr3.1
  have hun := Try.underlying27
  have hmay := fun x V (hV : Below w.heap.size w V) => rfmay_any c l x A A2 k k2 V (hr.below hV) (hr2.below hV) hok hl
  unfold cfgv at *
  obtain ⟨W, hW⟩ : ∃ W, w.alloc (.cells #[.slice A c.W.length k, .int .u64 c.seed, .int .i64 c.epoch, .int .i64 c.num, .int .i64 c.den] 25) = W := ⟨_, rfl⟩
  have hB : Below w.heap.size w W := by subst hW; exact (Below.refl _ w).alloc (Nat.le_refl _) _
  have b0 : W.heap[w.heap.size]? = some (.cells #[.slice A c.W.length k, .int .u64 c.seed, .int .i64 c.epoch, .int .i64 c.num, .int .i64 c.den] 25 (0, 0)) := by subst hW; exact ha_at rfl
  go_enter Try.func33, Try.ntmps33
  go_wp2_with fail
  go_loopw [7, 8, 9] (fun u i _ wr => ∃ j : Nat, j ≤ v.length ∧ i = .int .i64 j ∧ Own wr (w.heap.size + 1) 33 7 encLnk u (fineL c l (v.take j)) ∧ Below w.heap.size w wr ∧
    wr.heap[w.heap.size]? = some (.cells #[.slice A c.W.length k, .int .u64 c.seed, .int .i64 c.epoch, .int .i64 c.num, .int .i64 c.den] 25 (0, 0))) (fun _ i _ _ => v.length - (intOf i).toNat)
  case atStart => exact ⟨0, Nat.zero_le _, rfl, Own.nil _ _ _ _ _, hB, b0⟩
  case round =>
    clear b0 hB hW
    obtain ⟨j, hj, rfl, hown, hBr, hC⟩ := hrel
    by_cases hlt : j < v.length
    · obtain ⟨b, o, rfl, hbo, d0, d1, d2, d3, d4, d5, d6⟩ := (hr3.below hBr).atL hlt
      have htk := List.take_succ_eq_append_getElem hlt
      have hsn := fineL_snoc c l (v.take j) v[j]
      rw [← htk] at hsn
      have hfl := fineL_len c l (v.take j)
      have hfl2 : (v.take j).length ≤ j := List.length_take_le _ _
      obtain ⟨x, hx⟩ : ∃ x, v[j] = x := ⟨_, rfl⟩
      have hL7 := Lib.hid (fun V (hV : Below w.heap.size w V) => (hr3.below hV).atL hlt)
      rw [hx] at d0 d1 d2 d3 d4 d5 d6 hsn hL7
      have hsn' := Lib.hid hsn
      clear hx htk hsn
      obtain ⟨c0, c1, c2, c3, c4⟩ := blk5 hC
      have hmx := fun p => hmay x (gr wr p) (below_call hBr hBr.size (gr_below wr p))
      unfold lnkv at hmx
      have y0 := gr_cell c0
      have y1 := gr_cell c1
      have y2 := gr_cell c2
      have y3 := gr_cell c3
      have y4 := gr_cell c4
      have z0 := gr_cell d0
      have z1 := gr_cell d1
      have z2 := gr_cell d2
      have z3 := gr_cell d3
      have z4 := gr_cell d4
      have z5 := gr_cell d5
      have z6 := gr_cell d6
      by_cases hml : MayL c l x
      all_goals
        first
          | rw [decide_eq_true hml] at hmx
          | rw [decide_eq_false hml] at hmx
        go_wp2_with fail
        refine wp_region_gr (by kernel_rfl) (by kernel_rfl) ?_
        repeat (go_big_quiet_step ((go_at_call 13; with_reducible exact Calls.gr_of (hmx _))))
        refine wpQuiet_nil ?_
        rintro _ ⟨pq, rfl⟩
        have hg := gr_below wr pq
        generalize gr wr pq = w4 at hg ⊢
        clear y0 y1 y2 y3 y4 z0 z1 z2 z3 z4 z5 z6 c0 c1 c2 c3 c4 d0 d1 d2 d3 d4 d5 d6 hmx
        have hBq := below_call hBr hBr.size hg
      · rw [if_pos hml] at hsn'
        obtain ⟨b2, o2, he, _, f0, f1, f2, f3, f4, f5, f6⟩ := hL7.out w4 hBq
        cases he
        have hZ : Below w4.heap.size w4 (w4.alloc (.cells #[.int .i64 x.frm, .int .i64 x.src.epoch, .int .u64 x.src.root.hi, .int .u64 x.src.root.lo, .int .i64 x.tgt.epoch, .int .u64 x.tgt.root.hi, .int .u64 x.tgt.root.lo] 33)) := (Below.refl _ w4).alloc (Nat.le_refl _) _
        have hoZ := (hown.below hg).below hZ
        have hBZ := below_call hBq hBq.size hZ
        have hszz := hBZ.size
        have hsz1 := lt_of_block hC
        have hsz2 := hg.size
        have hsz3 := hZ.size
        have z0 := ha_at (w := w4) (o := .cells #[.int .i64 x.frm, .int .i64 x.src.epoch, .int .u64 x.src.root.hi, .int .u64 x.src.root.lo, .int .i64 x.tgt.epoch, .int .u64 x.tgt.root.hi, .int .u64 x.tgt.root.lo] 33) (k := w4.heap.size) rfl
        clear hml
        go_wp2_with (at_builtin; refine wp_append1 rfl rfl hun infoL rfl (by decide) encLnk_len encLnk_one rfl hoZ (g := w4.heap.size) (c := 1) rfl (y := x) z0 rfl (by omega) (by unfold maxLen; omega) (by omega) ?_; intro v6 w6 ho6 hg6 _)
        go_roundw
        case rel => exact ⟨j + 1, hlt, by go_num, by rw [hsn'.out]; exact ho6, below_step hBZ hBZ.size hg6 (fun q e => by have := (hoZ.base q e).1; omega), grown_own hg6 (bl_own hZ (bl_own hg hC)) (fun e => by have := (hoZ.base _ e.symm).1; omega)⟩
        case measure => simp [intOf]; omega
      · rw [if_neg hml, List.append_nil] at hsn'
        clear hml
        go_wp2_with fail
        go_roundw
        case rel => exact ⟨j + 1, hlt, by go_num, by rw [hsn'.out]; exact hown.below hg, hBq, bl_own hg hC⟩
        case measure => simp [intOf]; omega
    · obtain rfl : j = v.length := by omega
      rw [List.take_length] at hown
      have hown' := Lib.hid hown
      clear hown
      go_wp2_with fail
      go_ret
      exact ⟨_, rfl, hown'.out.mono (by omega), hBr⟩
end Go.Proofs.Ytdocgemfedohdaa
/-! The reference's words on links, walked: marigoldref11.strong, Strong. -/
namespace Go.Proofs.Ytdocgemfedohdaa
open Go.RowKit
theorem strR_split (c : Cfg) (v : List Lnk) (s t : Chk) : strR c v s t = (decide (0 < (whoR v s t).length) && decide (2 * totalC c ≤ 3 * weightC c (whoR v s t))) := rfl
set_option maxRecDepth 100000 in
set_option maxHeartbeats 4000000 in
theorem rstr_any (c : Cfg) (v : List Lnk) (s t : Chk) (A A3 : Option Addr) (k k3 : Nat) (w : World) (hr : Rd 1 encI w A c.W) (hr3 : Rd 7 encLnk w A3 v) (hv : v.length ≤ 90000) :
    Calls Try.prog 32 #[cfgv A k c, .slice A3 v.length k3, chkv s, chkv t] w fun e w' => e = .returned (.bool (strR c v s t)) ∧ Below w.heap.size w w' := by
  have hm := hr.1
  have hm3 := hr3.1
  have hun := Try.underlying22
  have hwt := fun V (hV : Below w.heap.size w V) who A4 k4 h4 => rweight_any c who A A4 k k4 V (hr.below hV) h4
  have htt := fun V (hV : Below w.heap.size w V) => rtotal_any c A k V (hr.below hV)
  unfold cfgv chkv at *
  obtain ⟨W, hW⟩ : ∃ W, ((w.alloc (.cells #[.slice A c.W.length k, .int .u64 c.seed, .int .i64 c.epoch, .int .i64 c.num, .int .i64 c.den] 25)).alloc (.cells #[.int .i64 s.epoch, .int .u64 s.root.hi, .int .u64 s.root.lo] 31)).alloc (.cells #[.int .i64 t.epoch, .int .u64 t.root.hi, .int .u64 t.root.lo] 31) = W := ⟨_, rfl⟩
  have hB : Below w.heap.size w W := by subst hW; exact (((Below.refl _ w).alloc (Nat.le_refl _) _).alloc (by simp) _).alloc (by simp; omega) _
  have b0 : W.heap[w.heap.size]? = some (.cells #[.slice A c.W.length k, .int .u64 c.seed, .int .i64 c.epoch, .int .i64 c.num, .int .i64 c.den] 25 (0, 0)) := by subst hW; exact ha_lt (ha_lt (ha_at rfl))
  have b1 : W.heap[w.heap.size + 1]? = some (.cells #[.int .i64 s.epoch, .int .u64 s.root.hi, .int .u64 s.root.lo] 31 (0, 0)) := by subst hW; exact ha_lt (ha_at (by simp))
  have b2 : W.heap[w.heap.size + 1 + 1]? = some (.cells #[.int .i64 t.epoch, .int .u64 t.root.hi, .int .u64 t.root.lo] 31 (0, 0)) := by subst hW; exact ha_at (by simp)
  go_enter Try.func32, Try.ntmps32
  go_wp2_with fail
  go_loopw [9, 10] (fun u i wr => ∃ j : Nat, j ≤ v.length ∧ i = .int .i64 j ∧ Own wr W.heap.size 3 1 encI u (whoR (v.take j) s t) ∧ Below W.heap.size W wr) (fun _ i _ => v.length - (intOf i).toNat)
  case atStart => exact ⟨0, Nat.zero_le _, rfl, Own.nil _ _ _ _ _, Below.refl _ _⟩
  case round =>
    clear hW
    obtain ⟨j, hj, rfl, hown, hBW⟩ := hrel
    have hBr := below_call hB hB.size hBW
    have hC := bl_own hBW b0
    have hC1 := bl_own hBW b1
    have hC2 := bl_own hBW b2
    obtain ⟨c0, c1, c2, c3, c4⟩ := blk5 hC
    obtain ⟨e0, e1, e2⟩ := blk3 hC1
    obtain ⟨g0, g1, g2⟩ := blk3 hC2
    by_cases hlt : j < v.length
    · obtain ⟨b, o, rfl, hbo, d0, d1, d2, d3, d4, d5, d6⟩ := (hr3.below hBr).atL hlt
      have htk := List.take_succ_eq_append_getElem hlt
      have hsn := whoR_snoc (v.take j) v[j] s t
      rw [← htk] at hsn
      have hfl := whoR_len (v.take j) s t
      have hfl2 : (v.take j).length ≤ j := List.length_take_le _ _
      have hL7 := Lib.hid (fun V (hV : Below w.heap.size w V) => (hr3.below hV).atL hlt)
      obtain ⟨x, hx⟩ : ∃ x, v[j] = x := ⟨_, rfl⟩
      rw [hx] at d0 d1 d2 d3 d4 d5 d6 hsn hL7
      have hsn' := Lib.hid hsn
      clear hx htk hsn
      have y1 := gr_cell e0
      have y2 := gr_cell e1
      have y3 := gr_cell e2
      have y4 := gr_cell g0
      have y5 := gr_cell g1
      have y6 := gr_cell g2
      have z1 := gr_cell d1
      have z2 := gr_cell d2
      have z3 := gr_cell d3
      have z4 := gr_cell d4
      have z5 := gr_cell d5
      have z6 := gr_cell d6
      have heq1 := eql_chk x.src s
      have heq2 := eql_chk x.tgt t
      clear c0 c1 c2 c3 c4
      by_cases h1 : x.src = s
      · by_cases h2 : x.tgt = t
        · rw [if_pos ⟨h1, h2⟩] at hsn'
          rw [decide_eq_true h1] at heq1
          rw [decide_eq_true h2] at heq2
          clear h1 h2
          go_wp2_with fail
          refine wp_region_gr (by kernel_rfl) (by kernel_rfl) ?_
          repeat (go_big_quiet_step (fail))
          refine wpQuiet_nil ?_
          rintro _ ⟨pq, rfl⟩
          have hg := gr_below wr pq
          generalize gr wr pq = w4 at hg ⊢
          clear y1 y2 y3 y4 y5 y6 z1 z2 z3 z4 z5 z6 d0 d1 d2 d3 d4 d5 d6 heq1 heq2 e0 e1 e2 g0 g1 g2
          have hBq := below_call hBr hBr.size hg
          have hBQ := below_call hBW hBW.size hg
          obtain ⟨b2, o2, he, _, f0, f1, f2, f3, f4, f5, f6⟩ := hL7.out w4 hBq
          cases he
          have hZ : Below w4.heap.size w4 (w4.alloc (.cells #[.int .i64 x.frm] 3)) := (Below.refl _ w4).alloc (Nat.le_refl _) _
          have hoZ := (hown.below hg).below hZ
          have hBZ := below_call hBQ hBQ.size hZ
          have hszz := hBZ.size
          have z0 := ha_at (w := w4) (o := .cells #[.int .i64 x.frm] 3) (k := w4.heap.size) rfl
          go_wp2_with (at_builtin; refine wp_append1 rfl rfl hun infoI rfl (by decide) encI_len encI_one rfl hoZ (g := w4.heap.size) (c := 1) rfl (y := x.frm) z0 rfl (by omega) (by unfold maxLen; omega) (by omega) ?_; intro v6 w6 ho6 hg6 _)
          go_roundw
          case rel => exact ⟨j + 1, hlt, by go_num, by rw [hsn'.out]; exact ho6, below_step hBZ hBZ.size hg6 (fun q e => (hoZ.base q e).1)⟩
          case measure => simp [intOf]; omega
        · rw [if_neg (fun h => h2 h.2), List.append_nil] at hsn'
          rw [decide_eq_true h1] at heq1
          rw [decide_eq_false h2] at heq2
          clear h1 h2
          go_wp2_with fail
          refine wp_region_gr (by kernel_rfl) (by kernel_rfl) ?_
          repeat (go_big_quiet_step (fail))
          refine wpQuiet_nil ?_
          rintro _ ⟨pq, rfl⟩
          have hg := gr_below wr pq
          generalize gr wr pq = w4 at hg ⊢
          clear y1 y2 y3 y4 y5 y6 z1 z2 z3 z4 z5 z6 d0 d1 d2 d3 d4 d5 d6 heq1 heq2 e0 e1 e2 g0 g1 g2
          go_wp2_with fail
          go_roundw
          case rel => exact ⟨j + 1, hlt, by go_num, by rw [hsn'.out]; exact hown.below hg, below_call hBW hBW.size hg⟩
          case measure => simp [intOf]; omega
      · rw [if_neg (fun h => h1 h.1), List.append_nil] at hsn'
        rw [decide_eq_false h1] at heq1
        clear h1 heq2
        go_wp2_with fail
        refine wp_region_gr (by kernel_rfl) (by kernel_rfl) ?_
        repeat (go_big_quiet_step (fail))
        refine wpQuiet_nil ?_
        rintro _ ⟨pq, rfl⟩
        have hg := gr_below wr pq
        generalize gr wr pq = w4 at hg ⊢
        clear y1 y2 y3 y4 y5 y6 z1 z2 z3 z4 z5 z6 d0 d1 d2 d3 d4 d5 d6 heq1 e0 e1 e2 g0 g1 g2
        go_wp2_with fail
        go_roundw
        case rel => exact ⟨j + 1, hlt, by go_num, by rw [hsn'.out]; exact hown.below hg, below_call hBW hBW.size hg⟩
        case measure => simp [intOf]; omega
    · obtain rfl : j = v.length := by omega
      rw [List.take_length] at hown
      have hsp := strR_split c v s t
      obtain ⟨ws, hws⟩ : ∃ ws, whoR v s t = ws := ⟨_, rfl⟩
      rw [hws] at hown hsp
      obtain ⟨A9, k9, rfl, hR9⟩ := hown.rd encI_len
      have hbd := weightC_bd c ws
      have hbd2 := totalC_bd c
      have hwt := fun p => hwt (gr wr p) (below_call hBr hBr.size (gr_below wr p)) ws A9 k9 (hR9.below (gr_below wr p))
      have htt := fun p => htt (gr wr p) (below_call hBr hBr.size (gr_below wr p))
      have y0 := gr_cell c0
      have y1 := gr_cell c1
      have y2 := gr_cell c2
      have y3 := gr_cell c3
      have y4 := gr_cell c4
      by_cases hz : 0 < ws.length
      · have hz1 : decide ((ws.length : Int) > 0) = true := by simpa using hz
        have hz2 : decide (ws.length > 0) = true := by simpa using hz
        obtain ⟨q, hq⟩ : ∃ q, weightC c ws = q := ⟨_, rfl⟩
        obtain ⟨r, hrr⟩ : ∃ r, totalC c = r := ⟨_, rfl⟩
        rw [hq] at hwt hbd hsp
        rw [hrr] at htt hbd2 hsp
        rw [decide_eq_true hz, Bool.true_and] at hsp
        have hsp := Lib.hid hsp
        have hw3 : IntKind.i64.wrap (3 * q) = 3 * q := Go.IntWalk.i64_in _ (by omega)
        have hw2 : IntKind.i64.wrap (2 * r) = 2 * r := Go.IntWalk.i64_in _ (by omega)
        clear hz hq hrr hws hbd hbd2 c0 c1 c2 c3 c4 e0 e1 e2 g0 g1 g2
        go_wp2_with fail
        refine wp_region_gr (by kernel_rfl) (by kernel_rfl) ?_
        repeat (go_big_quiet_step ((first | (go_at_call 59; with_reducible exact Calls.gr_of (hwt _)) | (go_at_call 60; with_reducible exact Calls.gr_of (htt _)))))
        refine wpQuiet_nil ?_
        rintro _ ⟨pq, rfl⟩
        have hg := gr_below wr pq
        generalize gr wr pq = w4 at hg ⊢
        clear hw3 hw2
        go_wp2_with fail
        go_ret
        exact ⟨ret_bool (by rw [hsp.out]), below_call hBr hBr.size hg⟩
      · have hz1 : decide ((ws.length : Int) > 0) = false := by simpa using hz
        have hz2 : decide (ws.length > 0) = false := by simpa using hz
        rw [decide_eq_false hz, Bool.false_and] at hsp
        have hsp := Lib.hid hsp
        clear hz hws hbd hbd2 c0 c1 c2 c3 c4 e0 e1 e2 g0 g1 g2
        go_wp2_with fail
        refine wp_region_gr (by kernel_rfl) (by kernel_rfl) ?_
        repeat (go_big_quiet_step (fail))
        refine wpQuiet_nil ?_
        rintro _ ⟨pq, rfl⟩
        have hg := gr_below wr pq
        generalize gr wr pq = w4 at hg ⊢
        go_wp2_with fail
        go_ret
        exact ⟨ret_bool (by rw [hsp.out]), below_call hBr hBr.size hg⟩
end Go.Proofs.Ytdocgemfedohdaa
/-! The reference's words on checkpoints, walked: marigoldref11.Strong, less, has, Has, put. -/
namespace Go.Proofs.Ytdocgemfedohdaa
open Go.RowKit
theorem strR_dec (c : Cfg) (l : List Blk) (v : List Lnk) (x y : Chk) : strR c (fineL c l v) x y = decide (StrongW c l v ⟨x, y⟩) := by
  rw [Bool.eq_iff_iff, strR_iff, decide_eq_true_eq]
set_option maxRecDepth 100000 in
set_option maxHeartbeats 2000000 in
theorem rstrong_any (c : Cfg) (l : List Blk) (v : List Lnk) (x y : Chk) (A A2 A3 : Option Addr) (k k2 k3 : Nat) (w : World) (hr : Rd 1 encI w A c.W) (hr2 : Rd 5 encBlk w A2 l) (hok : ∀ b ∈ l, b.Ok) (hl : l.length ≤ 100000) (hr3 : Rd 7 encLnk w A3 v) (hv : v.length ≤ 90000) :
    Calls Try.prog 14 #[cfgv A k c, .slice A2 l.length k2, .slice A3 v.length k3, chkv x, chkv y] w fun e w' => e = .returned (.bool (decide (StrongW c l v ⟨x, y⟩))) ∧ Below w.heap.size w w' := by
  have hm2 := hr2.1
  have hm3 := hr3.1
  have hfi := fun V (hV : Below w.heap.size w V) => rfine_any c l v A A2 A3 k k2 k3 V (hr.below hV) (hr2.below hV) hok hl (hr3.below hV) hv
  have hfl := fineL_len c l v
  have hst := fun V (hV : Below w.heap.size w V) A4 k4 h4 => rstr_any c (fineL c l v) x y A A4 k k4 V (hr.below hV) h4 (by omega)
  rw [strR_dec] at hst
  obtain ⟨q, hq⟩ : ∃ q, decide (StrongW c l v ⟨x, y⟩) = q := ⟨_, rfl⟩
  rw [hq] at hst ⊢
  clear hq
  unfold cfgv chkv at *
  obtain ⟨W, hW⟩ : ∃ W, ((w.alloc (.cells #[.slice A c.W.length k, .int .u64 c.seed, .int .i64 c.epoch, .int .i64 c.num, .int .i64 c.den] 25)).alloc (.cells #[.int .i64 x.epoch, .int .u64 x.root.hi, .int .u64 x.root.lo] 31)).alloc (.cells #[.int .i64 y.epoch, .int .u64 y.root.hi, .int .u64 y.root.lo] 31) = W := ⟨_, rfl⟩
  have hB : Below w.heap.size w W := by subst hW; exact (((Below.refl _ w).alloc (Nat.le_refl _) _).alloc (by simp) _).alloc (by simp; omega) _
  have b0 : W.heap[w.heap.size]? = some (.cells #[.slice A c.W.length k, .int .u64 c.seed, .int .i64 c.epoch, .int .i64 c.num, .int .i64 c.den] 25 (0, 0)) := by subst hW; exact ha_lt (ha_lt (ha_at rfl))
  have b1 : W.heap[w.heap.size + 1]? = some (.cells #[.int .i64 x.epoch, .int .u64 x.root.hi, .int .u64 x.root.lo] 31 (0, 0)) := by subst hW; exact ha_lt (ha_at (by simp))
  have b2 : W.heap[w.heap.size + 1 + 1]? = some (.cells #[.int .i64 y.epoch, .int .u64 y.root.hi, .int .u64 y.root.lo] 31 (0, 0)) := by subst hW; exact ha_at (by simp)
  obtain ⟨c0, c1, c2, c3, c4⟩ := blk5 b0
  obtain ⟨d0, d1, d2⟩ := blk3 b1
  obtain ⟨f0, f1, f2⟩ := blk3 b2
  go_enter Try.func14, Try.ntmps14
  go_wp2_with fail
  go_region_held3 (fun W' => (W'.cell? ⟨w.heap.size, 0, none⟩ = some (.slice A c.W.length k) ∧ W'.cell? ⟨w.heap.size, 1, none⟩ = some (.int .u64 c.seed) ∧ W'.cell? ⟨w.heap.size, 2, none⟩ = some (.int .i64 c.epoch) ∧ W'.cell? ⟨w.heap.size, 3, none⟩ = some (.int .i64 c.num) ∧ W'.cell? ⟨w.heap.size, 4, none⟩ = some (.int .i64 c.den)) ∧ (W'.cell? ⟨w.heap.size + 1, 0, none⟩ = some (.int .i64 x.epoch) ∧ W'.cell? ⟨w.heap.size + 1, 1, none⟩ = some (.int .u64 x.root.hi) ∧ W'.cell? ⟨w.heap.size + 1, 2, none⟩ = some (.int .u64 x.root.lo)) ∧ (W'.cell? ⟨w.heap.size + 1 + 1, 0, none⟩ = some (.int .i64 y.epoch) ∧ W'.cell? ⟨w.heap.size + 1 + 1, 1, none⟩ = some (.int .u64 y.root.hi) ∧ W'.cell? ⟨w.heap.size + 1 + 1, 2, none⟩ = some (.int .u64 y.root.lo)))
    (first | exact ⟨blk5 b0, blk3 b1, blk3 b2⟩ | exact ⟨blk5 x0, blk3 x1, blk3 x2⟩ | exact ⟨blk5 (bl_own hb4 x0), blk3 (bl_own hb4 x1), blk3 (bl_own hb4 x2)⟩)
    ((first
      | (go_at_call 33; (with_reducible refine (hfi _ hB.drew).mono ?_); clear hfi; rintro e w3 ⟨u, rfl, ho3, hb3⟩; have hB3 := below_call hB.drew hB.size hb3; obtain ⟨A4, k4, rfl, hR4⟩ := ho3.rd encLnk_len; have x0 := bl_own hb3 b0; have x1 := bl_own hb3 b1; have x2 := bl_own hb3 b2)
      | (go_at_call 32; (with_reducible refine (hst _ hB3 _ _ hR4).mono ?_); clear hst; rintro e w4 ⟨rfl, hb4⟩; have hB4 := below_call hB3 hB3.size hb4)))
  go_wp2
  go_ret
  exact ⟨rfl, hB4⟩
set_option maxRecDepth 100000 in
set_option maxHeartbeats 1000000 in
theorem rcless_any (x y : Chk) (w : World) : Calls Try.prog 68 #[chkv x, chkv y] w fun e w' => e = .returned (.bool (ltC x y)) ∧ Below w.heap.size w w' := by
  have hless := fun V => rless_any x.root y.root V
  have hlt : ltC x y = (decide (x.epoch < y.epoch) || decide (x.epoch = y.epoch) && idLess x.root y.root) := rfl
  obtain ⟨q, hq⟩ : ∃ q, idLess x.root y.root = q := ⟨_, rfl⟩
  rw [hq] at hless hlt
  have hlt' := Lib.hid hlt
  clear hq hlt
  unfold chkv idv at *
  obtain ⟨W, hW⟩ : ∃ W, (w.alloc (.cells #[.int .i64 x.epoch, .int .u64 x.root.hi, .int .u64 x.root.lo] 31)).alloc (.cells #[.int .i64 y.epoch, .int .u64 y.root.hi, .int .u64 y.root.lo] 31) = W := ⟨_, rfl⟩
  have hB : Below w.heap.size w W := by subst hW; exact ((Below.refl _ w).alloc (Nat.le_refl _) _).alloc (by simp) _
  have b1 : W.heap[w.heap.size]? = some (.cells #[.int .i64 x.epoch, .int .u64 x.root.hi, .int .u64 x.root.lo] 31 (0, 0)) := by subst hW; exact ha_lt (ha_at rfl)
  have b2 : W.heap[w.heap.size + 1]? = some (.cells #[.int .i64 y.epoch, .int .u64 y.root.hi, .int .u64 y.root.lo] 31 (0, 0)) := by subst hW; exact ha_at (by simp)
  obtain ⟨d0, d1, d2⟩ := blk3 b1
  obtain ⟨f0, f1, f2⟩ := blk3 b2
  go_enter Try.func68, Try.ntmps68
  go_wp2_with (go_at_call 91; (with_reducible refine (hless _).mono ?_); clear hless; rintro e w3 ⟨rfl, hb3⟩; have hB3 := below_call hB hB.size hb3; obtain ⟨x0, x1, x2⟩ := blk3 (bl_own hb3 b1); obtain ⟨y0, y1, y2⟩ := blk3 (bl_own hb3 b2))
  all_goals go_ret
  all_goals
    refine ⟨ret_bool ?_, hB3⟩
    rw [hlt'.out]
    simp [*]
    try omega
end Go.Proofs.Ytdocgemfedohdaa
/-! marigoldref11.has, Has and put, walked. -/
namespace Go.Proofs.Ytdocgemfedohdaa
open Go.RowKit
theorem hasC_take (g : List Chk) (x : Chk) {j : Nat} (hj : j < g.length) : hasC (g.take (j + 1)) x = (hasC (g.take j) x || decide (g[j] = x)) := by
  unfold hasC
  rw [List.take_succ_eq_append_getElem hj, List.any_append]
  simp
set_option maxRecDepth 100000 in
set_option maxHeartbeats 2000000 in
theorem rhasc_any (g : List Chk) (x : Chk) (A : Option Addr) (k : Nat) (w : World) (hr : Rd 3 encChk w A g) :
    Calls Try.prog 39 #[.slice A g.length k, chkv x] w fun e w' => e = .returned (.bool (hasC g x)) ∧ Below w.heap.size w w' := by
  have hm := hr.1
  unfold chkv
  obtain ⟨W, hW⟩ : ∃ W, w.alloc (.cells #[.int .i64 x.epoch, .int .u64 x.root.hi, .int .u64 x.root.lo] 31) = W := ⟨_, rfl⟩
  have hB : Below w.heap.size w W := by subst hW; exact (Below.refl _ w).alloc (Nat.le_refl _) _
  have b0 : W.heap[w.heap.size]? = some (.cells #[.int .i64 x.epoch, .int .u64 x.root.hi, .int .u64 x.root.lo] 31 (0, 0)) := by subst hW; exact ha_at rfl
  go_enter Try.func39, Try.ntmps39
  go_wp2_with fail
  go_loopw [5] (fun i wr => ∃ j : Nat, j ≤ g.length ∧ i = .int .i64 j ∧ Hid (hasC (g.take j) x = false) ∧ Below W.heap.size W wr) (fun i _ => g.length - (intOf i).toNat)
  case atStart => exact ⟨0, Nat.zero_le _, rfl, Lib.hid (by simp [hasC]), Below.refl _ _⟩
  case round =>
    clear hW
    obtain ⟨j, hj, rfl, hno, hBW⟩ := hrel
    have hBr := below_call hB hB.size hBW
    obtain ⟨e0, e1, e2⟩ := blk3 (bl_own hBW b0)
    by_cases hlt : j < g.length
    · obtain ⟨b, o, rfl, hbo, d0, d1, d2⟩ := (hr.below hBr).atChk hlt
      have htk := hasC_take g x hlt
      have hmem := List.getElem_mem hlt
      obtain ⟨y, hy⟩ : ∃ y, g[j] = y := ⟨_, rfl⟩
      rw [hy] at d0 d1 d2 htk hmem
      rw [hno.out, Bool.false_or] at htk
      have hmem := Lib.hid hmem
      clear hy
      have y1 := gr_cell e0
      have y2 := gr_cell e1
      have y3 := gr_cell e2
      have z1 := gr_cell d0
      have z2 := gr_cell d1
      have z3 := gr_cell d2
      have heq1 := eql_chk y x
      by_cases h1 : y = x
      · have hres := Lib.hid (show hasC g x = true from hasC_iff.2 (h1 ▸ hmem.out))
        rw [decide_eq_true h1] at heq1
        clear h1 htk
        go_wp2_with fail
        refine wp_region_gr (by kernel_rfl) (by kernel_rfl) ?_
        repeat (go_big_quiet_step (fail))
        refine wpQuiet_nil ?_
        rintro _ ⟨pq, rfl⟩
        have hg := gr_below wr pq
        generalize gr wr pq = w4 at hg ⊢
        clear y1 y2 y3 z1 z2 z3 heq1
        go_wp2_with fail
        go_ret
        exact ⟨ret_bool hres.out.symm, below_call hBr hBr.size hg⟩
      · rw [decide_eq_false h1] at heq1 htk
        have htk := Lib.hid htk
        clear h1
        go_wp2_with fail
        refine wp_region_gr (by kernel_rfl) (by kernel_rfl) ?_
        repeat (go_big_quiet_step (fail))
        refine wpQuiet_nil ?_
        rintro _ ⟨pq, rfl⟩
        have hg := gr_below wr pq
        generalize gr wr pq = w4 at hg ⊢
        clear y1 y2 y3 z1 z2 z3 heq1
        go_wp2_with fail
        go_roundw
        case rel => exact ⟨j + 1, hlt, by go_num, htk, below_call hBW hBW.size hg⟩
        case measure => simp [intOf]; omega
    · obtain rfl : j = g.length := by omega
      rw [List.take_length] at hno
      go_wp2_with fail
      go_ret
      exact ⟨ret_bool hno.out.symm, hBr⟩
set_option maxRecDepth 100000 in
set_option maxHeartbeats 1000000 in
theorem rHasC_any (g : List Chk) (x : Chk) (A : Option Addr) (k : Nat) (w : World) (hr : Rd 3 encChk w A g) :
    Calls Try.prog 22 #[.slice A g.length k, chkv x] w fun e w' => e = .returned (.bool (hasC g x)) ∧ Below w.heap.size w w' := by
  have hh := fun V (hV : Below w.heap.size w V) => rhasc_any g x A k V (hr.below hV)
  unfold chkv at *
  obtain ⟨W, hW⟩ : ∃ W, w.alloc (.cells #[.int .i64 x.epoch, .int .u64 x.root.hi, .int .u64 x.root.lo] 31) = W := ⟨_, rfl⟩
  have hB : Below w.heap.size w W := by subst hW; exact (Below.refl _ w).alloc (Nat.le_refl _) _
  have b0 : W.heap[w.heap.size]? = some (.cells #[.int .i64 x.epoch, .int .u64 x.root.hi, .int .u64 x.root.lo] 31 (0, 0)) := by subst hW; exact ha_at rfl
  obtain ⟨e0, e1, e2⟩ := blk3 b0
  go_enter Try.func22, Try.ntmps22
  go_wp2_with (go_at_call 39; (with_reducible refine (hh _ hB).mono ?_); clear hh; rintro e w1 ⟨rfl, hb1⟩)
  go_ret
  exact ⟨rfl, below_call hB hB.size hb1⟩
theorem clayP (w : World) (x : Chk) : Below w.heap.size w (w.alloc (.cells #[.int .i64 x.epoch, .int .u64 x.root.hi, .int .u64 x.root.lo] 31)) ∧ (w.alloc (.cells #[.int .i64 x.epoch, .int .u64 x.root.hi, .int .u64 x.root.lo] 31)).heap[w.heap.size]? = some (.cells #[.int .i64 x.epoch, .int .u64 x.root.hi, .int .u64 x.root.lo] 31 (0, 0)) :=
  ⟨(Below.refl _ w).alloc (Nat.le_refl _) _, ha_at rfl⟩
theorem putAt_succ {x : Chk} {g : List Chk} {m : Nat} (hm : m < g.length) : putAt x g (m + 1) = if ltC x g[m] = true then putAt x g m else m + 1 := by
  show (match g[m]? with | some y => if ltC x y = true then putAt x g m else m + 1 | none => m + 1) = _
  rw [List.getElem?_eq_getElem hm]
set_option maxRecDepth 100000 in
set_option maxHeartbeats 4000000 in
theorem rputc_any (g : List Chk) (x : Chk) (A : Option Addr) (k : Nat) (w : World) (hr : Rd 3 encChk w A g) (hne : 0 < g.length) (hk : g.length ≤ k) (hkm : k ≤ maxLen) (hl : g.length ≤ 100000) :
    Calls Try.prog 40 #[.slice A g.length k, chkv x] w fun e w' => ∃ u, e = .returned u ∧ Own w' w.heap.size 31 3 encChk u (putC x g) ∧ Below w.heap.size w w' := by
  have hm := hr.1
  have hun := Try.underlying39
  have hless := fun y V => rcless_any x y V
  obtain ⟨b, o, rfl, hbo, _⟩ := hr.atChk hne
  have hkm' : k ≤ 9223372036854775807 := by unfold maxLen at hkm; omega
  unfold chkv at *
  obtain ⟨W, hW⟩ : ∃ W, w.alloc (.cells #[.int .i64 x.epoch, .int .u64 x.root.hi, .int .u64 x.root.lo] 31) = W := ⟨_, rfl⟩
  have hB : Below w.heap.size w W := by subst hW; exact (Below.refl _ w).alloc (Nat.le_refl _) _
  have b0 : W.heap[w.heap.size]? = some (.cells #[.int .i64 x.epoch, .int .u64 x.root.hi, .int .u64 x.root.lo] 31 (0, 0)) := by subst hW; exact ha_at rfl
  have hsz : w.heap.size + 1 = W.heap.size := by subst hW; simp
  go_enter Try.func40, Try.ntmps40
  go_wp2_with fail
  go_loopw [5, 6] (fun i _ wr => ∃ m : Nat, m ≤ g.length ∧ i = .int .i64 m ∧ Hid (putAt x g m = putAt x g g.length) ∧ Below W.heap.size W wr) (fun i _ _ => (intOf i).toNat)
  case atStart => exact ⟨g.length, Nat.le_refl _, rfl, Lib.hid rfl, Below.refl _ _⟩
  case round =>
    clear hW
    obtain ⟨m, hml, rfl, hput, hBW⟩ := hrel
    have hBr := below_call hB hB.size hBW
    have hC := bl_own hBW b0
    obtain ⟨e0, e1, e2⟩ := blk3 hC
    cases m with
    | zero =>
      have hfin := Lib.hid (show putC x g = g.take 0 ++ [x] ++ g.drop 0 by unfold putC; rw [← hput.out]; rfl)
      have hdl : (g.take (0)).length = 0 := by first | (simp; done) | (simp; omega)
      have hrl : (g.drop (0)).length = g.length - (0) := by simp
      have hRh := (hr.below hBr).take (0)
      have hRr := fun V (hV : Below w.heap.size w V) => (hr.below hV).drop (0)
      obtain ⟨hd, hhd⟩ : ∃ hd, g.take (0) = hd := ⟨_, rfl⟩
      obtain ⟨rest, hrest⟩ : ∃ rest, g.drop (0) = rest := ⟨_, rfl⟩
      rw [hhd] at hdl hRh
      rw [hrest] at hrl
      simp only [hrest] at hRr
      have hfin := Lib.hid (show putC x g = hd ++ [x] ++ rest by rw [← hhd, ← hrest]; exact hfin.out)
      have hdl' := Lib.hid hdl
      have hrl' := Lib.hid hrl
      have hll : hd.length ≤ 100000 := by omega
      have hrr : rest.length ≤ 100000 := by omega
      have i3 : (g.length : Int) ≤ (k : Int) := by omega
      have i4 : ¬ 0 = k := by omega
      have i5 : (0 : Int) ≤ (k : Int) := by omega
      clear hdl hrl hhd hrest hput e0 e1 e2
      go_wp2_with (first
        | (at_builtin; refine wp_append_all rfl rfl hun infoC rfl (by decide) encChk_len encChk_one rfl (Own.nil wr wr.heap.size _ _ _) (A := (some ⟨b, o, none⟩)) (c := k) (ys := hd) (by rw [hdl'.out]; rfl) (fun e => by cases e) hRh (by first | omega | (simp; done) | (simp; omega)) (by unfold maxLen; first | omega | (simp; done) | (simp; omega)) (Nat.le_refl _) ?_; intro v1 w1 ho1 hg1 hat1; rw [List.nil_append] at ho1; have hb1 := below_step (Below.refl wr.heap.size wr) (Nat.le_refl _) hg1 (fun _ e => by cases e); obtain ⟨q0, q1, q2⟩ := blk3 (bl_own hb1 hC); have hx1 := clayP w1 x; have ho2 := ho1.below hx1.1; have hb2 := below_call hb1 hb1.size hx1.1; have hy2 := hx1.2; clear hx1)
        | (at_builtin; refine wp_append1 rfl rfl hun infoC rfl (by decide) encChk_len encChk_one rfl ho2 (g := w1.heap.size) (c := 1) rfl (y := x) hy2 rfl (by first | omega | (simp; done) | (simp; omega)) (by unfold maxLen; first | omega | (simp; done) | (simp; omega)) hb2.size ?_; intro v3 w3 ho3 hg3 hat3; have hb3 := below_step hb2 hb2.size hg3 (fun k e => (ho2.base k e).1); have hB3 := below_call hBr hBr.size hb3)
        | (at_builtin; refine wp_append_all rfl rfl hun infoC rfl (by decide) encChk_len encChk_one rfl ho3 (A := (some ⟨b, o + (0) * 3, none⟩)) (c := (k - (0))) (ys := rest) (by rw [hrl'.out]; rfl) (fun e => by cases e) (hRr w3 hB3) (by first | omega | (simp; done) | (simp; omega)) (by unfold maxLen; first | omega | (simp; done) | (simp; omega)) hb3.size ?_; intro v5 w5 ho5 hg5 hat5; have hb5 := below_step hb3 hb3.size hg5 (fun k e => (ho3.base k e).1)))
      go_ret
      exact ⟨_, rfl, by rw [hfin.out]; exact ho5.mono hBr.size, below_call hBr hBr.size hb5⟩
    | succ m =>
      have hlt : m < g.length := by omega
      obtain ⟨b', o', he, _, d0, d1, d2⟩ := (hr.below hBr).atChk hlt
      cases he
      have hps := putAt_succ (x := x) hlt
      obtain ⟨y, hy⟩ : ∃ y, g[m] = y := ⟨_, rfl⟩
      rw [hy] at d0 d1 d2 hps
      have hls := fun p => hless y (gr wr p)
      unfold chkv at hls
      have hps := Lib.hid hps
      clear hy
      have y1 := gr_cell e0
      have y2 := gr_cell e1
      have y3 := gr_cell e2
      have z1 := gr_cell d0
      have z2 := gr_cell d1
      have z3 := gr_cell d2
      have i0 : (0 : Int) < (m : Int) + 1 := by omega
      have i1 : (m : Int) < (g.length : Int) := by omega
      have i2 : IntKind.i64.wrap ((m : Int) + 1 - 1) = (m : Int) := by rw [show (m : Int) + 1 - 1 = m by omega]; exact Go.IntWalk.i64_in _ (by omega)
      have i3 : IntKind.i64.wrap (m : Int) = (m : Int) := Go.IntWalk.i64_in _ (by omega)
      cases hlx : ltC x y
      · rw [hlx] at hls
        go_wp2_with fail
        refine wp_region_gr (by kernel_rfl) (by kernel_rfl) ?_
        repeat (go_big_quiet_step ((go_at_call 68; with_reducible exact Calls.gr_of (hls _))))
        refine wpQuiet_nil ?_
        rintro _ ⟨pq, rfl⟩
        have hg := gr_below wr pq
        generalize gr wr pq = w4 at hg ⊢
        clear y1 y2 y3 z1 z2 z3 hls
        have hfin := Lib.hid (show putC x g = g.take (m + 1) ++ [x] ++ g.drop (m + 1) by unfold putC; rw [← hput.out, hps.out, if_neg (by rw [hlx]; simp)])
        have hB4 := below_call hBr hBr.size hg
        have hC4 := bl_own hg hC
        have hdl : (g.take (m + 1)).length = m + 1 := by first | (simp; done) | (simp; omega)
        have hrl : (g.drop (m + 1)).length = g.length - (m + 1) := by simp
        have hRh := (hr.below hB4).take (m + 1)
        have hRr := fun V (hV : Below w.heap.size w V) => (hr.below hV).drop (m + 1)
        obtain ⟨hd, hhd⟩ : ∃ hd, g.take (m + 1) = hd := ⟨_, rfl⟩
        obtain ⟨rest, hrest⟩ : ∃ rest, g.drop (m + 1) = rest := ⟨_, rfl⟩
        rw [hhd] at hdl hRh
        rw [hrest] at hrl
        simp only [hrest] at hRr
        have hfin := Lib.hid (show putC x g = hd ++ [x] ++ rest by rw [← hhd, ← hrest]; exact hfin.out)
        have hdl' := Lib.hid hdl
        have hrl' := Lib.hid hrl
        have hll : hd.length ≤ 100000 := by omega
        have hrr : rest.length ≤ 100000 := by omega
        have hk1 : m + 1 ≤ k := by omega
        have j0 : (0 : Int) ≤ (m : Int) + 1 := by omega
        have j1 : (m : Int) + 1 ≤ (k : Int) := by omega
        have j2 : (m : Int) + 1 ≤ (g.length : Int) := by omega
        have j3 : (g.length : Int) ≤ (k : Int) := by omega
        clear hdl hhd hrest hput e0 e1 e2 d0 d1 d2 i0 i1 i2 i3 hps hlx
        by_cases hk : m + 1 = k
        · have hr0 : rest = [] := List.eq_nil_of_length_eq_zero (by omega)
          subst hk
          clear hrl
          go_wp2_with (first
            | (at_builtin; refine wp_append_all rfl rfl hun infoC rfl (by decide) encChk_len encChk_one rfl (Own.nil w4 w4.heap.size _ _ _) (A := (some ⟨b, o, none⟩)) (c := (m + 1)) (ys := hd) (by rw [hdl'.out]; rfl) (fun e => by cases e) hRh (by first | omega | (simp; done) | (simp; omega)) (by unfold maxLen; first | omega | (simp; done) | (simp; omega)) (Nat.le_refl _) ?_; intro v1 w1 ho1 hg1 hat1; rw [List.nil_append] at ho1; have hb1 := below_step (Below.refl w4.heap.size w4) (Nat.le_refl _) hg1 (fun _ e => by cases e); obtain ⟨q0, q1, q2⟩ := blk3 (bl_own hb1 hC4); have hx1 := clayP w1 x; have ho2 := ho1.below hx1.1; have hb2 := below_call hb1 hb1.size hx1.1; have hy2 := hx1.2; clear hx1)
            | (at_builtin; refine wp_append1 rfl rfl hun infoC rfl (by decide) encChk_len encChk_one rfl ho2 (g := w1.heap.size) (c := 1) rfl (y := x) hy2 rfl (by first | omega | (simp; done) | (simp; omega)) (by unfold maxLen; first | omega | (simp; done) | (simp; omega)) hb2.size ?_; intro v3 w3 ho3 hg3 hat3; have hb3 := below_step hb2 hb2.size hg3 (fun k e => (ho2.base k e).1); have hB3 := below_call hB4 hB4.size hb3)
            | (at_builtin; refine wp_append_all rfl rfl hun infoC rfl (by decide) encChk_len encChk_one rfl ho3 (A := (some ⟨b, o, none⟩)) (c := 0) (ys := rest) (by rw [hr0]; rfl) (fun e => by cases e) (by rw [hr0]; exact Rd_nil _ _ _ _) (by first | omega | (simp; done) | (simp; omega)) (by unfold maxLen; first | omega | (simp; done) | (simp; omega)) hb3.size ?_; intro v5 w5 ho5 hg5 hat5; have hb5 := below_step hb3 hb3.size hg5 (fun k e => (ho3.base k e).1)))
          go_ret
          exact ⟨_, rfl, by rw [hfin.out]; exact ho5.mono hB4.size, below_call hB4 hB4.size hb5⟩
        · clear hrl
          go_wp2_with (first
            | (at_builtin; refine wp_append_all rfl rfl hun infoC rfl (by decide) encChk_len encChk_one rfl (Own.nil w4 w4.heap.size _ _ _) (A := (some ⟨b, o, none⟩)) (c := k) (ys := hd) (by rw [hdl'.out]; rfl) (fun e => by cases e) hRh (by first | omega | (simp; done) | (simp; omega)) (by unfold maxLen; first | omega | (simp; done) | (simp; omega)) (Nat.le_refl _) ?_; intro v1 w1 ho1 hg1 hat1; rw [List.nil_append] at ho1; have hb1 := below_step (Below.refl w4.heap.size w4) (Nat.le_refl _) hg1 (fun _ e => by cases e); obtain ⟨q0, q1, q2⟩ := blk3 (bl_own hb1 hC4); have hx1 := clayP w1 x; have ho2 := ho1.below hx1.1; have hb2 := below_call hb1 hb1.size hx1.1; have hy2 := hx1.2; clear hx1)
            | (at_builtin; refine wp_append1 rfl rfl hun infoC rfl (by decide) encChk_len encChk_one rfl ho2 (g := w1.heap.size) (c := 1) rfl (y := x) hy2 rfl (by first | omega | (simp; done) | (simp; omega)) (by unfold maxLen; first | omega | (simp; done) | (simp; omega)) hb2.size ?_; intro v3 w3 ho3 hg3 hat3; have hb3 := below_step hb2 hb2.size hg3 (fun k e => (ho2.base k e).1); have hB3 := below_call hB4 hB4.size hb3)
            | (at_builtin; refine wp_append_all rfl rfl hun infoC rfl (by decide) encChk_len encChk_one rfl ho3 (A := (some ⟨b, o + (m + 1) * 3, none⟩)) (c := (k - (m + 1))) (ys := rest) (by rw [hrl'.out]; rfl) (fun e => by cases e) (hRr w3 hB3) (by first | omega | (simp; done) | (simp; omega)) (by unfold maxLen; first | omega | (simp; done) | (simp; omega)) hb3.size ?_; intro v5 w5 ho5 hg5 hat5; have hb5 := below_step hb3 hb3.size hg5 (fun k e => (ho3.base k e).1)))
          go_ret
          exact ⟨_, rfl, by rw [hfin.out]; exact ho5.mono hB4.size, below_call hB4 hB4.size hb5⟩
      · rw [hlx] at hls
        have hput2 := Lib.hid (show putAt x g m = putAt x g g.length by rw [← hput.out, hps.out, if_pos hlx])
        go_wp2_with fail
        refine wp_region_gr (by kernel_rfl) (by kernel_rfl) ?_
        repeat (go_big_quiet_step ((go_at_call 68; with_reducible exact Calls.gr_of (hls _))))
        refine wpQuiet_nil ?_
        rintro _ ⟨pq, rfl⟩
        have hg := gr_below wr pq
        generalize gr wr pq = w4 at hg ⊢
        clear y1 y2 y3 z1 z2 z3 hls
        go_wp2_with fail
        go_roundw
        case rel => exact ⟨m, by omega, by go_num, hput2, below_call hBW hBW.size hg⟩
        case measure => simp [intOf]; try omega
end Go.Proofs.Ytdocgemfedohdaa
