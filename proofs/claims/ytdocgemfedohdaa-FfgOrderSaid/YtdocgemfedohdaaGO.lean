/- GO: several texts in one. -/
import Derived.Test.YtdocgemfedohdaaGN
/-! marigoldref11.Just, walked. -/
namespace Go.Proofs.Ytdocgemfedohdaa
open Go.RowKit
/-- Behind the first i links of a round. -/
def jPart (c : Cfg) (f : List Lnk) (J : List Chk) (i : Nat) : List Chk := (f.take i).foldl (jStep c f) J
theorem jPart_all (c : Cfg) (f : List Lnk) (J : List Chk) : jPart c f J f.length = jRound c f J := by unfold jPart jRound; rw [List.take_length]
theorem jPart_succ (c : Cfg) (f : List Lnk) (J : List Chk) {i : Nat} (hi : i < f.length) : jPart c f J (i + 1) = jStep c f (jPart c f J i) f[i] := by
  unfold jPart
  rw [List.take_succ_eq_append_getElem hi, List.foldl_append]
  rfl
theorem jPart_inv {c : Cfg} {l : List Blk} {v : List Lnk} {J : List Chk} (h : JInv c l v J) (i : Nat) : JInv c l v (jPart c (fineL c l v) J i) := jFold_inv _ h
theorem jInv_len {c : Cfg} {l : List Blk} {v : List Lnk} {J : List Chk} (hi : JInv c l v J) : J.length ≤ v.length + 1 ∧ 0 < J.length := by
  have := nodup_len (sortedC_nodup hi.sorted) fun y hy => just_fine (hi.sound y hy)
  have h2 := fineL_len c l v
  refine ⟨?_, List.length_pos_of_mem hi.zero⟩
  simp at this
  omega
set_option maxRecDepth 100000 in
set_option maxHeartbeats 8000000 in
theorem rjust_any (c : Cfg) (l : List Blk) (v : List Lnk) (A A2 A3 : Option Addr) (k k2 k3 : Nat) (w : World) (hr : Rd 1 encI w A c.W) (hr2 : Rd 5 encBlk w A2 l) (hok : ∀ b ∈ l, b.Ok) (hl : l.length ≤ 100000) (hr3 : Rd 7 encLnk w A3 v) (hv : v.length ≤ 90000) :
    Calls Try.prog 17 #[cfgv A k c, .slice A2 l.length k2, .slice A3 v.length k3] w fun e w' => ∃ u, e = .returned u ∧ Own w' w.heap.size 31 3 encChk u (justL c l v) ∧ Below w.heap.size w w' := by
  have hm2 := hr2.1
  have hm3 := hr3.1
  have hmay := fun V (hV : Below w.heap.size w V) => rcmay_any c A k V (hr.below hV)
  have htm := fun V (hV : Below w.heap.size w V) => rtrmay_any l A2 k2 V (hr2.below hV) hok hl
  have hfi := fun V (hV : Below w.heap.size w V) => rfine_any c l v A A2 A3 k k2 k3 V (hr.below hV) (hr2.below hV) hok hl (hr3.below hV) hv
  obtain ⟨W, hW⟩ : ∃ W, w.alloc (.cells #[.slice A c.W.length k, .int .u64 c.seed, .int .i64 c.epoch, .int .i64 c.num, .int .i64 c.den] 25) = W := ⟨_, rfl⟩
  have hB : Below w.heap.size w W := by subst hW; exact (Below.refl _ w).alloc (Nat.le_refl _) _
  have b0 : W.heap[w.heap.size]? = some (.cells #[.slice A c.W.length k, .int .u64 c.seed, .int .i64 c.epoch, .int .i64 c.num, .int .i64 c.den] 25 (0, 0)) := by subst hW; exact ha_at rfl
  obtain ⟨c0, c1, c2, c3, c4⟩ := blk5 b0
  by_cases hmc : MayC c
  · rw [decide_eq_true hmc] at hmay
    by_cases ht : Tree l
    · have htb : mayB l = true := by simp [mayB, ht]
      rw [htb] at htm
      have hres := Lib.hid (refJust_eq ⟨hmc, ht⟩ v)
      have hfl := fineL_len c l v
      have hinv := Lib.hid (jRounds_inv c l v)
      have hst := fun V (hV : Below w.heap.size w V) s t A4 k4 h4 => rstr_any c (fineL c l v) s t A A4 k k4 V (hr.below hV) h4 (by omega)
      have hpi := Lib.hid (fun kk i => jPart_inv (jRounds_inv c l v kk) i)
      obtain ⟨f, hf⟩ : ∃ f, fineL c l v = f := ⟨_, rfl⟩
      simp only [hf] at hres hfl hst hpi hinv hfi
      have hlen : ∀ kk i, (jPart c f (jRounds c f kk) i).length ≤ v.length + 1 ∧ 0 < (jPart c f (jRounds c f kk) i).length := fun kk i => jInv_len (hpi.out kk i)
      have hlen := Lib.hid hlen
      clear hmc ht htb hf
      unfold cfgv at *
      go_enter Try.func17, Try.ntmps17
      go_wp2_with (first
        | (go_at_call 29; (with_reducible refine (hmay _ hB).mono ?_); clear hmay; rintro e w1 ⟨rfl, hb1⟩; have hB1 := below_call hB hB.size hb1; have b1 := bl_own hb1 b0)
        | (go_at_call 30; (with_reducible refine (htm _ hB1).mono ?_); clear htm; rintro e w2 ⟨rfl, hb2⟩; have hB2 := below_call hB1 hB1.size hb2; have b2 := bl_own hb2 b1; obtain ⟨d0, d1, d2, d3, d4⟩ := blk5 b2)
        | (go_at_call 33; (with_reducible refine (hfi _ hB2).mono ?_); clear hfi; rintro e w3 ⟨u, rfl, ho3, hb3⟩; have hB3 := below_call hB2 hB2.size hb3; obtain ⟨A4, k4, rfl, hR4⟩ := ho3.rd encLnk_len; have b3 := bl_own hb3 b2))
      obtain ⟨Z, hZ⟩ : ∃ Z, w3.alloc (.cells #[.int .i64 0, .int .u64 0, .int .u64 0] 31) = Z := ⟨_, rfl⟩
      have hBZ : Below w3.heap.size w3 Z := by subst hZ; exact (Below.refl _ w3).alloc (Nat.le_refl _) _
      have hoZ : Own Z w3.heap.size 31 3 encChk (.slice (some ⟨w3.heap.size, 0, none⟩) 1 1) [zchk] := by subst hZ; exact own_new1 (ha_at rfl) encChk_len rfl (Nat.le_refl _)
      have hCZ := bl_own hBZ b3
      rw [hZ]
      clear hZ hb1 hb2 hb3 hB hB1 hB2 b0 b1 b2 b3 c0 c1 c2 c3 c4 d0 d1 d2 d3 d4 hW
      go_loopw [9, 10, 11, 12, 13, 14] (fun u9 u10 _ _ _ _ wr => ∃ kk : Nat, kk ≤ f.length + 1 ∧ u10 = .int .i64 kk ∧ Own wr w3.heap.size 31 3 encChk u9 (jRounds c f kk) ∧ Below w3.heap.size w3 wr ∧
        wr.heap[w.heap.size]? = some (.cells #[.slice A c.W.length k, .int .u64 c.seed, .int .i64 c.epoch, .int .i64 c.num, .int .i64 c.den] 25 (0, 0))) (fun _ u10 _ _ _ _ _ => f.length + 1 - (intOf u10).toNat)
      case atStart => exact ⟨0, by omega, rfl, hoZ, hBZ, hCZ⟩
      case round =>
        clear hoZ hBZ hCZ
        obtain ⟨kk, hkk, rfl, hown, hBW, hC⟩ := hrel
        rename World => wo
        by_cases hlk : kk ≤ f.length
        · have hfin := Lib.hid (jPart_all c f (jRounds c f kk))
          have hsuc := Lib.hid (fun i (hi : i < f.length) => jPart_succ c f (jRounds c f kk) hi)
          have hlen := Lib.hid (hlen.out kk)
          obtain ⟨J0, hJ0⟩ : ∃ J0, jRounds c f kk = J0 := ⟨_, rfl⟩
          rw [hJ0] at hfin hown
          simp only [hJ0] at hlen hsuc
          have hJ0' := Lib.hid hJ0
          clear hJ0
          go_wp2_with fail
          go_loopw [9, 11, 12, 13, 14] (fun u9 u11 _ _ _ wr => ∃ i : Nat, i ≤ f.length ∧ u11 = .int .i64 i ∧ Own wr w3.heap.size 31 3 encChk u9 (jPart c f J0 i) ∧ Below w3.heap.size w3 wr ∧
            wr.heap[w.heap.size]? = some (.cells #[.slice A c.W.length k, .int .u64 c.seed, .int .i64 c.epoch, .int .i64 c.num, .int .i64 c.den] 25 (0, 0))) (fun _ u11 _ _ _ _ => f.length - (intOf u11).toNat)
          case atStart => exact ⟨0, Nat.zero_le _, rfl, hown, hBW, hC⟩
          case round =>
            clear hown hBW hC
            obtain ⟨i, hi, rfl, hown, hBW, hC⟩ := hrel
            by_cases hlt : i < f.length
            · have hL7 := Lib.hid (fun V (hV : Below w3.heap.size w3 V) => (hR4.below hV).atL hlt)
              have hs := hsuc.out i hlt
              have hll := hlen.out i
              obtain ⟨x, hx⟩ : ∃ x, f[i] = x := ⟨_, rfl⟩
              rw [hx] at hs
              simp only [hx] at hL7
              obtain ⟨J, hJ⟩ : ∃ J, jPart c f J0 i = J := ⟨_, rfl⟩
              rw [hJ] at hs hown hll
              unfold jStep at hs
              clear hx hJ
              obtain ⟨A9, k9, rfl, hk9, hk9m, hR9⟩ := hown.rdm encChk_len
              have hhas := fun y V (hV : Below wr.heap.size wr V) => rhasc_any J y A9 k9 V (hR9.below hV)
              have hBr := below_call hB3 hB3.size hBW
              obtain ⟨b, o, rfl, hbo, d0, d1, d2, d3, d4, d5, d6⟩ := hL7.out wr hBW
              obtain ⟨b1, hb1⟩ : ∃ b1, hasC J x.src = b1 := ⟨_, rfl⟩
              obtain ⟨b2, hb2⟩ : ∃ b2, hasC J x.tgt = b2 := ⟨_, rfl⟩
              rw [hb1, hb2] at hs
              have hh1 := Lib.hid hb1
              have hh2 := Lib.hid hb2
              have h1 := hhas x.src
              have h2 := hhas x.tgt
              rw [hb1] at h1
              rw [hb2] at h2
              unfold chkv at h1 h2
              clear hhas hb1 hb2
              cases b1
              · have hs' := Lib.hid (show jPart c f J0 (i + 1) = J by rw [hs]; rfl)
                clear hs
                go_wp2_with (first
                  | (go_at_call 39; (with_reducible refine (h1 wr (Below.refl _ wr)).mono ?_); clear h1; rintro e w4 ⟨rfl, hb4⟩; have hB4 := below_call hBW hBW.size hb4; obtain ⟨bg, og, heg, _, g0, g1, g2, g3, g4, g5, g6⟩ := hL7.out w4 hB4; cases heg)
                  | (go_at_call 39; (with_reducible refine (h2 w4 hb4).mono ?_); clear h2; rintro e w5 ⟨rfl, hb5⟩; have hB5 := below_call hB4 hB4.size hb5; obtain ⟨bi, oi, hei, _, i0, i1, i2, i3, i4, i5, i6⟩ := hL7.out w5 hB5; cases hei; have hC5 := bl_own hb5 (bl_own hb4 hC); have ho5 := (hown.below hb4).below hb5))
                go_roundw
                case rel => exact ⟨i + 1, hlt, by go_num, by rw [hs'.out]; exact ho5, hB5, hC5⟩
                case measure => simp [intOf]; omega
              · cases b2
                · obtain ⟨q, hq⟩ : ∃ q, strR c f x.src x.tgt = q := ⟨_, rfl⟩
                  rw [hq] at hs
                  have hst := fun V hV h4 => hst V hV x.src x.tgt (some ⟨b, o, none⟩) k4 h4
                  rw [hq] at hst
                  unfold chkv at hst
                  clear hq
                  go_wp2_with (first
                    | (go_at_call 39; (with_reducible refine (h1 wr (Below.refl _ wr)).mono ?_); clear h1; rintro e w4 ⟨rfl, hb4⟩; have hB4 := below_call hBW hBW.size hb4; obtain ⟨bg, og, heg, _, g0, g1, g2, g3, g4, g5, g6⟩ := hL7.out w4 hB4; cases heg)
                    | (go_at_call 39; (with_reducible refine (h2 w4 hb4).mono ?_); clear h2; rintro e w5 ⟨rfl, hb5⟩; have hB5 := below_call hB4 hB4.size hb5; obtain ⟨bi, oi, hei, _, i0, i1, i2, i3, i4, i5, i6⟩ := hL7.out w5 hB5; cases hei; have hC5 := bl_own hb5 (bl_own hb4 hC); have ho5 := (hown.below hb4).below hb5))
                  clear d0 d1 d2 d3 d4 d5 d6 g0 g1 g2 g3 g4 g5 g6
                  obtain ⟨c0, c1, c2, c3, c4⟩ := blk5 hC5
                  have hst := fun p => hst (gr w5 p) (below_call hB3 hB3.size (below_call hB5 hB5.size (gr_below w5 p))) (hR4.below (below_call hB5 hB5.size (gr_below w5 p)))
                  have y0 := gr_cell c0
                  have y1 := gr_cell c1
                  have y2 := gr_cell c2
                  have y3 := gr_cell c3
                  have y4 := gr_cell c4
                  have z1 := gr_cell i1
                  have z2 := gr_cell i2
                  have z3 := gr_cell i3
                  have z4 := gr_cell i4
                  have z5 := gr_cell i5
                  have z6 := gr_cell i6
                  refine wp_region_gr (by kernel_rfl) (by kernel_rfl) ?_
                  repeat (go_big_quiet_step ((go_at_call 32; with_reducible exact Calls.gr_of (hst _))))
                  refine wpQuiet_nil ?_
                  rintro _ ⟨pq, rfl⟩
                  have hg := gr_below w5 pq
                  generalize gr w5 pq = w6 at hg ⊢
                  clear y0 y1 y2 y3 y4 z1 z2 z3 z4 z5 z6 hst c0 c1 c2 c3 c4 i0 i1 i2 i3 i4 i5 i6
                  have hB6 := below_call hB5 hB5.size hg
                  have hC6 := bl_own hg hC5
                  have ho6 := ho5.below hg
                  cases q
                  · have hs' := Lib.hid (show jPart c f J0 (i + 1) = J by rw [hs]; rfl)
                    clear hs
                    go_wp2_with fail
                    go_roundw
                    case rel => exact ⟨i + 1, hlt, by go_num, by rw [hs'.out]; exact ho6, hB6, hC6⟩
                    case measure => simp [intOf]; omega
                  · have hs' := Lib.hid (show jPart c f J0 (i + 1) = putC x.tgt J by rw [hs]; rfl)
                    have hpt := rputc_any J x.tgt A9 k9 w6 (((hR9.below hb4).below hb5).below hg) hll.2 hk9 hk9m (by omega)
                    unfold chkv at hpt
                    obtain ⟨bj, oj, hej, _, j0, j1, j2, j3, j4, j5, j6⟩ := hL7.out w6 hB6; cases hej
                    clear hs
                    go_wp2_with (go_at_call 40; (with_reducible refine hpt.mono ?_); clear hpt; rintro e w7 ⟨u7, rfl, ho7, hb7⟩; have hB7 := below_call hB6 hB6.size hb7)
                    go_roundw
                    case rel => exact ⟨i + 1, hlt, by go_num, by rw [hs'.out]; exact ho7.mono hB6.size, hB7, bl_own hb7 hC6⟩
                    case measure => simp [intOf]; omega
                · have hs' := Lib.hid (show jPart c f J0 (i + 1) = J by rw [hs]; rfl)
                  clear hs
                  go_wp2_with (first
                    | (go_at_call 39; (with_reducible refine (h1 wr (Below.refl _ wr)).mono ?_); clear h1; rintro e w4 ⟨rfl, hb4⟩; have hB4 := below_call hBW hBW.size hb4; obtain ⟨bg, og, heg, _, g0, g1, g2, g3, g4, g5, g6⟩ := hL7.out w4 hB4; cases heg)
                    | (go_at_call 39; (with_reducible refine (h2 w4 hb4).mono ?_); clear h2; rintro e w5 ⟨rfl, hb5⟩; have hB5 := below_call hB4 hB4.size hb5; obtain ⟨bi, oi, hei, _, i0, i1, i2, i3, i4, i5, i6⟩ := hL7.out w5 hB5; cases hei; have hC5 := bl_own hb5 (bl_own hb4 hC); have ho5 := (hown.below hb4).below hb5))
                  go_roundw
                  case rel => exact ⟨i + 1, hlt, by go_num, by rw [hs'.out]; exact ho5, hB5, hC5⟩
                  case measure => simp [intOf]; omega
            · obtain rfl : i = f.length := by omega
              rw [hfin.out] at hown
              have hown' := Lib.hid hown
              clear hown
              go_wp2_with fail
              go_roundw
              case rel => exact ⟨kk + 1, by omega, by go_num, by rw [show jRounds c f (kk + 1) = jRound c f J0 by rw [← hJ0'.out]; rfl]; exact hown'.out, hBW, hC⟩
              case measure => simp [intOf]; omega
        · obtain rfl : kk = f.length + 1 := by omega
          rw [hres.out] at hown
          have hown' := Lib.hid hown
          have hBr := below_call hB3 hB3.size hBW
          clear hown
          go_wp2_with fail
          go_ret
          exact ⟨_, rfl, hown'.out.mono hB3.size, hBr⟩
    · have htb : mayB l = false := by simp [mayB, ht]
      rw [htb] at htm
      have hres := Lib.hid (justL_no (fun h : MayC c ∧ Tree l => ht h.2) v)
      clear hmc ht htb hfi
      unfold cfgv at *
      go_enter Try.func17, Try.ntmps17
      go_wp2_with (first
        | (go_at_call 29; (with_reducible refine (hmay _ hB).mono ?_); clear hmay; rintro e w1 ⟨rfl, hb1⟩; have hB1 := below_call hB hB.size hb1)
        | (go_at_call 30; (with_reducible refine (htm _ hB1).mono ?_); clear htm; rintro e w2 ⟨rfl, hb2⟩; have hB2 := below_call hB1 hB1.size hb2))
      go_ret
      exact ⟨_, rfl, by rw [hres.out]; exact Own.nil _ _ _ _ _, hB2⟩
  · rw [decide_eq_false hmc] at hmay
    have hres := Lib.hid (justL_no (fun h : MayC c ∧ Tree l => hmc h.1) v)
    obtain ⟨tb, htb⟩ : ∃ tb, mayB l = tb := ⟨_, rfl⟩
    rw [htb] at htm
    clear hmc hfi htb
    unfold cfgv at *
    go_enter Try.func17, Try.ntmps17
    go_wp2_with (first
      | (go_at_call 29; (with_reducible refine (hmay _ hB).mono ?_); clear hmay; rintro e w1 ⟨rfl, hb1⟩; have hB1 := below_call hB hB.size hb1)
      | (go_at_call 30; (with_reducible refine (htm _ hB1).mono ?_); clear htm; rintro e w2 ⟨rfl, hb2⟩; have hB2 := below_call hB1 hB1.size hb2))
    go_ret
    exact ⟨_, rfl, by rw [hres.out]; exact Own.nil _ _ _ _ _, hB2⟩
end Go.Proofs.Ytdocgemfedohdaa
/-! marigoldref11.final, walked. (Printed by gen_ffgy.py.) -/
namespace Go.Proofs.Ytdocgemfedohdaa
open Go.RowKit
def undR (l : List Blk) (a b : ID) : Bool := decide (a ∈ chain l b)
def midB (l : List Blk) (x t m : Chk) : Bool := decide (m.epoch = x.epoch + 1) && undR l x.root m.root && undR l m.root t.root
def fin1 (c : Cfg) (l : List Blk) (f : List Lnk) (J : List Chk) (x : Chk) (y : Lnk) : Bool :=
  decide (y.src = x) && decide (y.tgt.epoch ≤ x.epoch + 2) && strR c f x y.tgt && (decide (y.tgt.epoch = x.epoch + 1) || J.any (midB l x y.tgt))
theorem finR_any (c : Cfg) (l : List Blk) (f : List Lnk) (J : List Chk) (x : Chk) : finR c l f J x = (decide (x = zchk) || f.any (fin1 c l f J x)) := rfl
theorem rundR_any (l : List Blk) (low id : ID) (A : Option Addr) (c : Nat) (w : World) (hr : Rd 5 encBlk w A l) (hok : ∀ b ∈ l, b.Ok) (hl : l.length ≤ 100000) :
    Calls Try.prog 31 #[.slice A l.length c, idv low, idv id] w fun e w' => e = .returned (.bool (undR l low id)) ∧ Below w.heap.size w w' := runder_any l low id A c w hr hok hl
theorem any_take_succ {α : Type} (p : α → Bool) {g : List α} {j : Nat} (hj : j < g.length) : (g.take (j + 1)).any p = ((g.take j).any p || p g[j]) := by
  rw [List.take_succ_eq_append_getElem hj, List.any_append]
  simp
set_option maxRecDepth 100000 in
set_option maxHeartbeats 8000000 in
theorem rfinal_any (c : Cfg) (l : List Blk) (f : List Lnk) (J : List Chk) (x : Chk) (hx0 : 0 ≤ x.epoch) (hx1 : x.epoch ≤ 1048576) (A A2 A3 A9 : Option Addr) (k k2 k3 k9 : Nat) (w : World) (hr : Rd 1 encI w A c.W) (hr2 : Rd 5 encBlk w A2 l) (hok : ∀ b ∈ l, b.Ok) (hl : l.length ≤ 100000) (hr3 : Rd 7 encLnk w A3 f) (hv : f.length ≤ 90000) (hr9 : Rd 3 encChk w A9 J) :
    Calls Try.prog 42 #[cfgv A k c, .slice A2 l.length k2, .slice A3 f.length k3, .slice A9 J.length k9, chkv x] w fun e w' => e = .returned (.bool (finR c l f J x)) ∧ Below w.heap.size w w' := by
  have hm2 := hr2.1
  have hm3 := hr3.1
  have hm9 := hr9.1
  have hst := fun V (hV : Below w.heap.size w V) t => rstr_any c f x t A A3 k k3 V (hr.below hV) (hr3.below hV) hv
  have hun := fun V (hV : Below w.heap.size w V) a b => rundR_any l a b A2 k2 V (hr2.below hV) hok hl
  have hfin := Lib.hid (finR_any c l f J x)
  unfold cfgv chkv at *
  unfold idv at hun
  obtain ⟨W, hW⟩ : ∃ W, (w.alloc (.cells #[.slice A c.W.length k, .int .u64 c.seed, .int .i64 c.epoch, .int .i64 c.num, .int .i64 c.den] 25)).alloc (.cells #[.int .i64 x.epoch, .int .u64 x.root.hi, .int .u64 x.root.lo] 31) = W := ⟨_, rfl⟩
  have hB : Below w.heap.size w W := by subst hW; exact ((Below.refl _ w).alloc (Nat.le_refl _) _).alloc (by simp) _
  have b0 : W.heap[w.heap.size]? = some (.cells #[.slice A c.W.length k, .int .u64 c.seed, .int .i64 c.epoch, .int .i64 c.num, .int .i64 c.den] 25 (0, 0)) := by subst hW; exact ha_lt (ha_at rfl)
  have b1 : W.heap[w.heap.size + 1]? = some (.cells #[.int .i64 x.epoch, .int .u64 x.root.hi, .int .u64 x.root.lo] 31 (0, 0)) := by subst hW; exact ha_at (by simp)
  have heqz := eql_chk x zchk
  unfold zchk at heqz
  dsimp only at heqz
  obtain ⟨c0, c1, c2⟩ := blk3 b1
  have q2 : IntKind.i64.wrap (x.epoch + 2) = x.epoch + 2 := Go.IntWalk.i64_in _ (by omega)
  have q1 : IntKind.i64.wrap (x.epoch + 1) = x.epoch + 1 := Go.IntWalk.i64_in _ (by omega)
  have q2 := Lib.hid q2
  have q1 := Lib.hid q1
  by_cases hz : x = zchk
  · rw [decide_eq_true (show x = ⟨0, ⟨0, 0⟩⟩ from hz)] at heqz
    have hres := Lib.hid (show finR c l f J x = true by rw [hfin.out, decide_eq_true hz]; rfl)
    clear hz q1 q2
    go_enter Try.func42, Try.ntmps42
    go_wp2_with fail
    go_ret
    exact ⟨ret_bool hres.out.symm, hB⟩
  · rw [decide_eq_false (show ¬ x = ⟨0, ⟨0, 0⟩⟩ from hz)] at heqz
    have hfin := Lib.hid (show finR c l f J x = f.any (fin1 c l f J x) by rw [hfin.out, decide_eq_false hz]; rfl)
    clear hz
    go_enter Try.func42, Try.ntmps42
    go_wp2_with fail
    go_loopw [11, 12, 13, 14, 15, 16] (fun u11 _ _ _ _ _ wr => ∃ i : Nat, i ≤ f.length ∧ u11 = .int .i64 i ∧ Hid ((f.take i).any (fin1 c l f J x) = false) ∧ Below W.heap.size W wr) (fun u11 _ _ _ _ _ _ => f.length - (intOf u11).toNat)
    case atStart => exact ⟨0, Nat.zero_le _, rfl, Lib.hid rfl, Below.refl _ _⟩
    case round =>
      clear hW heqz c0 c1 c2
      obtain ⟨i, hi, rfl, hno, hBW⟩ := hrel
      have hBr := below_call hB hB.size hBW
      by_cases hlt : i < f.length
      · have htk := any_take_succ (fin1 c l f J x) hlt
        rw [hno.out, Bool.false_or] at htk
        have hmem := List.getElem_mem hlt
        have hL7 := fun V (hV : Below w.heap.size w V) => (hr3.below hV).atL hlt
        obtain ⟨y, hy⟩ : ∃ y, f[i] = y := ⟨_, rfl⟩
        rw [hy] at htk hmem
        simp only [hy] at hL7
        have hyes := Lib.hid (show fin1 c l f J x y = true → finR c l f J x = true from fun h => by rw [hfin.out, List.any_eq_true]; exact ⟨y, hmem, h⟩)
        have htk := Lib.hid htk
        have hL7 := Lib.hid hL7
        clear hy hmem
        obtain ⟨b, o, rfl, hbo, d0, d1, d2, d3, d4, d5, d6⟩ := hL7.out wr hBr
        obtain ⟨Z, hZ⟩ : ∃ Z, wr.alloc (.cells #[.int .i64 y.tgt.epoch, .int .u64 y.tgt.root.hi, .int .u64 y.tgt.root.lo] 31) = Z := ⟨_, rfl⟩
        have hBZ : Below wr.heap.size wr Z := by subst hZ; exact (Below.refl _ wr).alloc (Nat.le_refl _) _
        have x0 : Z.heap[wr.heap.size]? = some (.cells #[.int .i64 y.tgt.epoch, .int .u64 y.tgt.root.hi, .int .u64 y.tgt.root.lo] 31 (0, 0)) := by subst hZ; exact ha_at rfl
        have hBWZ := below_call hBW hBW.size hBZ
        have hBrZ := below_call hBr hBr.size hBZ
        obtain ⟨t0, t1, t2⟩ := blk3 x0
        have bZ1 := bl_own hBWZ b1
        have bZ0 := bl_own hBWZ b0
        obtain ⟨s0, s1, s2⟩ := blk3 bZ1
        obtain ⟨bz, oz, hez, _, z0, z1, z2, z3, z4, z5, z6⟩ := hL7.out Z hBrZ
        cases hez
        have hneq := neq_chk y.src x
        by_cases h1 : y.src = x
        · rw [decide_eq_true h1] at hneq
          simp only [Bool.not_true] at hneq
          have gs0 := gr_cell s0
          have gs1 := gr_cell s1
          have gs2 := gr_cell s2
          have gt0 := gr_cell t0
          have gt1 := gr_cell t1
          have gt2 := gr_cell t2
          have gz1 := gr_cell z1
          have gz2 := gr_cell z2
          have gz3 := gr_cell z3
          by_cases h2 : y.tgt.epoch ≤ x.epoch + 2
          · have e2 : decide (y.tgt.epoch > x.epoch + 2) = false := decide_eq_false (by omega)
            have hq2 := q2.out
            obtain ⟨q, hq⟩ : ∃ q, strR c f x y.tgt = q := ⟨_, rfl⟩
            have hst := fun V hV => hst V hV y.tgt
            rw [hq] at hst
            have hf1 := Lib.hid (show fin1 c l f J x y = (q && (decide (y.tgt.epoch = x.epoch + 1) || J.any (midB l x y.tgt))) by unfold fin1; rw [decide_eq_true h1, decide_eq_true h2, hq]; simp)
            clear h1 h2 hq
            go_wp2_with fail
            refine wp_region_gr (by kernel_rfl) (by kernel_rfl) ?_
            repeat (go_big_quiet_step (fail))
            refine wpQuiet_nil ?_
            rintro _ ⟨pq, rfl⟩
            have hg := gr_below Z pq
            generalize gr Z pq = w4 at hg ⊢
            clear gs0 gt0 gs1 gt1 gs2 gt2 gz1 gz2 gz3 hneq hq2
            have hB4W := below_call hBWZ hBWZ.size hg
            have hB4 := below_call hB hB.size hB4W
            have x4 := bl_own hg x0
            obtain ⟨t0, t1, t2⟩ := blk3 x4
            obtain ⟨s0, s1, s2⟩ := blk3 (bl_own hB4W b1)
            obtain ⟨c0, c1, c2, c3, c4⟩ := blk5 (bl_own hB4W b0)
            cases q
            · have hno2 := Lib.hid (show (f.take (i + 1)).any (fin1 c l f J x) = false by rw [htk.out, hf1.out]; rfl)
              go_wp2_with (go_at_call 32; (with_reducible refine (hst _ hB4).mono ?_); clear hst; rintro e w5 ⟨rfl, hb5⟩; have hB5W := below_call hB4W hB4W.size hb5; have hB5 := below_call hB hB.size hB5W; have x5 := bl_own hb5 x4; obtain ⟨r0, r1, r2⟩ := blk3 x5; obtain ⟨v0, v1, v2⟩ := blk3 (bl_own hB5W b1))
              go_roundw
              case rel => exact ⟨i + 1, hlt, by go_num, hno2, hB5W⟩
              case measure => simp [intOf]; omega
            · have hq1 := q1.out
              by_cases h3 : y.tgt.epoch = x.epoch + 1
              · have e3 : (y.tgt.epoch == x.epoch + 1) = true := by simpa using h3
                have hres := Lib.hid (hyes.out (by rw [hf1.out, decide_eq_true h3]; rfl))
                clear h3
                go_wp2_with (go_at_call 32; (with_reducible refine (hst _ hB4).mono ?_); clear hst; rintro e w5 ⟨rfl, hb5⟩; have hB5W := below_call hB4W hB4W.size hb5; have hB5 := below_call hB hB.size hB5W; have x5 := bl_own hb5 x4; obtain ⟨r0, r1, r2⟩ := blk3 x5; obtain ⟨v0, v1, v2⟩ := blk3 (bl_own hB5W b1))
                go_ret
                exact ⟨ret_bool hres.out.symm, hB5⟩
              · have e3 : (y.tgt.epoch == x.epoch + 1) = false := by simpa using h3
                have hf1 := Lib.hid (show fin1 c l f J x y = J.any (midB l x y.tgt) by rw [hf1.out, decide_eq_false h3]; simp)
                clear h3
                go_wp2_with (go_at_call 32; (with_reducible refine (hst _ hB4).mono ?_); clear hst; rintro e w5 ⟨rfl, hb5⟩; have hB5W := below_call hB4W hB4W.size hb5; have hB5 := below_call hB hB.size hB5W; have x5 := bl_own hb5 x4; obtain ⟨r0, r1, r2⟩ := blk3 x5; obtain ⟨v0, v1, v2⟩ := blk3 (bl_own hB5W b1))
                clear t0 t1 t2 s0 s1 s2 c0 c1 c2 c3 c4 r0 r1 r2 v0 v1 v2 z0 z1 z2 z3 z4 z5 z6 d0 d1 d2 d3 d4 d5 d6 hq1 e2 e3
                go_loopw [14, 15, 16] (fun u14 _ _ wq => ∃ j : Nat, j ≤ J.length ∧ u14 = .int .i64 j ∧ Hid ((J.take j).any (midB l x y.tgt) = false) ∧ Below w5.heap.size w5 wq) (fun u14 _ _ _ => J.length - (intOf u14).toNat)
                case atStart => exact ⟨0, Nat.zero_le _, rfl, Lib.hid rfl, Below.refl _ _⟩
                case round =>
                  obtain ⟨j, hj, rfl, hnj, hBq⟩ := hrel
                  have hBqW := below_call hB5W hB5W.size hBq
                  have hBqw := below_call hB hB.size hBqW
                  by_cases hlj : j < J.length
                  · have htj := any_take_succ (midB l x y.tgt) hlj
                    rw [hnj.out, Bool.false_or] at htj
                    have hmem := List.getElem_mem hlj
                    have hC := fun V (hV : Below w.heap.size w V) => (hr9.below hV).atChk hlj
                    obtain ⟨m, hmm⟩ : ∃ m, J[j] = m := ⟨_, rfl⟩
                    rw [hmm] at htj hmem
                    simp only [hmm] at hC
                    have hyj := Lib.hid (show midB l x y.tgt m = true → finR c l f J x = true from fun h => hyes.out (by rw [hf1.out, List.any_eq_true]; exact ⟨m, hmem, h⟩))
                    have htj := Lib.hid htj
                    clear hmm hmem
                    obtain ⟨e, oe, rfl, _, m0, m1, m2⟩ := hC wr hBqw
                    obtain ⟨ul, hul⟩ : ∃ ul, undR l x.root m.root = ul := ⟨_, rfl⟩
                    obtain ⟨uh, huh⟩ : ∃ uh, undR l m.root y.tgt.root = uh := ⟨_, rfl⟩
                    have hu1 := fun V hV => hun V hV x.root m.root
                    have hu2 := fun V hV => hun V hV m.root y.tgt.root
                    rw [hul] at hu1
                    rw [huh] at hu2
                    have hmid := Lib.hid (show midB l x y.tgt m = (decide (m.epoch = x.epoch + 1) && ul && uh) by unfold midB; rw [hul, huh])
                    clear hul huh
                    have hC := Lib.hid hC
                    obtain ⟨v0, v1, v2⟩ := blk3 (bl_own hBqW b1)
                    have g1 := gr_cell m1
                    have g2 := gr_cell m2
                    have g3 := gr_cell v1
                    have g4 := gr_cell v2
                    have hu1 := fun p => hu1 (gr wr p) (below_call hBqw hBqw.size (gr_below wr p))
                    go_wp2_with fail
                    refine wp_region_gr (by kernel_rfl) (by kernel_rfl) ?_
                    repeat (go_big_quiet_step ((go_at_call 31; with_reducible exact Calls.gr_of (hu1 _))))
                    refine wpQuiet_nil ?_
                    rintro _ ⟨pq6, rfl⟩
                    have hg6 := gr_below wr pq6
                    generalize gr wr pq6 = w6 at hg6 ⊢
                    clear g1 g2 g3 g4 hu1 m0 m1 m2 v0 v1 v2
                    have hB6W := below_call hBqW hBqW.size hg6
                    have hB6w := below_call hB hB.size hB6W
                    obtain ⟨e6, oe6, he6, _, m0, m1, m2⟩ := hC.out w6 hB6w
                    cases he6
                    obtain ⟨t0, t1, t2⟩ := blk3 (bl_own hg6 (bl_own hBq x5))
                    have g1 := gr_cell m1
                    have g2 := gr_cell m2
                    have g3 := gr_cell t1
                    have g4 := gr_cell t2
                    have hu2 := fun p => hu2 (gr w6 p) (below_call hB6w hB6w.size (gr_below w6 p))
                    go_wp2_with fail
                    refine wp_region_gr (by kernel_rfl) (by kernel_rfl) ?_
                    repeat (go_big_quiet_step ((go_at_call 31; with_reducible exact Calls.gr_of (hu2 _))))
                    refine wpQuiet_nil ?_
                    rintro _ ⟨pq7, rfl⟩
                    have hg7 := gr_below w6 pq7
                    generalize gr w6 pq7 = w7 at hg7 ⊢
                    clear g1 g2 g3 g4 hu2 m0 m1 m2 t0 t1 t2
                    have hB7W := below_call hB6W hB6W.size hg7
                    have hB7w := below_call hB hB.size hB7W
                    obtain ⟨e7, oe7, he7, _, m0, m1, m2⟩ := hC.out w7 hB7w
                    cases he7
                    obtain ⟨v0, v1, v2⟩ := blk3 (bl_own hB7W b1)
                    have g1 := gr_cell m0
                    have g2 := gr_cell v0
                    have hq1 := q1.out
                    have hB5q := below_call (below_call hBq hBq.size hg6) (below_call hBq hBq.size hg6).size hg7
                    by_cases h4 : m.epoch = x.epoch + 1
                    · have e4 : (m.epoch == x.epoch + 1) = true := by simpa using h4
                      cases ul
                      · have hnj2 := Lib.hid (show (J.take (j + 1)).any (midB l x y.tgt) = false by rw [htj.out, hmid.out, decide_eq_true h4]; simp)
                        clear h4
                        go_wp2_with fail
                        refine wp_region_gr (by kernel_rfl) (by kernel_rfl) ?_
                        repeat (go_big_quiet_step (fail))
                        refine wpQuiet_nil ?_
                        rintro _ ⟨pq8, rfl⟩
                        have hg8 := gr_below w7 pq8
                        generalize gr w7 pq8 = w8 at hg8 ⊢
                        clear g1 g2 hq1
                        go_wp2_with fail
                        go_roundw
                        case rel => exact ⟨j + 1, hlj, by go_num, hnj2, below_call hB5q hB5q.size hg8⟩
                        case measure => simp [intOf]; omega
                      · cases uh
                        · have hnj2 := Lib.hid (show (J.take (j + 1)).any (midB l x y.tgt) = false by rw [htj.out, hmid.out, decide_eq_true h4]; simp)
                          clear h4
                          go_wp2_with fail
                          refine wp_region_gr (by kernel_rfl) (by kernel_rfl) ?_
                          repeat (go_big_quiet_step (fail))
                          refine wpQuiet_nil ?_
                          rintro _ ⟨pq8, rfl⟩
                          have hg8 := gr_below w7 pq8
                          generalize gr w7 pq8 = w8 at hg8 ⊢
                          clear g1 g2 hq1
                          go_wp2_with fail
                          go_roundw
                          case rel => exact ⟨j + 1, hlj, by go_num, hnj2, below_call hB5q hB5q.size hg8⟩
                          case measure => simp [intOf]; omega
                        · have hres := Lib.hid (hyj.out (by rw [hmid.out, decide_eq_true h4]; rfl))
                          clear h4
                          go_wp2_with fail
                          refine wp_region_gr (by kernel_rfl) (by kernel_rfl) ?_
                          repeat (go_big_quiet_step (fail))
                          refine wpQuiet_nil ?_
                          rintro _ ⟨pq8, rfl⟩
                          have hg8 := gr_below w7 pq8
                          generalize gr w7 pq8 = w8 at hg8 ⊢
                          clear g1 g2 hq1
                          go_wp2_with fail
                          go_ret
                          exact ⟨ret_bool hres.out.symm, below_call hB7w hB7w.size hg8⟩
                    · have e4 : (m.epoch == x.epoch + 1) = false := by simpa using h4
                      have hnj2 := Lib.hid (show (J.take (j + 1)).any (midB l x y.tgt) = false by rw [htj.out, hmid.out, decide_eq_false h4]; simp)
                      clear h4
                      go_wp2_with fail
                      refine wp_region_gr (by kernel_rfl) (by kernel_rfl) ?_
                      repeat (go_big_quiet_step (fail))
                      refine wpQuiet_nil ?_
                      rintro _ ⟨pq8, rfl⟩
                      have hg8 := gr_below w7 pq8
                      generalize gr w7 pq8 = w8 at hg8 ⊢
                      clear g1 g2 hq1
                      go_wp2_with fail
                      go_roundw
                      case rel => exact ⟨j + 1, hlj, by go_num, hnj2, below_call hB5q hB5q.size hg8⟩
                      case measure => simp [intOf]; omega
                  · obtain rfl : j = J.length := by omega
                    rw [List.take_length] at hnj
                    have hno2 := Lib.hid (show (f.take (i + 1)).any (fin1 c l f J x) = false by rw [htk.out, hf1.out]; exact hnj.out)
                    go_wp2_with fail
                    go_roundw
                    case rel => exact ⟨i + 1, hlt, by go_num, hno2, hBqW⟩
                    case measure => simp [intOf]; omega
          · have e2 : decide (y.tgt.epoch > x.epoch + 2) = true := decide_eq_true (by omega)
            have hno2 := Lib.hid (show (f.take (i + 1)).any (fin1 c l f J x) = false by rw [htk.out]; unfold fin1; rw [decide_eq_true h1, decide_eq_false h2]; rfl)
            have hq2 := q2.out
            clear h1 h2
            go_wp2_with fail
            refine wp_region_gr (by kernel_rfl) (by kernel_rfl) ?_
            repeat (go_big_quiet_step (fail))
            refine wpQuiet_nil ?_
            rintro _ ⟨pq, rfl⟩
            have hg := gr_below Z pq
            generalize gr Z pq = w4 at hg ⊢
            clear gs0 gt0 gs1 gt1 gs2 gt2 gz1 gz2 gz3 hneq hq2
            go_wp2_with fail
            go_roundw
            case rel => exact ⟨i + 1, hlt, by go_num, hno2, below_call hBWZ hBWZ.size hg⟩
            case measure => simp [intOf]; omega
        · rw [decide_eq_false h1] at hneq
          have hno2 := Lib.hid (show (f.take (i + 1)).any (fin1 c l f J x) = false by rw [htk.out]; unfold fin1; rw [decide_eq_false h1]; rfl)
          simp only [Bool.not_false] at hneq
          have gs0 := gr_cell s0
          have gs1 := gr_cell s1
          have gs2 := gr_cell s2
          have gt0 := gr_cell t0
          have gt1 := gr_cell t1
          have gt2 := gr_cell t2
          have gz1 := gr_cell z1
          have gz2 := gr_cell z2
          have gz3 := gr_cell z3
          clear h1
          go_wp2_with fail
          refine wp_region_gr (by kernel_rfl) (by kernel_rfl) ?_
          repeat (go_big_quiet_step (fail))
          refine wpQuiet_nil ?_
          rintro _ ⟨pq, rfl⟩
          have hg := gr_below Z pq
          generalize gr Z pq = w4 at hg ⊢
          clear gs0 gt0 gs1 gt1 gs2 gt2 gz1 gz2 gz3 hneq
          go_wp2_with fail
          go_roundw
          case rel => exact ⟨i + 1, hlt, by go_num, hno2, below_call hBWZ hBWZ.size hg⟩
          case measure => simp [intOf]; omega
      · obtain rfl : i = f.length := by omega
        rw [List.take_length] at hno
        have hres := Lib.hid (show finR c l f J x = false by rw [hfin.out]; exact hno.out)
        go_wp2_with fail
        go_ret
        exact ⟨ret_bool hres.out.symm, hBr⟩
end Go.Proofs.Ytdocgemfedohdaa
/-! marigoldref11.Final and Same, walked. -/
namespace Go.Proofs.Ytdocgemfedohdaa
open Go.RowKit
theorem just_bd {c : Cfg} {l : List Blk} {v : List Lnk} {x : Chk} (h : JustC c l v x) : 0 ≤ x.epoch ∧ x.epoch ≤ 1048576 := by
  cases h with
  | zero => exact ⟨Int.le_refl _, by show (0 : Int) ≤ _; omega⟩
  | step _ h => have hk := strong_ok h; have h1 := hk.lo; have h2 := hk.lt; have h3 := hk.hi; omega
theorem justL_bd {c : Cfg} {l : List Blk} {v : List Lnk} {x : Chk} (h : x ∈ justL c l v) : 0 ≤ x.epoch ∧ x.epoch ≤ 1048576 := by
  by_cases hm : MayC c ∧ Tree l
  · exact just_bd ((mem_justL hm).1 h)
  · rw [justL_no hm] at h; cases h
theorem filter_snoc {α : Type} (p : α → Bool) {g : List α} {j : Nat} (hj : j < g.length) : (g.take (j + 1)).filter p = (g.take j).filter p ++ (if p g[j] = true then [g[j]] else []) := by
  rw [List.take_succ_eq_append_getElem hj, List.filter_append]
  congr 1
  cases h : p g[j] <;> simp [h]
set_option maxRecDepth 100000 in
set_option maxHeartbeats 8000000 in
theorem rFinal_any (c : Cfg) (l : List Blk) (v : List Lnk) (A A2 A3 : Option Addr) (k k2 k3 : Nat) (w : World) (hr : Rd 1 encI w A c.W) (hr2 : Rd 5 encBlk w A2 l) (hok : ∀ b ∈ l, b.Ok) (hl : l.length ≤ 100000) (hr3 : Rd 7 encLnk w A3 v) (hv : v.length ≤ 90000) :
    Calls Try.prog 19 #[cfgv A k c, .slice A2 l.length k2, .slice A3 v.length k3] w fun e w' => ∃ u, e = .returned u ∧ Own w' w.heap.size 31 3 encChk u (finalL c l v) ∧ Below w.heap.size w w' := by
  have hm2 := hr2.1
  have hm3 := hr3.1
  have hun := Try.underlying39
  have hju := fun V (hV : Below w.heap.size w V) => rjust_any c l v A A2 A3 k k2 k3 V (hr.below hV) (hr2.below hV) hok hl (hr3.below hV) hv
  have hfi := fun V (hV : Below w.heap.size w V) => rfine_any c l v A A2 A3 k k2 k3 V (hr.below hV) (hr2.below hV) hok hl (hr3.below hV) hv
  have hres := Lib.hid (refFinal_eq c l v)
  have hfl := fineL_len c l v
  have hbd := fun x => justL_bd (c := c) (l := l) (v := v) (x := x)
  have hjl := justL_len c l v
  obtain ⟨f, hf⟩ : ∃ f, fineL c l v = f := ⟨_, rfl⟩
  simp only [hf] at hres hfl hfi
  obtain ⟨J, hJ⟩ : ∃ J, justL c l v = J := ⟨_, rfl⟩
  simp only [hJ] at hres hju hbd hjl
  have hbd := Lib.hid hbd
  clear hf hJ
  have hcl := fun V (hV : Below w.heap.size w V) x h0 h1 A4 A9 k4 k9 h4 h9 => rfinal_any c l f J x h0 h1 A A2 A4 A9 k k2 k4 k9 V (hr.below hV) (hr2.below hV) hok hl h4 (by omega) h9
  unfold cfgv at *
  obtain ⟨W, hW⟩ : ∃ W, w.alloc (.cells #[.slice A c.W.length k, .int .u64 c.seed, .int .i64 c.epoch, .int .i64 c.num, .int .i64 c.den] 25) = W := ⟨_, rfl⟩
  have hB : Below w.heap.size w W := by subst hW; exact (Below.refl _ w).alloc (Nat.le_refl _) _
  have b0 : W.heap[w.heap.size]? = some (.cells #[.slice A c.W.length k, .int .u64 c.seed, .int .i64 c.epoch, .int .i64 c.num, .int .i64 c.den] 25 (0, 0)) := by subst hW; exact ha_at rfl
  obtain ⟨c0, c1, c2, c3, c4⟩ := blk5 b0
  go_enter Try.func19, Try.ntmps19
  go_wp2_with (first
    | (go_at_call 17; (with_reducible refine (hju _ hB).mono ?_); clear hju; rintro e w1 ⟨u1, rfl, ho1, hb1⟩; have hB1 := below_call hB hB.size hb1; obtain ⟨A9, k9, rfl, hR9⟩ := ho1.rd encChk_len; have b1 := bl_own hb1 b0; obtain ⟨d0, d1, d2, d3, d4⟩ := blk5 b1)
    | (go_at_call 33; (with_reducible refine (hfi _ hB1).mono ?_); clear hfi; rintro e w2 ⟨u2, rfl, ho2, hb2⟩; have hB2 := below_call hB1 hB1.size hb2; obtain ⟨A4, k4, rfl, hR4⟩ := ho2.rd encLnk_len; have b2 := bl_own hb2 b1; have hR9 := hR9.below hb2))
  clear hb1 hb2 hB hB1 b0 b1 c0 c1 c2 c3 c4 d0 d1 d2 d3 d4 hW ho1 ho2
  go_loopw [7, 9, 10] (fun u7 u9 _ wr => ∃ i : Nat, i ≤ J.length ∧ u9 = .int .i64 i ∧ Own wr w2.heap.size 31 3 encChk u7 ((J.take i).filter (finR c l f J)) ∧ Below w2.heap.size w2 wr) (fun _ u9 _ _ => J.length - (intOf u9).toNat)
  case atStart => exact ⟨0, Nat.zero_le _, rfl, Own.nil _ _ _ _ _, Below.refl _ _⟩
  case round =>
    obtain ⟨i, hi, rfl, hown, hBW⟩ := hrel
    have hBr := below_call hB2 hB2.size hBW
    by_cases hlt : i < J.length
    · have hsn := filter_snoc (finR c l f J) hlt
      have hmem := List.getElem_mem hlt
      have hC := fun V (hV : Below w2.heap.size w2 V) => (hR9.below hV).atChk hlt
      obtain ⟨x, hx⟩ : ∃ x, J[i] = x := ⟨_, rfl⟩
      rw [hx] at hsn hmem
      simp only [hx] at hC
      have hC := Lib.hid hC
      obtain ⟨g1, g2⟩ := hbd.out x hmem
      have hfll : ((J.take i).filter (finR c l f J)).length ≤ i := Nat.le_trans (List.length_filter_le _ _) (List.length_take_le _ _)
      clear hx hmem
      obtain ⟨b, o, rfl, _, m0, m1, m2⟩ := hC.out wr hBW
      have hcl := fun V hV => hcl V hV x g1 g2 A4 (some ⟨b, o, none⟩) k4 k9
      obtain ⟨q, hq⟩ : ∃ q, finR c l f J x = q := ⟨_, rfl⟩
      rw [hq] at hcl hsn
      unfold chkv at hcl
      have hsn := Lib.hid hsn
      clear hq
      have hcl := fun p => hcl (gr wr p) (below_call hBr hBr.size (gr_below wr p)) (hR4.below (below_call hBW hBW.size (gr_below wr p))) (hR9.below (below_call hBW hBW.size (gr_below wr p)))
      obtain ⟨c0, c1, c2, c3, c4⟩ := blk5 (bl_own hBW b2)
      have y0 := gr_cell c0
      have y1 := gr_cell c1
      have y2 := gr_cell c2
      have y3 := gr_cell c3
      have y4 := gr_cell c4
      have z0 := gr_cell m0
      have z1 := gr_cell m1
      have z2 := gr_cell m2
      go_wp2_with fail
      refine wp_region_gr (by kernel_rfl) (by kernel_rfl) ?_
      repeat (go_big_quiet_step ((go_at_call 42; with_reducible exact Calls.gr_of (hcl _))))
      refine wpQuiet_nil ?_
      rintro _ ⟨pq, rfl⟩
      have hg := gr_below wr pq
      generalize gr wr pq = w4 at hg ⊢
      clear y0 y1 y2 y3 y4 z0 z1 z2 c0 c1 c2 c3 c4 m0 m1 m2 hcl
      have hB4 := below_call hBW hBW.size hg
      obtain ⟨b', o', he, _, m0, m1, m2⟩ := hC.out w4 hB4
      cases he
      cases q
      · rw [if_neg (by simp), List.append_nil] at hsn
        go_wp2_with fail
        go_roundw
        case rel => exact ⟨i + 1, hlt, by go_num, by rw [hsn.out]; exact hown.below hg, hB4⟩
        case measure => simp [intOf]; omega
      · rw [if_pos rfl] at hsn
        have hZ : Below w4.heap.size w4 (w4.alloc (.cells #[.int .i64 x.epoch, .int .u64 x.root.hi, .int .u64 x.root.lo] 31)) := (Below.refl _ w4).alloc (Nat.le_refl _) _
        have hoZ := (hown.below hg).below hZ
        have hBZ := below_call hB4 hB4.size hZ
        have hszz := hBZ.size
        have z0 := ha_at (w := w4) (o := .cells #[.int .i64 x.epoch, .int .u64 x.root.hi, .int .u64 x.root.lo] 31) (k := w4.heap.size) rfl
        go_wp2_with (at_builtin; refine wp_append1 rfl rfl hun infoC rfl (by decide) encChk_len encChk_one rfl hoZ (g := w4.heap.size) (c := 1) rfl (y := x) z0 rfl (by omega) (by unfold maxLen; omega) (by omega) ?_; intro v6 w6 ho6 hg6 _)
        go_roundw
        case rel => exact ⟨i + 1, hlt, by go_num, by rw [hsn.out]; exact ho6, below_step hBZ hBZ.size hg6 (fun q e => (hoZ.base q e).1)⟩
        case measure => simp [intOf]; omega
    · obtain rfl : i = J.length := by omega
      rw [List.take_length] at hown
      have hown' := Lib.hid hown
      clear hown
      go_wp2_with fail
      go_ret
      exact ⟨_, rfl, by rw [← hres.out]; exact hown'.out.mono hB2.size, hBr⟩
set_option maxRecDepth 100000 in
set_option maxHeartbeats 2000000 in
theorem sameC_any (a b : List Chk) (A B : Option Addr) (k k2 : Nat) (w : World) (hr : Rd 3 encChk w A a) (hr2 : Rd 3 encChk w B b) :
    Calls Try.prog 15 #[.slice A a.length k, .slice B b.length k2] w fun e w' => e = .returned (.bool (decide (a = b))) ∧ Below w.heap.size w w' := by
  have hm := hr.1
  have hm2 := hr2.1
  by_cases hlen : a.length = b.length
  · have hlen' := Lib.hid hlen
    have e1 : (a.length != b.length) = false := by simpa using hlen
    have e2 : ((a.length : Int) != (b.length : Int)) = false := by simp; omega
    clear hlen
    go_enter Try.func15, Try.ntmps15
    go_wp2_with fail
    go_loopw [5] (fun i wr => ∃ j : Nat, j ≤ a.length ∧ i = .int .i64 j ∧ Hid (a.take j = b.take j) ∧ Below w.heap.size w wr) (fun i _ => a.length - (intOf i).toNat)
    case atStart => exact ⟨0, Nat.zero_le _, rfl, Lib.hid rfl, Below.refl _ _⟩
    case round =>
      obtain ⟨j, hj, rfl, hsa, hB⟩ := hrel
      by_cases hlt : j < a.length
      · have hlt2 : j < b.length := by rw [← hlen'.out]; exact hlt
        obtain ⟨e, oe, rfl, _, d0, d1, d2⟩ := (hr.below hB).atChk hlt
        obtain ⟨g, og, rfl, _, f0, f1, f2⟩ := (hr2.below hB).atChk hlt2
        have ht1 := List.take_succ_eq_append_getElem hlt
        have ht2 := List.take_succ_eq_append_getElem hlt2
        have hge : a = b → a[j] = b[j] := fun e => by subst e; rfl
        obtain ⟨x, hx⟩ : ∃ x, a[j] = x := ⟨_, rfl⟩
        obtain ⟨y, hy⟩ : ∃ y, b[j] = y := ⟨_, rfl⟩
        rw [hx] at d0 d1 d2 ht1 hge
        rw [hy] at f0 f1 f2 ht2 hge
        have hge := Lib.hid hge
        have ht1 := Lib.hid ht1
        have ht2 := Lib.hid ht2
        have hneq := neq_chk x y
        clear hx hy
        have y0 := gr_cell d0
        have y1 := gr_cell d1
        have y2 := gr_cell d2
        have z0 := gr_cell f0
        have z1 := gr_cell f1
        have z2 := gr_cell f2
        have j1 : (j : Int) < (a.length : Int) := by omega
        have j2 : (j : Int) < (b.length : Int) := by omega
        by_cases h1 : x = y
        · rw [decide_eq_true h1] at hneq
          simp only [Bool.not_true] at hneq
          have hs2 := Lib.hid (show a.take (j + 1) = b.take (j + 1) by rw [ht1.out, ht2.out, hsa.out, h1])
          clear h1
          go_wp2_with fail
          refine wp_region_gr (by kernel_rfl) (by kernel_rfl) ?_
          repeat (go_big_quiet_step (fail))
          refine wpQuiet_nil ?_
          rintro _ ⟨pq, rfl⟩
          have hg := gr_below wr pq
          generalize gr wr pq = w4 at hg ⊢
          clear y0 y1 y2 z0 z1 z2 hneq
          go_wp2_with fail
          go_roundw
          case rel => exact ⟨j + 1, hlt, by go_num, hs2, below_call hB hB.size hg⟩
          case measure => simp [intOf]; omega
        · rw [decide_eq_false h1] at hneq
          simp only [Bool.not_false] at hneq
          have hres := Lib.hid (show decide (a = b) = false from decide_eq_false (fun e => h1 (hge.out e)))
          clear h1
          go_wp2_with fail
          refine wp_region_gr (by kernel_rfl) (by kernel_rfl) ?_
          repeat (go_big_quiet_step (fail))
          refine wpQuiet_nil ?_
          rintro _ ⟨pq, rfl⟩
          have hg := gr_below wr pq
          generalize gr wr pq = w4 at hg ⊢
          clear y0 y1 y2 z0 z1 z2 hneq
          go_wp2_with fail
          go_ret
          exact ⟨ret_bool hres.out.symm, below_call hB hB.size hg⟩
      · obtain rfl : j = a.length := by omega
        have hres := Lib.hid (show decide (a = b) = true from decide_eq_true (by
          have h2 := hsa.out
          rw [List.take_length] at h2
          rw [h2]
          exact List.take_of_length_le (by rw [hlen'.out]; exact Nat.le_refl _)))
        go_wp2_with fail
        go_ret
        exact ⟨ret_bool hres.out.symm, hB⟩
  · have e1 : (a.length != b.length) = true := by simpa using hlen
    have e2 : ((a.length : Int) != (b.length : Int)) = true := by simp; omega
    have hres := Lib.hid (show decide (a = b) = false from decide_eq_false (fun e => hlen (by rw [e])))
    clear hlen
    go_enter Try.func15, Try.ntmps15
    go_wp2_with fail
    go_ret
    exact ⟨ret_bool hres.out.symm, Below.refl _ _⟩
end Go.Proofs.Ytdocgemfedohdaa
