/- GG: several texts in one. -/
import Derived.Test.YtibmfpcbjopojaaGE
import Derived.Test.YtibmfpcbjopojaaGA
import Derived.Test.YtibmfpcbjopojaaGD
import Derived.Test.YtibmfpcbjopojaaGF
/-! How much a boost is, walked: lmd.Boost, and the document's. -/
namespace Go.Proofs.Ytibmfpcbjopojaa
open Go.RowKit
set_option maxRecDepth 100000 in
set_option maxHeartbeats 1000000 in
theorem boost_any (c : Cfg) (pct : Int) (A : Option Addr) (k : Nat) (w : World) (hr : Rd 1 encI w A c.W) :
    Calls Try.prog 15 #[cfgv A k c, .int .i64 pct] w fun e w' => e = .returned (.int .i64 (boostC c pct)) ∧ Below w.heap.size w w' := by
  have hm := hr.1
  have hmay := fun W (hW : Below w.heap.size w W) => dmay_any c A k W (hr.below hW)
  have htot := fun W (hW : Below w.heap.size w W) => dtotal_any c A k W (hr.below hW)
  have htb := totalC_bd c
  have hbo : boostC c pct = if MayC c ∧ 0 ≤ pct ∧ pct ≤ 100 then (totalC c / c.epoch) * pct / 100 else 0 := rfl
  obtain ⟨t, ht⟩ : ∃ t, totalC c = t := ⟨_, rfl⟩
  rw [ht] at htot htb hbo
  clear ht
  unfold cfgv at *
  have hW : ∃ W, w.alloc (.cells #[.slice A c.W.length k, .int .u64 c.seed, .int .i64 c.epoch, .int .i64 c.num, .int .i64 c.den] 25) = W := ⟨_, rfl⟩
  obtain ⟨W, hW⟩ := hW
  have hB : Below w.heap.size w W := by subst hW; exact (Below.refl _ w).alloc (Nat.le_refl _) _
  have hb : W.heap[w.heap.size]? = some (.cells #[.slice A c.W.length k, .int .u64 c.seed, .int .i64 c.epoch, .int .i64 c.num, .int .i64 c.den] 25 (0, 0)) := by subst hW; exact ha_at rfl
  obtain ⟨c0, c1, c2, c3, c4⟩ := blk5 hb
  by_cases hmc : MayC c
  · rw [decide_eq_true hmc] at hmay
    have he := hmc.2.1
    have he2 := hmc.2.2.1
    by_cases h1 : pct < 0
    · rw [if_neg (fun h => by omega)] at hbo
      have hbo' := Lib.hid hbo
      have g1 : decide (pct < 0) = true := by simpa using h1
      clear hmc hbo
      go_enter Try.func15, Try.ntmps15
      go_wp2_with (go_at_call 36; (with_reducible refine (hmay _ hB).mono ?_); clear hmay; rintro e w1 ⟨rfl, hb1⟩; have hB1 := below_call hB hB.size hb1)
      go_ret
      exact ⟨ret_int hbo'.out.symm, hB1⟩
    · by_cases h2 : 100 < pct
      · rw [if_neg (fun h => by omega)] at hbo
        have hbo' := Lib.hid hbo
        clear hmc hbo
        go_enter Try.func15, Try.ntmps15
        go_wp2_with (go_at_call 36; (with_reducible refine (hmay _ hB).mono ?_); clear hmay; rintro e w1 ⟨rfl, hb1⟩; have hB1 := below_call hB hB.size hb1)
        go_ret
        exact ⟨ret_int hbo'.out.symm, hB1⟩
      · rw [if_pos ⟨hmc, by omega, by omega⟩] at hbo
        obtain ⟨q1, q2, q3, q4, q5, q6⟩ := boost_lemma htb.1 he (show 0 ≤ pct by omega) (show pct ≤ 100 by omega)
        have e1 : t.tdiv c.epoch = t / c.epoch := Int.tdiv_eq_ediv_of_nonneg htb.1
        have e2 : (t / c.epoch * pct).tdiv 100 = t / c.epoch * pct / 100 := Int.tdiv_eq_ediv_of_nonneg q3
        have hz : ¬ c.epoch = 0 := by omega
        have hbo' := Lib.hid hbo
        clear hmc hbo
        go_enter Try.func15, Try.ntmps15
        go_wp2_with (go_at_call 36; (with_reducible refine (hmay _ hB).mono ?_); clear hmay; rintro e w1 ⟨rfl, hb1⟩; have hB1 := below_call hB hB.size hb1; have hb' := bl_own hb1 hb; obtain ⟨d0, d1, d2, d3, d4⟩ := blk5 hb')
        have y0 := gr_cell d0
        have y1 := gr_cell d1
        have y2 := gr_cell d2
        have y3 := gr_cell d3
        have y4 := gr_cell d4
        have htot1 := fun p => htot (gr w1 p) (hB1.trans ((gr_below _ _).mono hB1.size))
        refine wp_region_gr (by kernel_rfl) (by kernel_rfl) ?_
        repeat (go_big_quiet_step ((go_at_call 19; with_reducible exact Calls.gr_of (htot1 _))))
        refine wpQuiet_nil ?_
        rintro _ ⟨pq, rfl⟩
        go_wp2
        go_ret
        exact ⟨ret_int (by rw [hbo'.out]), hB1.trans ((gr_below _ _).mono hB1.size)⟩
  · rw [decide_eq_false hmc] at hmay
    rw [if_neg (fun h => hmc h.1)] at hbo
    have hbo' := Lib.hid hbo
    clear hmc hbo
    go_enter Try.func15, Try.ntmps15
    go_wp2_with (go_at_call 36; (with_reducible refine (hmay _ hB).mono ?_); clear hmay; rintro e w1 ⟨rfl, hb1⟩; have hB1 := below_call hB hB.size hb1)
    go_ret
    exact ⟨ret_int hbo'.out.symm, hB1⟩
set_option maxRecDepth 100000 in
set_option maxHeartbeats 2000000 in
theorem rtotal_any (c : Cfg) (A : Option Addr) (k : Nat) (w : World) (hr : Rd 1 encI w A c.W) :
    Calls Try.prog 38 #[cfgv A k c] w fun e w' => e = .returned (.int .i64 (totalC c)) ∧ Below w.heap.size w w' := by
  have hm := hr.1
  have hmay := fun W (hW : Below w.heap.size w W) => rcmay_any c A k W (hr.below hW)
  unfold cfgv at *
  have hW : ∃ W, w.alloc (.cells #[.slice A c.W.length k, .int .u64 c.seed, .int .i64 c.epoch, .int .i64 c.num, .int .i64 c.den] 25) = W := ⟨_, rfl⟩
  obtain ⟨W, hW⟩ := hW
  have hB : Below w.heap.size w W := by subst hW; exact (Below.refl _ w).alloc (Nat.le_refl _) _
  have hb : W.heap[w.heap.size]? = some (.cells #[.slice A c.W.length k, .int .u64 c.seed, .int .i64 c.epoch, .int .i64 c.num, .int .i64 c.den] 25 (0, 0)) := by subst hW; exact ha_at rfl
  obtain ⟨c0, c1, c2, c3, c4⟩ := blk5 hb
  by_cases hmc : MayC c
  · rw [decide_eq_true hmc] at hmay
    have hres := Lib.hid (show totalC c = wsumTo c.W (fun _ => true) c.W.length by simp [totalC, hmc])
    have hbd' := Lib.hid (wsumTo_bd hmc.W (fun _ => true))
    have hlen := hmc.len
    have hWx' := Lib.hid hmc.W
    clear hmc
    go_enter Try.func38, Try.ntmps38
    go_wp2_with (go_at_call 37; refine (hmay _ hB).mono ?_; rintro e w1 ⟨rfl, hb1⟩)
    have hB1 := below_call hB hB.size hb1
    have hbb := bl_own hb1 hb
    have e0 := blk_cell hbb 0
    clear hmay hb1 c0 c1 c2 c3 c4
    go_loop [3, 5] (fun n i => ∃ i0 : Nat, i0 ≤ c.W.length ∧ i = .int .i64 i0 ∧ n = .int .i64 (wsumTo c.W (fun _ => true) i0)) (fun _ i => c.W.length - (intOf i).toNat)
    case atStart => exact ⟨0, Nat.zero_le _, rfl, rfl⟩
    case round =>
      obtain ⟨i, hi, rfl, rfl⟩ := hrel
      have hbi := hbd'.out i
      have hst : wsumTo c.W (fun _ => true) (i + 1) = wsumTo c.W (fun _ => true) i + c.W[i]?.getD 0 := by simp [wsumTo]
      obtain ⟨s, hs⟩ : ∃ s, wsumTo c.W (fun _ => true) i = s := ⟨_, rfl⟩
      rw [hs] at hbi hst ⊢
      have hs' := Lib.hid hs
      clear hs
      obtain ⟨hb1, hb2⟩ := hbi
      have hb3 : s ≤ 13194139533312 := by omega
      by_cases hlt : i < c.W.length
      · obtain ⟨b, o, rfl, hbo, d⟩ := (hr.below hB1).atI hlt
        obtain ⟨hx0, hx1⟩ := hWx'.out _ (List.getElem_mem hlt)
        rw [List.getElem?_eq_getElem hlt, Option.getD_some] at hst
        obtain ⟨x, hx⟩ : ∃ x, c.W[i] = x := ⟨_, rfl⟩
        rw [hx] at d hst hx0 hx1
        have hst' := Lib.hid hst
        clear hx hst
        go_wp2_with fail
        go_round
        case rel => exact ⟨i + 1, hlt, by go_num, by rw [hst'.out]⟩
        case measure => simp [intOf]; omega
      · obtain rfl : i = c.W.length := by omega
        clear hst
        go_wp2_with fail
        go_ret
        exact ⟨ret_int (by rw [hres.out, hs'.out]), hB1⟩
  · rw [decide_eq_false hmc] at hmay
    have hres := Lib.hid (show totalC c = 0 by simp [totalC, hmc])
    clear hmc
    go_enter Try.func38, Try.ntmps38
    go_wp2_with (go_at_call 37; refine (hmay _ hB).mono ?_; rintro e w1 ⟨rfl, hb1⟩)
    have hB1 := below_call hB hB.size hb1
    have hbb := bl_own hb1 hb
    have e0 := blk_cell hbb 0
    clear hmay hb1 c0 c1 c2 c3 c4
    refine wp_loop_rounds 1 ?_
    rw [rounds_succ]
    go_wp2_with fail
    all_goals (go_ret; exact ⟨ret_int hres.out.symm, hB1⟩)
set_option maxRecDepth 100000 in
set_option maxHeartbeats 1000000 in
theorem rboost_any (c : Cfg) (pct : Int) (A : Option Addr) (k : Nat) (w : World) (hr : Rd 1 encI w A c.W) :
    Calls Try.prog 16 #[cfgv A k c, .int .i64 pct] w fun e w' => e = .returned (.int .i64 (boostC c pct)) ∧ Below w.heap.size w w' := by
  have hm := hr.1
  have hmay := fun W (hW : Below w.heap.size w W) => rcmay_any c A k W (hr.below hW)
  have htot := fun W (hW : Below w.heap.size w W) => rtotal_any c A k W (hr.below hW)
  have htb := totalC_bd c
  have hbo : boostC c pct = if MayC c ∧ 0 ≤ pct ∧ pct ≤ 100 then (totalC c / c.epoch) * pct / 100 else 0 := rfl
  obtain ⟨t, ht⟩ : ∃ t, totalC c = t := ⟨_, rfl⟩
  rw [ht] at htot htb hbo
  clear ht
  unfold cfgv at *
  have hW : ∃ W, w.alloc (.cells #[.slice A c.W.length k, .int .u64 c.seed, .int .i64 c.epoch, .int .i64 c.num, .int .i64 c.den] 25) = W := ⟨_, rfl⟩
  obtain ⟨W, hW⟩ := hW
  have hB : Below w.heap.size w W := by subst hW; exact (Below.refl _ w).alloc (Nat.le_refl _) _
  have hb : W.heap[w.heap.size]? = some (.cells #[.slice A c.W.length k, .int .u64 c.seed, .int .i64 c.epoch, .int .i64 c.num, .int .i64 c.den] 25 (0, 0)) := by subst hW; exact ha_at rfl
  obtain ⟨c0, c1, c2, c3, c4⟩ := blk5 hb
  by_cases hmc : MayC c
  · rw [decide_eq_true hmc] at hmay
    have he := hmc.2.1
    have he2 := hmc.2.2.1
    by_cases h1 : pct < 0
    · rw [if_neg (fun h => by omega)] at hbo
      have hbo' := Lib.hid hbo
      have g1 : decide (pct < 0) = true := by simpa using h1
      clear hmc hbo
      go_enter Try.func16, Try.ntmps16
      go_wp2_with (go_at_call 37; (with_reducible refine (hmay _ hB).mono ?_); clear hmay; rintro e w1 ⟨rfl, hb1⟩; have hB1 := below_call hB hB.size hb1)
      go_ret
      exact ⟨ret_int hbo'.out.symm, hB1⟩
    · by_cases h2 : 100 < pct
      · rw [if_neg (fun h => by omega)] at hbo
        have hbo' := Lib.hid hbo
        clear hmc hbo
        go_enter Try.func16, Try.ntmps16
        go_wp2_with (go_at_call 37; (with_reducible refine (hmay _ hB).mono ?_); clear hmay; rintro e w1 ⟨rfl, hb1⟩; have hB1 := below_call hB hB.size hb1)
        go_ret
        exact ⟨ret_int hbo'.out.symm, hB1⟩
      · rw [if_pos ⟨hmc, by omega, by omega⟩] at hbo
        obtain ⟨q1, q2, q3, q4, q5, q6⟩ := boost_lemma htb.1 he (show 0 ≤ pct by omega) (show pct ≤ 100 by omega)
        have e1 : t.tdiv c.epoch = t / c.epoch := Int.tdiv_eq_ediv_of_nonneg htb.1
        have e2 : (t / c.epoch * pct).tdiv 100 = t / c.epoch * pct / 100 := Int.tdiv_eq_ediv_of_nonneg q3
        have hz : ¬ c.epoch = 0 := by omega
        have hbo' := Lib.hid hbo
        clear hmc hbo
        go_enter Try.func16, Try.ntmps16
        go_wp2_with (go_at_call 37; (with_reducible refine (hmay _ hB).mono ?_); clear hmay; rintro e w1 ⟨rfl, hb1⟩; have hB1 := below_call hB hB.size hb1; have hb' := bl_own hb1 hb; obtain ⟨d0, d1, d2, d3, d4⟩ := blk5 hb')
        have y0 := gr_cell d0
        have y1 := gr_cell d1
        have y2 := gr_cell d2
        have y3 := gr_cell d3
        have y4 := gr_cell d4
        have htot1 := fun p => htot (gr w1 p) (hB1.trans ((gr_below _ _).mono hB1.size))
        refine wp_region_gr (by kernel_rfl) (by kernel_rfl) ?_
        repeat (go_big_quiet_step ((go_at_call 38; with_reducible exact Calls.gr_of (htot1 _))))
        refine wpQuiet_nil ?_
        rintro _ ⟨pq, rfl⟩
        go_wp2
        go_ret
        exact ⟨ret_int (by rw [hbo'.out]), hB1.trans ((gr_below _ _).mono hB1.size)⟩
  · rw [decide_eq_false hmc] at hmay
    rw [if_neg (fun h => hmc h.1)] at hbo
    have hbo' := Lib.hid hbo
    clear hmc hbo
    go_enter Try.func16, Try.ntmps16
    go_wp2_with (go_at_call 37; (with_reducible refine (hmay _ hB).mono ?_); clear hmay; rintro e w1 ⟨rfl, hb1⟩; have hB1 := below_call hB hB.size hb1)
    go_ret
    exact ⟨ret_int hbo'.out.symm, hB1⟩
end Go.Proofs.Ytibmfpcbjopojaa
/-! The walks of lmd.scale, its closure, and lmd.On. -/
namespace Go.Proofs.Ytibmfpcbjopojaa
open Go.RowKit
/-- What the closure holds. -/
structure ScaleAt (base : Nat) (W : World) (A A2 A4 : Option Addr) (k k2 k4 Bc Bl Bv Bx M : Nat) (c : Cfg) (l : List Blk) (m : List Vote) (mm : List (ID × Int)) : Prop where
  hc : W.heap[Bc]? = some (.cells #[.slice A c.W.length k, .int .u64 c.seed, .int .i64 c.epoch, .int .i64 c.num, .int .i64 c.den] 25 (0, 0))
  hl : W.heap[Bl]? = some (.cells #[.slice A2 l.length k2] 26 (0, 0))
  hv : W.heap[Bv]? = some (.cells #[.slice A4 m.length k4] 27 (0, 0))
  hx : W.heap[Bx]? = some (.cells #[.map (some M)] 91 (0, 0))
  hM : MapIs idv (Value.int .i64) W M mm
  r1 : Rd 1 encI W A c.W
  r2 : Rd 5 encBlk W A2 l
  r4 : Rd 4 encVote W A4 m
  lo : base ≤ Bc ∧ base ≤ Bl ∧ base ≤ Bv ∧ base ≤ Bx ∧ base ≤ M ∧ ∀ a, A4 = some a → base ≤ a.block
theorem ScaleAt.below {base : Nat} {W W' : World} {A A2 A4 : Option Addr} {k k2 k4 Bc Bl Bv Bx M : Nat} {c : Cfg} {l : List Blk} {m : List Vote} {mm : List (ID × Int)} (h : ScaleAt base W A A2 A4 k k2 k4 Bc Bl Bv Bx M c l m mm) (hb : Below W.heap.size W W') : ScaleAt base W' A A2 A4 k k2 k4 Bc Bl Bv Bx M c l m mm :=
  ⟨bl_own hb h.hc, bl_own hb h.hl, bl_own hb h.hv, bl_own hb h.hx, MapIs_below h.hM hb, h.r1.below hb, h.r2.below hb, h.r4.below hb, h.lo⟩
/-- What the map holds. -/
def MoreIs (c : Cfg) (l : List Blk) (bo : ID) (pct : Int) (mm : List (ID × Int)) : Prop := ∀ x, (mget mm x).getD 0 = if bo ≠ zid ∧ x ∈ chain l bo then boostC c pct else 0
set_option maxRecDepth 100000 in
set_option maxHeartbeats 2000000 in
theorem scale1_any {base : Nat} {A A2 A4 : Option Addr} {k k2 k4 Bc Bl Bv Bx M : Nat} {c : Cfg} {l : List Blk} {m : List Vote} {mm : List (ID × Int)} {bo : ID} {pct : Int} (x : ID) (w : World) (h : ScaleAt base w A A2 A4 k k2 k4 Bc Bl Bv Bx M c l m mm) (hmm : MoreIs c l bo pct mm) (hl : l.length ≤ 100000) (hvl : m.length ≤ 100000) :
    Calls Try.prog 72 #[idv x, .pointer (some ⟨Bc, 0, none⟩), .pointer (some ⟨Bl, 0, none⟩), .pointer (some ⟨Bv, 0, none⟩), .pointer (some ⟨Bx, 0, none⟩)] w fun e w' => e = .returned (.int .i64 (lmdW c l m bo pct x)) ∧ Below w.heap.size w w' := by
  have hon := fun V (hV : Below w.heap.size w V) => on_any c l m x A A2 A4 k k2 k4 V (h.below hV).r1 (h.below hV).r2 (h.below hV).r4 hl hvl
  have hob : 0 ≤ onC c l m x ∧ onC c l m x ≤ 13194139533312 := weightC_bd c _
  have hbb := boostC_bd c pct
  have hmx := hmm x
  have hw : lmdW c l m bo pct x = onC c l m x + (mget mm x).getD 0 := by rw [hmx]; rfl
  have hmb : 0 ≤ (mget mm x).getD 0 ∧ (mget mm x).getD 0 ≤ 13194139533312 := by rw [hmx]; split <;> omega
  obtain ⟨n, hn⟩ : ∃ n, onC c l m x = n := ⟨_, rfl⟩
  obtain ⟨q, hq⟩ : ∃ q, (mget mm x).getD 0 = q := ⟨_, rfl⟩
  rw [hn] at hon hob hw
  rw [hq] at hw hmb
  have hw' := Lib.hid hw
  have hr : (if false then Value.tuple #[((mget mm x).map (Value.int .i64)).getD (.int .i64 0), .bool (mget mm x).isSome] else ((mget mm x).map (Value.int .i64)).getD (.int .i64 0)) = .int .i64 q := by
    rw [if_neg (by simp), ← hq]
    cases mget mm x <;> rfl
  clear hw hmx hmm hn hq hbb
  have hW : ∃ W, w.alloc (.cells #[.int .u64 x.hi, .int .u64 x.lo] 29) = W := ⟨_, rfl⟩
  obtain ⟨W, hW⟩ := hW
  have hB : Below w.heap.size w W := by subst hW; exact (Below.refl _ w).alloc (Nat.le_refl _) _
  have b0 : W.heap[w.heap.size]? = some (.cells #[.int .u64 x.hi, .int .u64 x.lo] 29 (0, 0)) := by subst hW; exact ha_at rfl
  have hS := h.below hB
  obtain ⟨c0, c1, c2, c3, c4⟩ := blk5 hS.hc
  obtain ⟨d0, _⟩ := blk1 hS.hl
  obtain ⟨d1, _⟩ := blk1 hS.hv
  obtain ⟨d2, _⟩ := blk1 hS.hx
  obtain ⟨e0, e1, _, _⟩ := blk2 b0
  have y0 := gr_cell c0
  have y1 := gr_cell c1
  have y2 := gr_cell c2
  have y3 := gr_cell c3
  have y4 := gr_cell c4
  have z0 := gr_cell d0
  have z1 := gr_cell d1
  have z2 := gr_cell d2
  have z3 := gr_cell e0
  have z4 := gr_cell e1
  have hon1 := fun p => hon (gr W p) (hB.trans ((gr_below _ _).mono hB.size))
  have hlk : ∀ p : GB, (Instr.lookup 91 (.map (some M)) (.agg #[.int .u64 x.hi, .int .u64 x.lo]) false).run Try.prog (gr W p) = .ok (.int .i64 q) (gr W p) := fun p => by
    have := lookup_run KeyID Try.underlying91 (Try.zeroValue3 (gr W p)) (MapIs_below hS.hM (gr_below W p)) x false
    rw [hr] at this
    exact this
  clear h hS hon c0 c1 c2 c3 c4 d0 d1 d2 e0 e1 hr
  unfold cfgv idv at *
  go_enter Try.func72, Try.ntmps72
  go_wp2_with fail
  refine wp_region_gr (by kernel_rfl) (by kernel_rfl) ?_
  repeat (go_big_quiet_step ((go_at_call 22; with_reducible exact Calls.gr_of (hon1 _))))
  refine wpQuiet_nil ?_
  rintro _ ⟨pq, rfl⟩
  go_wp2
  go_ret
  exact ⟨ret_int hw'.out.symm, hB.trans ((gr_below _ _).mono hB.size)⟩
theorem scale_lay (w1 : World) (A4 : Option Addr) (m : List Vote) (k4 : Nat) : Below w1.heap.size w1 (((w1.alloc (.map #[] 0)).alloc (.cells #[.slice A4 m.length k4] 27)).alloc (.cells #[.map (some w1.heap.size)] 91)) ∧
    MapIs idv (Value.int .i64) (((w1.alloc (.map #[] 0)).alloc (.cells #[.slice A4 m.length k4] 27)).alloc (.cells #[.map (some w1.heap.size)] 91)) w1.heap.size [] ∧
    (((w1.alloc (.map #[] 0)).alloc (.cells #[.slice A4 m.length k4] 27)).alloc (.cells #[.map (some w1.heap.size)] 91)).heap[w1.heap.size + 1]? = some (.cells #[.slice A4 m.length k4] 27 (0, 0)) ∧
    (((w1.alloc (.map #[] 0)).alloc (.cells #[.slice A4 m.length k4] 27)).alloc (.cells #[.map (some w1.heap.size)] 91)).heap[w1.heap.size + 1 + 1]? = some (.cells #[.map (some w1.heap.size)] 91 (0, 0)) :=
  ⟨(((Below.refl _ w1).alloc (Nat.le_refl _) _).alloc (by simp) _).alloc (by simp; omega) _, MapIs_alloc (MapIs_alloc (MapIs_new _ _ (ha_at rfl)) _) _, ha_lt (ha_at (by simp)), ha_at (by simp)⟩
set_option maxRecDepth 100000 in
set_option maxHeartbeats 4000000 in
theorem scale_any (c : Cfg) (l : List Blk) (vs : List Vote) (u : Int) (bo : ID) (pct : Int) (A A2 A3 : Option Addr) (k k2 k3 : Nat) (w : World) (hr : Rd 1 encI w A c.W) (hr2 : Rd 5 encBlk w A2 l) (hr3 : Rd 4 encVote w A3 vs) (hl : l.length ≤ 100000) (hvl : vs.length ≤ 100000) :
    Calls Try.prog 39 #[cfgv A k c, .slice A2 l.length k2, .slice A3 vs.length k3, .int .i64 u, idv bo, .int .i64 pct] w fun e w' => (∃ A4 k4 Bv Bx M mm, e = .returned (.func (.func 72) #[] #[.pointer (some ⟨w.heap.size, 0, none⟩), .pointer (some ⟨w.heap.size + 1, 0, none⟩), .pointer (some ⟨Bv, 0, none⟩), .pointer (some ⟨Bx, 0, none⟩)]) ∧
      ScaleAt w.heap.size w' A A2 A4 k k2 k4 w.heap.size (w.heap.size + 1) Bv Bx M c l (lastL vs u) mm ∧ MoreIs c l bo pct mm) ∧ Below w.heap.size w w' := by
  have hm := hr.1
  have hm2 := hr2.1
  have hm3 := hr3.1
  have hmk := @run_makeMap Try.prog
  have hla := fun V (hV : Below w.heap.size w V) => vlast_any vs u A3 k3 V (hr3.below hV) hvl
  have hch := fun V (hV : Below w.heap.size w V) => chain_any l bo A2 k2 V (hr2.below hV) (fun m h => tree_ahead h) hl
  have hbo := fun V (hV : Below w.heap.size w V) => boost_any c pct A k V (hr.below hV)
  have hchl := chain_bound (l := l) bo
  have hmore : ∀ mm : List (ID × Int), (∀ x, mget mm x = if x ∈ chain l bo then some (boostC c pct) else none) → bo ≠ zid → MoreIs c l bo pct mm := fun mm h hz x => by
    rw [h]
    by_cases hx : x ∈ chain l bo <;> simp [hx, hz]
  have hmore0 : bo = zid → MoreIs c l bo pct [] := fun h x => by simp [h, mget]
  obtain ⟨ch, hce⟩ : ∃ ch, chain l bo = ch := ⟨_, rfl⟩
  obtain ⟨b, hbe⟩ : ∃ b, boostC c pct = b := ⟨_, rfl⟩
  obtain ⟨m, hme⟩ : ∃ m, lastL vs u = m := ⟨_, rfl⟩
  rw [hce] at hch hchl hmore
  rw [hbe] at hbo hmore
  rw [hme] at hla ⊢
  clear hce hbe hme
  have hmore' := Lib.hid hmore
  have hmore0' := Lib.hid hmore0
  clear hmore hmore0
  have nz := neq_idz bo
  unfold cfgv idv at *
  have hW : ∃ W, ((w.alloc (.cells #[.slice A c.W.length k, .int .u64 c.seed, .int .i64 c.epoch, .int .i64 c.num, .int .i64 c.den] 25)).alloc (.cells #[.slice A2 l.length k2] 26)).alloc (.cells #[.int .u64 bo.hi, .int .u64 bo.lo] 29) = W := ⟨_, rfl⟩
  obtain ⟨W, hW⟩ := hW
  have hB : Below w.heap.size w W := by subst hW; exact (((Below.refl _ w).alloc (Nat.le_refl _) _).alloc (by simp) _).alloc (by simp <;> omega) _
  have b0 : W.heap[w.heap.size]? = some (.cells #[.slice A c.W.length k, .int .u64 c.seed, .int .i64 c.epoch, .int .i64 c.num, .int .i64 c.den] 25 (0, 0)) := by subst hW; exact ha_lt (ha_lt (ha_at rfl))
  have b1 : W.heap[w.heap.size + 1]? = some (.cells #[.slice A2 l.length k2] 26 (0, 0)) := by subst hW; exact ha_lt (ha_at (by simp))
  have b2 : W.heap[w.heap.size + 1 + 1]? = some (.cells #[.int .u64 bo.hi, .int .u64 bo.lo] 29 (0, 0)) := by subst hW; exact ha_at (by simp)
  by_cases hz : bo = zid
  · rw [decide_eq_true hz] at nz
    have hmm0 := Lib.hid (hmore0'.out hz)
    clear hz hmore0' hmore'
    go_enter Try.func39, Try.ntmps39
    go_wp2_with (first
      | (go_at_call 21; (with_reducible refine (hla _ hB).mono ?_); clear hla; rintro e w1 ⟨v, rfl, ho, hb1⟩; have hB1 := below_call hB hB.size hb1; obtain ⟨A4, k4, hv, hR⟩ := ho.rd encVote_len; subst hv; have q0 := bl_own hb1 b0; have q1 := bl_own hb1 b1; have q2 := bl_own hb1 b2; have hL := scale_lay w1 A4 m k4; obtain ⟨f0, f1, _, _⟩ := blk2 (bl_own hL.1 q2)))
    go_ret
    refine ⟨⟨A4, k4, _, _, _, [], rfl, ⟨bl_own hL.1 q0, bl_own hL.1 q1, hL.2.2.1, hL.2.2.2, hL.2.1, (hr.below hB1).below hL.1, (hr2.below hB1).below hL.1, hR.below hL.1, ?_⟩, hmm0.out⟩, below_call hB1 hB1.size hL.1⟩
    have := hB1.size
    have hA4 : ∀ a, A4 = some a → W.heap.size ≤ a.block ∧ a.block < w1.heap.size := fun a e => ho.base a.block (by subst e; rfl)
    have := lt_of_block b0
    refine ⟨Nat.le_refl _, by omega, by omega, by omega, by omega, fun a e => by have := hA4 a e; omega⟩
  · rw [decide_eq_false hz] at nz
    have hmore2 := Lib.hid (fun mm h => hmore'.out mm h hz)
    clear hz hmore0' hmore'
    go_enter Try.func39, Try.ntmps39
    go_wp2_with (first
      | (go_at_call 21; (with_reducible refine (hla _ hB).mono ?_); clear hla; rintro e w1 ⟨v, rfl, ho, hb1⟩; have hB1 := below_call hB hB.size hb1; obtain ⟨A4, k4, hv, hR⟩ := ho.rd encVote_len; subst hv; have q0 := bl_own hb1 b0; have q1 := bl_own hb1 b1; have q2 := bl_own hb1 b2; have hL := scale_lay w1 A4 m k4; obtain ⟨f0, f1, _, _⟩ := blk2 (bl_own hL.1 q2); obtain ⟨f2, _⟩ := blk1 (bl_own hL.1 q1); have hB2 := below_call hB1 hB1.size hL.1)
      | (go_at_call 25; (with_reducible refine (hch _ hB2).mono ?_); clear hch; rintro e w3 ⟨v, rfl, ho3, hb3⟩; have hB3 := below_call hB2 hB2.size hb3; obtain ⟨A5, k5, hv, hR5⟩ := ho3.rd encID_len; subst hv; have p0 := bl_own hb3 (bl_own hL.1 q0); have p1 := bl_own hb3 (bl_own hL.1 q1); have pM := MapIs_below hL.2.1 hb3; have pv := bl_own hb3 hL.2.2.1; have px := bl_own hb3 hL.2.2.2; have hR4 := (hR.below hL.1).below hb3))
    have hA4 : ∀ a, A4 = some a → W.heap.size ≤ a.block ∧ a.block < w1.heap.size := fun a e => ho.base a.block (by subst e; rfl)
    have hA5 : ∀ a, A5 = some a → w1.heap.size < a.block := fun a e => by
      have := (ho3.base a.block (by subst e; rfl)).1
      have h2 : (((w1.alloc (.map #[] 0)).alloc (.cells #[.slice A4 m.length k4] 27)).alloc (.cells #[.map (some w1.heap.size)] 91)).heap.size = w1.heap.size + 1 + 1 + 1 := by simp
      omega
    have hs1 := hB1.size
    have hW0 := lt_of_block b0
    have hW1 := lt_of_block b1
    have hWs := hb1.size
    have hlp := lt_of_block px
    clear hb1 hb3 ho ho3 hL f0 f1 f2 q0 q1 q2 hB1 hB2 hR b0 b1 b2 hW hB
    go_loopw [16, 28] (fun _v16 i wr => ∃ (j : Nat) (mm : List (ID × Int)), j ≤ ch.length ∧ i = .int .i64 j ∧ MapIs idv (Value.int .i64) wr w1.heap.size mm ∧ Hid (∀ x, mget mm x = if x ∈ ch.take j then some b else none) ∧ w3.grownBy wr (some w1.heap.size)) (fun _ i _ => ch.length - (intOf i).toNat)
    case atStart => exact ⟨0, [], Nat.zero_le _, rfl, pM, Lib.hid (by simp [mget]), grown_below (Below.refl _ _) _⟩
    case round =>
      obtain ⟨j, mm, hj, rfl, hM, hmm, hG⟩ := hrel
      have hBr := below_step hB3 hB3.size hG (fun k e => by cases e; omega)
      have x0 := grown_own hG p0 (by simp; omega)
      have xx := grown_own hG px (by simp <;> omega)
      have hRr := hR5.grown hG (fun a e => by have := hA5 a e; simp; omega)
      by_cases hlt : j < ch.length
      · obtain ⟨b', o, rfl, hbo2, d0, d1⟩ := hRr.atID hlt
        have hst : ∀ y, mget (mput mm ch[j] b) y = if y ∈ ch.take (j + 1) then some b else none := fun y => by
          rw [mget_mput, hmm.out, ← List.take_append_getElem hlt]
          simp only [List.mem_append, List.mem_singleton]
          by_cases h1 : ch[j] = y
          · simp [h1]
          · have : ¬ y = ch[j] := fun e => h1 e.symm
            simp [h1, this]
        obtain ⟨x, hx⟩ : ∃ x, ch[j] = x := ⟨_, rfl⟩
        rw [hx] at d0 d1 hst
        have hst' := Lib.hid hst
        clear hst hx
        have hl2 : Below wr.heap.size wr (wr.alloc (.cells #[.int .u64 x.hi, .int .u64 x.lo] 29)) := (Below.refl _ wr).alloc (Nat.le_refl _) _
        have z0 := bl_own hl2 x0
        have zx := bl_own hl2 xx
        have zM := MapIs_below hM hl2
        have zk : (wr.alloc (.cells #[.int .u64 x.hi, .int .u64 x.lo] 29)).heap[wr.heap.size]? = some (.cells #[.int .u64 x.hi, .int .u64 x.lo] 29 (0, 0)) := ha_at rfl
        have hB2 := below_call hBr hBr.size hl2
        have hG2 := grown_trans hG (grown_below hl2 _)
        go_wp2_with fail
        generalize wr.alloc (.cells #[.int .u64 x.hi, .int .u64 x.lo] 29) = w2 at hl2 z0 zx zM zk hB2 hG2 ⊢
        obtain ⟨c0, c1, c2, c3, c4⟩ := blk5 z0
        obtain ⟨e0, e1, _, _⟩ := blk2 zk
        obtain ⟨e2, _⟩ := blk1 zx
        have y0 := gr_cell c0
        have y1 := gr_cell c1
        have y2 := gr_cell c2
        have y3 := gr_cell c3
        have y4 := gr_cell c4
        have y5 := gr_cell e0
        have y6 := gr_cell e1
        have y7 := gr_cell e2
        have hbo1 := fun p => hbo (gr w2 p) (hB2.trans ((gr_below _ _).mono hB2.size))
        clear c0 c1 c2 c3 c4 e0 e1 e2 d0 d1
        refine wp_region_gr_tail 5 (by kernel_rfl) (by kernel_rfl) ?_
        simp only [List.take_succ_cons, List.take_zero, List.drop_succ_cons, List.drop_zero]
        repeat (go_big_quiet_step ((go_at_call 15; with_reducible exact Calls.gr_of (hbo1 _))))
        refine wpQuiet_nil ?_
        intro pq
        have hg := gr_below w2 pq
        generalize gr w2 pq = w4 at hg ⊢
        clear y0 y1 y2 y3 y4 y5 y6 y7 hbo1
        have hM4 := MapIs_below zM hg
        have hG4 := grown_trans hG2 (grown_below hg _)
        go_wp2_with (at_mapUpdate; refine wp_update rfl (.inl rfl) KeyID Try.underlying91 rfl (x := x) rfl (v := b) rfl hM4 ?_; intro w5 hM5 hg5 hz5)
        go_roundw
        case rel => exact ⟨j + 1, _, hlt, by go_num, hM5, hst', grown_trans hG4 hg5⟩
        case measure => simp [intOf]; omega
      · obtain rfl : j = ch.length := by omega
        rw [List.take_length] at hmm
        go_wp2_with fail
        go_ret
        have hR4r := hR4.grown hG (fun a e => by have := hA4 a e; simp; omega)
        refine ⟨⟨A4, k4, _, _, _, mm, rfl, ⟨x0, grown_own hG p1 (by simp; omega), grown_own hG pv (by simp <;> omega), xx, hM, hr.below hBr, hr2.below hBr, hR4r, ?_⟩, hmore2.out mm hmm.out⟩, hBr⟩
        refine ⟨Nat.le_refl _, by omega, by omega, by omega, by omega, fun a e => by have := hA4 a e; omega⟩
end Go.Proofs.Ytibmfpcbjopojaa
/-! The walks of lmd.On and lmd.Head. -/
namespace Go.Proofs.Ytibmfpcbjopojaa
open Go.RowKit
set_option maxRecDepth 100000 in
set_option maxHeartbeats 4000000 in
theorem lon_any (c : Cfg) (l : List Blk) (vs : List Vote) (u : Int) (bo : ID) (pct : Int) (x : ID) (A A2 A3 : Option Addr) (k k2 k3 : Nat) (w : World) (hr : Rd 1 encI w A c.W) (hr2 : Rd 5 encBlk w A2 l) (hr3 : Rd 4 encVote w A3 vs) (hl : l.length ≤ 100000) (hvl : vs.length ≤ 100000) :
    Calls Try.prog 17 #[cfgv A k c, .slice A2 l.length k2, .slice A3 vs.length k3, .int .i64 u, idv bo, .int .i64 pct, idv x] w fun e w' => e = .returned (.int .i64 (lmdW c l (lastL vs u) bo pct x)) ∧ Below w.heap.size w w' := by
  have hm := hr.1
  have hm2 := hr2.1
  have hm3 := hr3.1
  have hll := lastL_len vs u
  have hsc := fun V (hV : Below w.heap.size w V) => scale_any c l vs u bo pct A A2 A3 k k2 k3 V (hr.below hV) (hr2.below hV) (hr3.below hV) hl hvl
  have hon := fun (A4 : Option Addr) k4 Bc Bl Bv Bx M mm base V h1 h2 => scale1_any (A := A) (A2 := A2) (A4 := A4) (k := k) (k2 := k2) (k4 := k4) (Bc := Bc) (Bl := Bl) (Bv := Bv) (Bx := Bx) (M := M) (c := c) (l := l) (m := lastL vs u) (mm := mm) (bo := bo) (pct := pct) (base := base) x V h1 h2 hl (by omega)
  obtain ⟨r, hrr⟩ : ∃ r, lmdW c l (lastL vs u) bo pct x = r := ⟨_, rfl⟩
  rw [hrr] at hon ⊢
  clear hrr hll
  unfold cfgv idv at *
  have hW : ∃ W, ((w.alloc (.cells #[.slice A c.W.length k, .int .u64 c.seed, .int .i64 c.epoch, .int .i64 c.num, .int .i64 c.den] 25)).alloc (.cells #[.int .u64 bo.hi, .int .u64 bo.lo] 29)).alloc (.cells #[.int .u64 x.hi, .int .u64 x.lo] 29) = W := ⟨_, rfl⟩
  obtain ⟨W, hW⟩ := hW
  have hB : Below w.heap.size w W := by subst hW; exact (((Below.refl _ w).alloc (Nat.le_refl _) _).alloc (by simp) _).alloc (by simp <;> omega) _
  have b0 : W.heap[w.heap.size]? = some (.cells #[.slice A c.W.length k, .int .u64 c.seed, .int .i64 c.epoch, .int .i64 c.num, .int .i64 c.den] 25 (0, 0)) := by subst hW; exact ha_lt (ha_lt (ha_at rfl))
  have b1 : W.heap[w.heap.size + 1]? = some (.cells #[.int .u64 bo.hi, .int .u64 bo.lo] 29 (0, 0)) := by subst hW; exact ha_lt (ha_at (by simp))
  have b2 : W.heap[w.heap.size + 1 + 1]? = some (.cells #[.int .u64 x.hi, .int .u64 x.lo] 29 (0, 0)) := by subst hW; exact ha_at (by simp)
  obtain ⟨c0, c1, c2, c3, c4⟩ := blk5 b0
  obtain ⟨c5, c6, _, _⟩ := blk2 b1
  obtain ⟨c7, c8, _, _⟩ := blk2 b2
  go_enter Try.func17, Try.ntmps17
  go_wp2_with fail
  go_region_held3 (fun W' => W'.cell? ⟨w.heap.size, 0, none⟩ = some (.slice A c.W.length k) ∧ W'.cell? ⟨w.heap.size, 1, none⟩ = some (.int .u64 c.seed) ∧ W'.cell? ⟨w.heap.size, 2, none⟩ = some (.int .i64 c.epoch) ∧ W'.cell? ⟨w.heap.size, 3, none⟩ = some (.int .i64 c.num) ∧ W'.cell? ⟨w.heap.size, 4, none⟩ = some (.int .i64 c.den) ∧
      W'.cell? ⟨w.heap.size + 1, 0, none⟩ = some (.int .u64 bo.hi) ∧ W'.cell? ⟨w.heap.size + 1, 1, none⟩ = some (.int .u64 bo.lo) ∧ W'.cell? ⟨w.heap.size + 1 + 1, 0, none⟩ = some (.int .u64 x.hi) ∧ W'.cell? ⟨w.heap.size + 1 + 1, 1, none⟩ = some (.int .u64 x.lo))
    (first | exact ⟨c0, c1, c2, c3, c4, c5, c6, c7, c8⟩ | exact ⟨d0, d1, d2, d3, d4, d5, d6, d7, d8⟩ | exact ⟨e0, e1, e2, e3, e4, e5, e6, e7, e8⟩) ((first
    | (go_at_call 39; refine (hsc _ hB.drew).mono ?_; rintro e w1 ⟨⟨A4, k4, Bv, Bx, M, mm, rfl, hS, hmm⟩, hb1⟩; have hB1 := below_call hB.drew hB.size hb1; have b0' := bl_own hb1 b0; obtain ⟨d0, d1, d2, d3, d4⟩ := blk5 b0'; have b1' := bl_own hb1 b1; obtain ⟨d5, d6, _, _⟩ := blk2 b1'; have b2' := bl_own hb1 b2; obtain ⟨d7, d8, _, _⟩ := blk2 b2')
    | (go_at_call 72; refine (hon _ _ _ _ _ _ _ _ _ _ hS hmm).mono ?_; rintro e w2 ⟨rfl, hb2⟩; have hB2 := below_call hB1 hB1.size hb2; obtain ⟨e0, e1, e2, e3, e4⟩ := blk5 (bl_own hb2 b0'); obtain ⟨e5, e6, _, _⟩ := blk2 (bl_own hb2 b1'); obtain ⟨e7, e8, _, _⟩ := blk2 (bl_own hb2 b2'))))
  go_wp2
  go_ret
  exact ⟨rfl, hB2⟩
end Go.Proofs.Ytibmfpcbjopojaa
/-! The walk of lmd.Head. -/
namespace Go.Proofs.Ytibmfpcbjopojaa
open Go.RowKit
/-- A store into a block that lies below all that the closure holds. -/
theorem ScaleAt.set {base R : Nat} {W W' : World} {A A2 A4 : Option Addr} {k k2 k4 Bc Bl Bv Bx M : Nat} {c : Cfg} {l : List Blk} {m : List Vote} {mm : List (ID × Int)} (h : ScaleAt base W A A2 A4 k k2 k4 Bc Bl Bv Bx M c l m mm) (hg : W.grownBy W' (some R)) (hR : R < base) (h1 : Rd 1 encI W' A c.W) (h2 : Rd 5 encBlk W' A2 l) : ScaleAt base W' A A2 A4 k k2 k4 Bc Bl Bv Bx M c l m mm := by
  obtain ⟨l1, l2, l3, l4, l5, l6⟩ := h.lo
  exact ⟨grown_own hg h.hc (by simp; omega), grown_own hg h.hl (by simp; omega), grown_own hg h.hv (by simp; omega), grown_own hg h.hx (by simp; omega), MapIs_grown h.hM hg (by simp; omega), h1, h2, h.r4.grown hg (fun a e => by have := l6 a e; simp; omega), h.lo⟩
theorem best_take {f : ID → Int} {ks : List ID} {k0 : ID} {j : Nat} (hlt : j < ks.length) : (ks.take (j + 1)).foldl (pick f) k0 = pick f ((ks.take j).foldl (pick f) k0) ks[j] := by
  rw [← List.take_append_getElem hlt, List.foldl_append]
  rfl
set_option maxRecDepth 100000 in
set_option maxHeartbeats 8000000 in
theorem lhead_any (c : Cfg) (l : List Blk) (vs : List Vote) (u : Int) (bo : ID) (pct : Int) (A A2 A3 : Option Addr) (k k2 k3 : Nat) (w : World) (hr : Rd 1 encI w A c.W) (hr2 : Rd 5 encBlk w A2 l) (hr3 : Rd 4 encVote w A3 vs) (hl : l.length ≤ 100000) (hvl : vs.length ≤ 100000) :
    Calls Try.prog 18 #[cfgv A k c, .slice A2 l.length k2, .slice A3 vs.length k3, .int .i64 u, idv bo, .int .i64 pct] w fun e w' => e = .returned (idv (lmdHead c l (lastL vs u) bo pct)) ∧ Below w.heap.size w w' := by
  have hm := hr.1
  have hm2 := hr2.1
  have hm3 := hr3.1
  have hll := lastL_len vs u
  have hsc := fun V (hV : Below w.heap.size w V) => scale_any c l vs u bo pct A A2 A3 k k2 k3 V (hr.below hV) (hr2.below hV) (hr3.below hV) hl hvl
  have hon := fun (A4 : Option Addr) k4 Bc Bl Bv Bx M mm base x V h1 h2 => scale1_any (A := A) (A2 := A2) (A4 := A4) (k := k) (k2 := k2) (k4 := k4) (Bc := Bc) (Bl := Bl) (Bv := Bv) (Bx := Bx) (M := M) (c := c) (l := l) (m := lastL vs u) (mm := mm) (bo := bo) (pct := pct) (base := base) x V h1 h2 hl (by omega)
  have hki := fun V x (hV : Below w.heap.size w V) => kids_any l x A2 k2 V (hr2.below hV) hl
  have hless := fun x y V => mless_any x y V
  have hkl : ∀ x, (kids l x).length ≤ l.length := fun x => by
    unfold kids
    split
    · exact kidsOf_len l x
    · simp
  unfold lmdHead
  have hbd : ∀ x, 0 ≤ lmdW c l (lastL vs u) bo pct x ∧ lmdW c l (lastL vs u) bo pct x ≤ 26388279066624 := fun x => by
    have h1 := lmdW_bd c l (lastL vs u) bo pct x
    have h2 : 0 ≤ onC c l (lastL vs u) x ∧ onC c l (lastL vs u) x ≤ 13194139533312 := weightC_bd c _
    have h3 := boostC_bd c pct
    omega
  obtain ⟨f, hf⟩ : ∃ f, lmdW c l (lastL vs u) bo pct = f := ⟨_, rfl⟩
  obtain ⟨m, hme⟩ : ∃ m, lastL vs u = m := ⟨_, rfl⟩
  simp only [hf] at hon hbd ⊢
  simp only [hme] at hsc hon
  clear hf hll hme
  have hgo0 := Lib.hid (show headGo l f (l.length - 0) zid = headBy l f by rfl)
  have hbd' := Lib.hid hbd
  have hkl' := Lib.hid hkl
  have hon' := Lib.hid hon
  have hki' := Lib.hid hki
  clear hbd hkl hon hki
  obtain ⟨r, hrr⟩ : ∃ r, headBy l f = r := ⟨_, rfl⟩
  rw [hrr] at hgo0 ⊢
  clear hrr
  unfold cfgv idv at *
  have hW : ∃ W, ((w.alloc (.cells #[.slice A c.W.length k, .int .u64 c.seed, .int .i64 c.epoch, .int .i64 c.num, .int .i64 c.den] 25)).alloc (.cells #[.int .u64 bo.hi, .int .u64 bo.lo] 29)).alloc (.cells #[.int .u64 0, .int .u64 0] 29) = W := ⟨_, rfl⟩
  obtain ⟨W, hW⟩ := hW
  have hB : Below w.heap.size w W := by subst hW; exact (((Below.refl _ w).alloc (Nat.le_refl _) _).alloc (by simp) _).alloc (by simp <;> omega) _
  have b0 : W.heap[w.heap.size]? = some (.cells #[.slice A c.W.length k, .int .u64 c.seed, .int .i64 c.epoch, .int .i64 c.num, .int .i64 c.den] 25 (0, 0)) := by subst hW; exact ha_lt (ha_lt (ha_at rfl))
  have b1 : W.heap[w.heap.size + 1]? = some (.cells #[.int .u64 bo.hi, .int .u64 bo.lo] 29 (0, 0)) := by subst hW; exact ha_lt (ha_at (by simp))
  have b2 : W.heap[w.heap.size + 1 + 1]? = some (.cells #[.int .u64 0, .int .u64 0] 29 (0, 0)) := by subst hW; exact ha_at (by simp)
  obtain ⟨c0, c1, c2, c3, c4⟩ := blk5 b0
  obtain ⟨c5, c6, _, _⟩ := blk2 b1
  have hWs := lt_of_block b2
  go_enter Try.func18, Try.ntmps18
  go_wp2_with (go_at_call 39; (with_reducible refine (hsc _ hB).mono ?_); clear hsc; rintro e w1 ⟨⟨A4, k4, Bv, Bx, M, mm, rfl, hS, hmm⟩, hb1⟩; have hB1 := below_call hB hB.size hb1; have q2 := bl_own hb1 b2)
  have hon2 := Lib.hid (fun x V hS' => hon'.out A4 k4 W.heap.size (W.heap.size + 1) Bv Bx M mm W.heap.size x V hS' hmm)
  clear hb1 b0 b1 b2 c0 c1 c2 c3 c4 c5 c6 hon' hW hB
  go_loopw [14, 15, 16, 17, 18, 19, 29] (fun _v14 _v15 _v16 _v17 _v18 _v19 i wr => ∃ (j : Nat) (x : ID), j ≤ l.length ∧ i = .int .i64 j ∧ Hid (headGo l f (l.length - j) x = r) ∧ wr.heap[w.heap.size + 1 + 1]? = some (.cells #[.int .u64 x.hi, .int .u64 x.lo] 29 (0, 0)) ∧ ScaleAt W.heap.size wr A A2 A4 k k2 k4 W.heap.size (W.heap.size + 1) Bv Bx M c l m mm ∧ Below w.heap.size w wr) (fun _ _ _ _ _ _ i _ => l.length - (intOf i).toNat)
  case atStart => exact ⟨0, zid, Nat.zero_le _, rfl, hgo0, q2, hS, hB1⟩
  case round =>
    obtain ⟨j, x, hj, rfl, hgo, hbx, hSr, hBr⟩ := hrel
    obtain ⟨x0, x1, g0, g1⟩ := blk2 hbx
    by_cases hlt : j < l.length
    · have hkx := hkl'.out x
      have hkix := fun V hV => hki'.out V x hV
      cases hks : kids l x with
      | nil =>
        rw [hks] at hkix
        have hfin := Lib.hid (show x = r by rw [← hgo.out, headGo_nil hks])
        clear hks hkx
        go_wp2_with (go_at_call 40; (with_reducible refine (hkix _ hBr).mono ?_); clear hkix; rintro e w2 ⟨v, rfl, ho, hb2⟩; have hB2 := below_call hBr hBr.size hb2; obtain ⟨A5, k5, hv, hR5⟩ := ho.rd encID_len; subst hv; have y2 := bl_own hb2 hbx; obtain ⟨z0, z1, z2, z3⟩ := blk2 y2)
        obtain ⟨k1, kk2⟩ := set2 y2 (.int .u64 x.hi) (.int .u64 x.lo)
        obtain ⟨m0, m1, _, _⟩ := blk2 k1
        refine bodyPost_ret (v := .agg #[.int .u64 x.hi, .int .u64 x.lo]) ?_ rfl ⟨?_, ?_⟩
        · simp [results, Try.results18, go_sem, m0, m1]
        · rw [hfin.out]
        · exact below_step hB2 hB2.size kk2 (fun k e => by cases e; omega)
      | cons k0 ks =>
        rw [hks] at hkix hkx
        have hstep := Lib.hid (show headGo l f (l.length - (j + 1)) (ks.foldl (pick f) k0) = r by
          rw [← hgo.out, show l.length - j = (l.length - (j + 1)) + 1 by omega, headGo_cons hks])
        clear hks
        simp only [List.length_cons] at hkx
        have hfx := hbd'.out k0
        go_wp2_with (go_at_call 40; (with_reducible refine (hkix _ hBr).mono ?_); clear hkix; rintro e w2 ⟨v, rfl, ho, hb2⟩; have hB2 := below_call hBr hBr.size hb2; obtain ⟨A5, k5, hv, hR5⟩ := ho.rd encID_len; subst hv; have y2 := bl_own hb2 hbx; have hS2 := hSr.below hb2; obtain ⟨b', o, hAe, hbo, d0, d1⟩ := hR5.atID (i := 0) (by simp); subst hAe)
        simp only [Nat.zero_mul, Nat.add_zero, List.getElem_cons_zero] at d0 d1
        have hlen0 : 0 < ks.length + 1 := by omega
        obtain ⟨n0, hn0⟩ : ∃ n0, f k0 = n0 := ⟨_, rfl⟩
        have honk := fun V (hV : Below w2.heap.size w2 V) => hon2.out k0 V (hS2.below hV)
        rw [hn0] at honk
        go_region_held3 (fun W' => W'.cell? ⟨b', o, none⟩ = some (.int .u64 k0.hi) ∧ W'.cell? ⟨b', o + 1, none⟩ = some (.int .u64 k0.lo))
          (first | exact ⟨d0, d1⟩ | exact ⟨e0, e1⟩ | exact ⟨s0, s1⟩ | exact ⟨(((Below.refl _ w2).alloc (Nat.le_refl _) _).cell (p := ⟨b', _, none⟩) hbo).trans d0, (((Below.refl _ w2).alloc (Nat.le_refl _) _).cell (p := ⟨b', _, none⟩) hbo).trans d1⟩ | go_keep) ((first
            | (go_at_call 72; refine (honk _ (Below.refl _ w2).drew).mono ?_; rintro e w3 ⟨rfl, hb3⟩; have e0 := (hb3.cell (p := ⟨b', _, none⟩) hbo).trans d0; have e1 := (hb3.cell (p := ⟨b', _, none⟩) hbo).trans d1)
            | (go_at_call 72; refine (honk _ (((Below.refl _ w2).alloc (Nat.le_refl _) _).drew)).mono ?_; rintro e w3 ⟨rfl, hb3⟩; have hz3 := bl_own hb3 (ha_at (w := w2) (o := .cells #[.int .u64 0, .int .u64 0] 29) (k := w2.heap.size) rfl); obtain ⟨i0, i1, j0, j1⟩ := blk2 hz3; have e0 := (hb3.cell (p := ⟨b', _, none⟩) (by simp; omega)).trans ((((Below.refl w2.heap.size w2).alloc (Nat.le_refl _) (.cells #[.int .u64 0, .int .u64 0] 29)).cell (p := ⟨b', _, none⟩) hbo).trans d0); have e1 := (hb3.cell (p := ⟨b', _, none⟩) (by simp; omega)).trans ((((Below.refl w2.heap.size w2).alloc (Nat.le_refl _) (.cells #[.int .u64 0, .int .u64 0] 29)).cell (p := ⟨b', _, none⟩) hbo).trans d1); have hset := set2 hz3 (.int .u64 k0.hi) (.int .u64 k0.lo); have hlz := lt_of_block hz3; have s0 := grown_cell hset.2 (show b' < w3.heap.size by omega) (by simp; omega) e0; have s1 := grown_cell hset.2 (show b' < w3.heap.size by omega) (by simp; omega) e1)))
        · have hfin4 : Below w2.heap.size w2 (w3.alloc (.cells #[.int .u64 k0.hi, .int .u64 k0.lo] 29)) ∧ (w3.alloc (.cells #[.int .u64 k0.hi, .int .u64 k0.lo] 29)).heap[w3.heap.size]? = some (.cells #[.int .u64 k0.hi, .int .u64 k0.lo] 29 (0, 0)) ∧ w2.heap.size ≤ w3.heap.size := ⟨below_call (below_call (Below.refl _ w2).drew (Nat.le_refl _) hb3) hb3.size ((Below.refl _ w3).alloc (Nat.le_refl _) _), ha_at rfl, hb3.size⟩
          generalize w3.alloc (.cells #[.int .u64 k0.hi, .int .u64 k0.lo] 29) = w4 at hfin4 ⊢
          generalize w3.heap.size = g at hfin4 ⊢
          clear hb3 e0 e1
          obtain ⟨hg, vb, hgl⟩ := hfin4
          have hg0 : w.heap.size + 1 + 1 < g := Nat.lt_of_lt_of_le (lt_of_block y2) hgl
          clear d0 d1 hbx x0 x1 g0 g1 hSr honk
          go_wp2_with fail
          go_loopw [16, 17, 18, 19, 48] (fun q _v17 _v18 _v19 i wr => ∃ (jj : Nat) (bb : ID), jj ≤ ks.length ∧ i = .int .i64 jj ∧ Hid (bb = (ks.take jj).foldl (pick f) k0) ∧ q = .int .i64 (f bb) ∧ wr.heap[g]? = some (.cells #[.int .u64 bb.hi, .int .u64 bb.lo] 29 (0, 0)) ∧ Below w2.heap.size w2 wr) (fun _ _ _ _ i _ => ks.length - (intOf i).toNat)
          case atStart => exact ⟨0, k0, Nat.zero_le _, rfl, Lib.hid rfl, by rw [hn0], vb, hg⟩
          case round =>
            obtain ⟨jj, bb, hjj, rfl, hbb, rfl, hbk, hG⟩ := hrel
            have hBr5 := below_call hB2 hB2.size hG
            have u2 := bl_own hG y2
            have hS6 := hS2.below hG
            obtain ⟨p0, p1, fp0, fp1⟩ := blk2 hbk
            have hgb2 := lt_of_block hbk
            clear vb hg hfx hn0
            by_cases hlt2 : jj < ks.length
            · obtain ⟨b2, o2, hAe, hbo2, e0, e1⟩ := (hR5.below hG).atID (i := jj + 1) (by simp; omega)
              cases hAe
              simp only [List.getElem_cons_succ] at e0 e1
              have hsn := Lib.hid (show pick f bb ks[jj] = (ks.take (jj + 1)).foldl (pick f) k0 by rw [best_take hlt2, ← hbb.out])
              obtain ⟨x2, hx2⟩ : ∃ x2, ks[jj] = x2 := ⟨_, rfl⟩
              rw [hx2] at e0 e1 hsn
              clear hx2
              have hl6 : Below wr.heap.size wr (wr.alloc (.cells #[.int .u64 x2.hi, .int .u64 x2.lo] 29)) := (Below.refl _ wr).alloc (Nat.le_refl _) _
              have hS7 := hS6.below hl6
              have vk := bl_own hl6 hbk
              have vx : (wr.alloc (.cells #[.int .u64 x2.hi, .int .u64 x2.lo] 29)).heap[wr.heap.size]? = some (.cells #[.int .u64 x2.hi, .int .u64 x2.lo] 29 (0, 0)) := ha_at rfl
              have hG7 := below_call hG hG.size hl6
              have hB7 := below_call hB2 hB2.size hG7
              obtain ⟨r0, r1, _, _⟩ := blk2 vx
              have honx := hon2.out x2 _ hS7
              have hlessx := fun V => hless bb x2 V
              have hpk : ∀ b, beats f bb x2 = b → pick f bb x2 = if b then x2 else bb := fun b e => by unfold pick; rw [e]
              have hbe : beats f bb x2 = (decide (f bb < f x2) || decide (f x2 = f bb) && idLess bb x2) := rfl
              have hfbx := hbd'.out x2
              have hfbb := hbd'.out bb
              obtain ⟨n2, hn2⟩ : ∃ n2, f x2 = n2 := ⟨_, rfl⟩
              obtain ⟨nb, hnb⟩ : ∃ nb, f bb = nb := ⟨_, rfl⟩
              obtain ⟨ls, hls⟩ : ∃ ls, idLess bb x2 = ls := ⟨_, rfl⟩
              rw [hn2] at honx hbe hfbx
              rw [hnb] at hbe hfbb
              rw [hls] at hlessx hbe
              rw [hnb]
              have hn2' := Lib.hid hn2
              have hnb' := Lib.hid hnb
              clear hn2 hnb hls
              have hidx : (0 : Int) ≤ (jj : Int) := by omega
              by_cases h1 : nb < n2
              · have hp := Lib.hid ((hpk true (by rw [hbe]; simp [h1])).trans (if_pos rfl))
                clear hpk hbe
                go_wp2_with (first
                  | (go_at_call 72; (with_reducible refine honx.mono ?_); clear honx; rintro e w5 ⟨rfl, hb5⟩; have hG8 := below_call hG7 hG7.size hb5; have vk8 := bl_own hb5 vk; obtain ⟨s0, s1, s2, s3⟩ := blk2 vk8; obtain ⟨t0, t1, _, _⟩ := blk2 (bl_own hb5 vx)))
                obtain ⟨kk1, kk2⟩ := set2 vk8 (.int .u64 x2.hi) (.int .u64 x2.lo)
                go_roundw
                case rel => exact ⟨jj + 1, x2, hlt2, by go_num, Lib.hid (by rw [← hsn.out, hp.out]), by rw [hn2'.out], kk1, below_step hG8 hG8.size kk2 (fun k e => by cases e; omega)⟩
                case measure => simp [intOf]; omega
              · by_cases h2 : n2 = nb
                · have h2' : (n2 == nb) = true := by simpa using h2
                  cases ls with
                  | true =>
                    have hp := Lib.hid ((hpk true (by rw [hbe]; simp [h2])).trans (if_pos rfl))
                    clear hpk hbe h2
                    go_wp2_with (first
                      | (go_at_call 72; (with_reducible refine honx.mono ?_); clear honx; rintro e w5 ⟨rfl, hb5⟩; have hG8 := below_call hG7 hG7.size hb5; have vk8 := bl_own hb5 vk; have vx8 := bl_own hb5 vx; obtain ⟨s0, s1, s2, s3⟩ := blk2 vk8; obtain ⟨t0, t1, _, _⟩ := blk2 vx8)
                      | (go_at_call 41; (with_reducible refine (hlessx _).mono ?_); clear hlessx; rintro e w6 ⟨rfl, hb6⟩; have hG9 := below_call hG8 hG8.size hb6; have vk9 := bl_own hb6 vk8; obtain ⟨m0, m1, m2, m3⟩ := blk2 vk9; obtain ⟨z0, z1, _, _⟩ := blk2 (bl_own hb6 vx8)))
                    obtain ⟨kk1, kk2⟩ := set2 vk9 (.int .u64 x2.hi) (.int .u64 x2.lo)
                    go_roundw
                    case rel => exact ⟨jj + 1, x2, hlt2, by go_num, Lib.hid (by rw [← hsn.out, hp.out]), by rw [hn2'.out], kk1, below_step hG9 hG9.size kk2 (fun k e => by cases e; omega)⟩
                    case measure => simp [intOf]; omega
                  | false =>
                    have hp := Lib.hid ((hpk false (by rw [hbe]; simp [h1])).trans (if_neg (by simp)))
                    clear hpk hbe h2
                    go_wp2_with (first
                      | (go_at_call 72; (with_reducible refine honx.mono ?_); clear honx; rintro e w5 ⟨rfl, hb5⟩; have hG8 := below_call hG7 hG7.size hb5; have vk8 := bl_own hb5 vk; have vx8 := bl_own hb5 vx; obtain ⟨s0, s1, s2, s3⟩ := blk2 vk8; obtain ⟨t0, t1, _, _⟩ := blk2 vx8)
                      | (go_at_call 41; (with_reducible refine (hlessx _).mono ?_); clear hlessx; rintro e w6 ⟨rfl, hb6⟩; have hG9 := below_call hG8 hG8.size hb6; have vk9 := bl_own hb6 vk8))
                    go_roundw
                    case rel => exact ⟨jj + 1, bb, hlt2, by go_num, Lib.hid (by rw [← hsn.out, hp.out]), by rw [hnb'.out], vk9, hG9⟩
                    case measure => simp [intOf]; omega
                · have hp := Lib.hid ((hpk false (by rw [hbe]; simp [h1, h2])).trans (if_neg (by simp)))
                  have h2' : (n2 == nb) = false := by simpa using h2
                  clear hpk hbe h2
                  go_wp2_with (first
                    | (go_at_call 72; (with_reducible refine honx.mono ?_); clear honx; rintro e w5 ⟨rfl, hb5⟩; have hG8 := below_call hG7 hG7.size hb5; have vk8 := bl_own hb5 vk; obtain ⟨s0, s1, s2, s3⟩ := blk2 vk8; obtain ⟨t0, t1, _, _⟩ := blk2 (bl_own hb5 vx)))
                  go_roundw
                  case rel => exact ⟨jj + 1, bb, hlt2, by go_num, Lib.hid (by rw [← hsn.out, hp.out]), by rw [hnb'.out], vk8, hG8⟩
                  case measure => simp [intOf]; omega
            · obtain rfl : jj = ks.length := by omega
              rw [List.take_length] at hbb
              obtain ⟨z0, z1, z2, z3⟩ := blk2 u2
              go_wp2_with fail
              obtain ⟨kk1, kk2⟩ := set2 u2 (.int .u64 bb.hi) (.int .u64 bb.lo)
              have hB9 := below_step hBr5 hBr5.size kk2 (fun k e => by cases e; omega)
              go_roundw
              case rel => exact ⟨j + 1, bb, hlt, by go_num, Lib.hid (by rw [hbb.out]; exact hstep.out), kk1, hS6.set kk2 (by omega) (hr.below hB9) (hr2.below hB9), hB9⟩
              case measure => simp [intOf]; omega
        · have hfin4 : Below w2.heap.size w2 ((w3.setCell ⟨w2.heap.size, 0, none⟩ (.int .u64 k0.hi)).setCell ⟨w2.heap.size, 1, none⟩ (.int .u64 k0.lo)) ∧ ((w3.setCell ⟨w2.heap.size, 0, none⟩ (.int .u64 k0.hi)).setCell ⟨w2.heap.size, 1, none⟩ (.int .u64 k0.lo)).heap[w2.heap.size]? = some (.cells #[.int .u64 k0.hi, .int .u64 k0.lo] 29 (0, 0)) ∧ w2.heap.size ≤ w2.heap.size := ⟨below_step (below_call (((Below.refl _ w2).alloc (Nat.le_refl _) _).drew) (by simp) hb3) (Nat.le_of_lt hlz) hset.2 (by simp), hset.1, Nat.le_refl _⟩
          clear s0 s1 hset
          generalize (w3.setCell ⟨w2.heap.size, 0, none⟩ (.int .u64 k0.hi)).setCell ⟨w2.heap.size, 1, none⟩ (.int .u64 k0.lo) = w4 at hfin4 ⊢
          clear hb3 e0 e1 hz3 i0 i1 j0 j1 hlz
          obtain ⟨g, hge⟩ : ∃ g, w2.heap.size = g := ⟨_, rfl⟩
          have hfin4 : Below w2.heap.size w2 w4 ∧ w4.heap[g]? = some (.cells #[.int .u64 k0.hi, .int .u64 k0.lo] 29 (0, 0)) ∧ w2.heap.size ≤ g := by rw [← hge]; exact hfin4
          rw [hge]
          obtain ⟨hg, vb, hgl⟩ := hfin4
          have hg0 : w.heap.size + 1 + 1 < g := Nat.lt_of_lt_of_le (lt_of_block y2) hgl
          clear d0 d1 hbx x0 x1 g0 g1 hSr honk
          go_wp2_with fail
          go_loopw [16, 17, 18, 19, 48] (fun q _v17 _v18 _v19 i wr => ∃ (jj : Nat) (bb : ID), jj ≤ ks.length ∧ i = .int .i64 jj ∧ Hid (bb = (ks.take jj).foldl (pick f) k0) ∧ q = .int .i64 (f bb) ∧ wr.heap[g]? = some (.cells #[.int .u64 bb.hi, .int .u64 bb.lo] 29 (0, 0)) ∧ Below w2.heap.size w2 wr) (fun _ _ _ _ i _ => ks.length - (intOf i).toNat)
          case atStart => exact ⟨0, k0, Nat.zero_le _, rfl, Lib.hid rfl, by rw [hn0], vb, hg⟩
          case round =>
            obtain ⟨jj, bb, hjj, rfl, hbb, rfl, hbk, hG⟩ := hrel
            have hBr5 := below_call hB2 hB2.size hG
            have u2 := bl_own hG y2
            have hS6 := hS2.below hG
            obtain ⟨p0, p1, fp0, fp1⟩ := blk2 hbk
            have hgb2 := lt_of_block hbk
            clear vb hg hfx hn0
            by_cases hlt2 : jj < ks.length
            · obtain ⟨b2, o2, hAe, hbo2, e0, e1⟩ := (hR5.below hG).atID (i := jj + 1) (by simp; omega)
              cases hAe
              simp only [List.getElem_cons_succ] at e0 e1
              have hsn := Lib.hid (show pick f bb ks[jj] = (ks.take (jj + 1)).foldl (pick f) k0 by rw [best_take hlt2, ← hbb.out])
              obtain ⟨x2, hx2⟩ : ∃ x2, ks[jj] = x2 := ⟨_, rfl⟩
              rw [hx2] at e0 e1 hsn
              clear hx2
              have hl6 : Below wr.heap.size wr (wr.alloc (.cells #[.int .u64 x2.hi, .int .u64 x2.lo] 29)) := (Below.refl _ wr).alloc (Nat.le_refl _) _
              have hS7 := hS6.below hl6
              have vk := bl_own hl6 hbk
              have vx : (wr.alloc (.cells #[.int .u64 x2.hi, .int .u64 x2.lo] 29)).heap[wr.heap.size]? = some (.cells #[.int .u64 x2.hi, .int .u64 x2.lo] 29 (0, 0)) := ha_at rfl
              have hG7 := below_call hG hG.size hl6
              have hB7 := below_call hB2 hB2.size hG7
              obtain ⟨r0, r1, _, _⟩ := blk2 vx
              have honx := hon2.out x2 _ hS7
              have hlessx := fun V => hless bb x2 V
              have hpk : ∀ b, beats f bb x2 = b → pick f bb x2 = if b then x2 else bb := fun b e => by unfold pick; rw [e]
              have hbe : beats f bb x2 = (decide (f bb < f x2) || decide (f x2 = f bb) && idLess bb x2) := rfl
              have hfbx := hbd'.out x2
              have hfbb := hbd'.out bb
              obtain ⟨n2, hn2⟩ : ∃ n2, f x2 = n2 := ⟨_, rfl⟩
              obtain ⟨nb, hnb⟩ : ∃ nb, f bb = nb := ⟨_, rfl⟩
              obtain ⟨ls, hls⟩ : ∃ ls, idLess bb x2 = ls := ⟨_, rfl⟩
              rw [hn2] at honx hbe hfbx
              rw [hnb] at hbe hfbb
              rw [hls] at hlessx hbe
              rw [hnb]
              have hn2' := Lib.hid hn2
              have hnb' := Lib.hid hnb
              clear hn2 hnb hls
              have hidx : (0 : Int) ≤ (jj : Int) := by omega
              by_cases h1 : nb < n2
              · have hp := Lib.hid ((hpk true (by rw [hbe]; simp [h1])).trans (if_pos rfl))
                clear hpk hbe
                go_wp2_with (first
                  | (go_at_call 72; (with_reducible refine honx.mono ?_); clear honx; rintro e w5 ⟨rfl, hb5⟩; have hG8 := below_call hG7 hG7.size hb5; have vk8 := bl_own hb5 vk; obtain ⟨s0, s1, s2, s3⟩ := blk2 vk8; obtain ⟨t0, t1, _, _⟩ := blk2 (bl_own hb5 vx)))
                obtain ⟨kk1, kk2⟩ := set2 vk8 (.int .u64 x2.hi) (.int .u64 x2.lo)
                go_roundw
                case rel => exact ⟨jj + 1, x2, hlt2, by go_num, Lib.hid (by rw [← hsn.out, hp.out]), by rw [hn2'.out], kk1, below_step hG8 hG8.size kk2 (fun k e => by cases e; omega)⟩
                case measure => simp [intOf]; omega
              · by_cases h2 : n2 = nb
                · have h2' : (n2 == nb) = true := by simpa using h2
                  cases ls with
                  | true =>
                    have hp := Lib.hid ((hpk true (by rw [hbe]; simp [h2])).trans (if_pos rfl))
                    clear hpk hbe h2
                    go_wp2_with (first
                      | (go_at_call 72; (with_reducible refine honx.mono ?_); clear honx; rintro e w5 ⟨rfl, hb5⟩; have hG8 := below_call hG7 hG7.size hb5; have vk8 := bl_own hb5 vk; have vx8 := bl_own hb5 vx; obtain ⟨s0, s1, s2, s3⟩ := blk2 vk8; obtain ⟨t0, t1, _, _⟩ := blk2 vx8)
                      | (go_at_call 41; (with_reducible refine (hlessx _).mono ?_); clear hlessx; rintro e w6 ⟨rfl, hb6⟩; have hG9 := below_call hG8 hG8.size hb6; have vk9 := bl_own hb6 vk8; obtain ⟨m0, m1, m2, m3⟩ := blk2 vk9; obtain ⟨z0, z1, _, _⟩ := blk2 (bl_own hb6 vx8)))
                    obtain ⟨kk1, kk2⟩ := set2 vk9 (.int .u64 x2.hi) (.int .u64 x2.lo)
                    go_roundw
                    case rel => exact ⟨jj + 1, x2, hlt2, by go_num, Lib.hid (by rw [← hsn.out, hp.out]), by rw [hn2'.out], kk1, below_step hG9 hG9.size kk2 (fun k e => by cases e; omega)⟩
                    case measure => simp [intOf]; omega
                  | false =>
                    have hp := Lib.hid ((hpk false (by rw [hbe]; simp [h1])).trans (if_neg (by simp)))
                    clear hpk hbe h2
                    go_wp2_with (first
                      | (go_at_call 72; (with_reducible refine honx.mono ?_); clear honx; rintro e w5 ⟨rfl, hb5⟩; have hG8 := below_call hG7 hG7.size hb5; have vk8 := bl_own hb5 vk; have vx8 := bl_own hb5 vx; obtain ⟨s0, s1, s2, s3⟩ := blk2 vk8; obtain ⟨t0, t1, _, _⟩ := blk2 vx8)
                      | (go_at_call 41; (with_reducible refine (hlessx _).mono ?_); clear hlessx; rintro e w6 ⟨rfl, hb6⟩; have hG9 := below_call hG8 hG8.size hb6; have vk9 := bl_own hb6 vk8))
                    go_roundw
                    case rel => exact ⟨jj + 1, bb, hlt2, by go_num, Lib.hid (by rw [← hsn.out, hp.out]), by rw [hnb'.out], vk9, hG9⟩
                    case measure => simp [intOf]; omega
                · have hp := Lib.hid ((hpk false (by rw [hbe]; simp [h1, h2])).trans (if_neg (by simp)))
                  have h2' : (n2 == nb) = false := by simpa using h2
                  clear hpk hbe h2
                  go_wp2_with (first
                    | (go_at_call 72; (with_reducible refine honx.mono ?_); clear honx; rintro e w5 ⟨rfl, hb5⟩; have hG8 := below_call hG7 hG7.size hb5; have vk8 := bl_own hb5 vk; obtain ⟨s0, s1, s2, s3⟩ := blk2 vk8; obtain ⟨t0, t1, _, _⟩ := blk2 (bl_own hb5 vx)))
                  go_roundw
                  case rel => exact ⟨jj + 1, bb, hlt2, by go_num, Lib.hid (by rw [← hsn.out, hp.out]), by rw [hnb'.out], vk8, hG8⟩
                  case measure => simp [intOf]; omega
            · obtain rfl : jj = ks.length := by omega
              rw [List.take_length] at hbb
              obtain ⟨z0, z1, z2, z3⟩ := blk2 u2
              go_wp2_with fail
              obtain ⟨kk1, kk2⟩ := set2 u2 (.int .u64 bb.hi) (.int .u64 bb.lo)
              have hB9 := below_step hBr5 hBr5.size kk2 (fun k e => by cases e; omega)
              go_roundw
              case rel => exact ⟨j + 1, bb, hlt, by go_num, Lib.hid (by rw [hbb.out]; exact hstep.out), kk1, hS6.set kk2 (by omega) (hr.below hB9) (hr2.below hB9), hB9⟩
              case measure => simp [intOf]; omega
    · obtain rfl : j = l.length := by omega
      have hfin := Lib.hid (show x = r by rw [← hgo.out, Nat.sub_self]; rfl)
      go_wp2_with fail
      obtain ⟨k1, kk2⟩ := set2 hbx (.int .u64 x.hi) (.int .u64 x.lo)
      obtain ⟨m0, m1, _, _⟩ := blk2 k1
      refine bodyPost_ret (v := .agg #[.int .u64 x.hi, .int .u64 x.lo]) ?_ rfl ⟨?_, ?_⟩
      · simp [results, Try.results18, go_sem, m0, m1]
      · rw [hfin.out]
      · exact below_step hBr hBr.size kk2 (fun k e => by cases e; omega)
end Go.Proofs.Ytibmfpcbjopojaa
