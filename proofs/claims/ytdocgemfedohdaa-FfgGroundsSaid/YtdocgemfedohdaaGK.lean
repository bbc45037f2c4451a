/- GK: several texts in one. -/
import Derived.Test.YtdocgemfedohdaaGJ
import Derived.Test.YtdocgemfedohdaaGA
import Derived.Laws.AppendOwnNone
import Derived.Test.YtdocgemfedohdaaShelf
import Derived.Shelf.GgSortFunc.InsertionK
import Derived.Test.YtdocgemfedohdaaGG
import Derived.Shelf.SlSortCmp.WholeK
import Derived.Shelf.SlSortCmp.NoneTotal
import Derived.Deep.QuietTactic
import Derived.BigQuiet
/-! ffg.strong, walked. -/
namespace Go.Proofs.Ytdocgemfedohdaa
open Go.RowKit
theorem wp_entry_as {κ ν : Type} [DecidableEq κ] {ek : κ → Value} {ev : ν → Value} {P : Program} {ops : Array Oper} {rest : List Oper} {o : Oper} {a : Act} {Q : Exit → Act → World → Prop}
    (hg : o.guard = none) {mo ko : Operand} {MT kt et : TypeId} (hop : o.op = Op.mapEntry MT mo ko) (K : Key P kt ek) (ht : P.underlying MT = some (.map kt et)) {z0 : ν} {w : World} (hz : (zeroValue et).run P w = .ok (ev z0) w) {B : Nat}
    (hm : a.eval mo = .map (some B)) {x : κ} (hx : a.eval ko = ek x) {m : List (κ × ν)} (hM : MapIs ek ev w B m) {cu : ν} (hcu : (mget m x).getD z0 = cu)
    (hK : ∀ (w' : World) (st : Nat), StampIs ek ev w' B (mput m x cu) x st → w.grownBy w' (some B) → w'.heap.size = w.heap.size → wpList P ops Q rest (a.put o.dst (.tuple #[ev cu, goInt st])) w') : wpList P ops Q (o :: rest) a w := by
  subst hcu
  exact wp_entry hg hop K ht hz hm hx hM hK
theorem WhoAt.iter {c : Cfg} {l : List Blk} {v : List Lnk} {base B r : Nat} {w w' : World} {m : List (Way × Value)} (h : WhoAt c l v base w m) (hg : w.grownBy w' (some r)) {κ ν : Type} [DecidableEq κ] {ek : κ → Value} {ev : ν → Value} {m2 : List (κ × ν)} {came : List κ} (hR : RIs ek ev w B r m2 came) : WhoAt c l v base w' m :=
  ⟨fun p u hm => (h.own p u hm).grown hg (.inr (fun e => by
    obtain ⟨es, clk, since, seen, c0, _, _, _, _, _, hr, _⟩ := hR
    rcases (h.own p u hm).block with ⟨rfl, _⟩ | ⟨g, cap, cur, rfl, _, hh, _⟩
    · cases e
    · have e' : g = r := Option.some.inj e
      subst e'
      rw [hr] at hh
      cases hh)), h.ne, h.keys, h.apart, h.nodup⟩
def StrongPost (c : Cfg) (l : List Blk) (v : List Lnk) (w : World) (e : Ending) (w' : World) : Prop :=
  ∃ (o : List (Way × Bool)) (B : Nat), e = .returned (.map (some B)) ∧ w.heap.size ≤ B ∧ MapIs wayv Value.bool w' B o ∧ IsStrong c l v o ∧ Below w.heap.size w w'
set_option maxRecDepth 100000 in
set_option maxHeartbeats 4000000 in
theorem strong_any (c : Cfg) (l : List Blk) (v : List Lnk) (A A2 A3 : Option Addr) (k k2 k3 : Nat) (w : World) (hr : Rd 1 encI w A c.W) (hr2 : Rd 5 encBlk w A2 l) (hl : l.length ≤ 100000) (hr3 : Rd 7 encLnk w A3 v) (hv : v.length ≤ 100000) :
    Calls Try.prog 38 #[cfgv A k c, .slice A2 l.length k2, .slice A3 v.length k3] w (StrongPost c l v w) := by
  have hm := hr.1
  have hm2 := hr2.1
  have hm3 := hr3.1
  have hun := Try.underlying22
  have hmm := @run_makeMap Try.prog
  have hmay := fun x V (hV : Below w.heap.size w V) => fmay_any c l x A A2 k k2 V (hr.below hV) (hr2.below hV) hl
  have htot := fun V (hV : Below w.heap.size w V) => dtotal_any c A k V (hr.below hV)
  have hwt := fun V (hV : Below w.heap.size w V) who A4 k4 h4 => dweight_any c who A A4 k k4 V (hr.below hV) h4
  have hmo := fun a b d e V => more_any a b d e V
  unfold cfgv at *
  obtain ⟨W, hW⟩ : ∃ W, (w.alloc (.cells #[.slice A c.W.length k, .int .u64 c.seed, .int .i64 c.epoch, .int .i64 c.num, .int .i64 c.den] 25)).alloc (.map #[] 0) = W := ⟨_, rfl⟩
  have hB : Below w.heap.size w W := by subst hW; exact ((Below.refl _ w).alloc (Nat.le_refl _) _).alloc (by simp) _
  have b0 : W.heap[w.heap.size]? = some (.cells #[.slice A c.W.length k, .int .u64 c.seed, .int .i64 c.epoch, .int .i64 c.num, .int .i64 c.den] 25 (0, 0)) := by subst hW; exact ha_lt (ha_at rfl)
  have b1 : MapIs wayv (fun u : Value => u) W (w.heap.size + 1) [] := by subst hW; exact MapIs_new _ _ (ha_at (by simp))
  go_enter Try.func38, Try.ntmps38
  go_wp2_with fail
  go_loopw [9, 10, 18] (fun _ _ i wr => ∃ (j : Nat) (m : List (Way × Value)), j ≤ v.length ∧ i = .int .i64 j ∧ MapIs wayv (fun u : Value => u) wr (w.heap.size + 1) m ∧ Hid (WhoAt c l (v.take j) (w.heap.size + 1 + 1) wr m) ∧ Below w.heap.size w wr ∧
    wr.heap[w.heap.size]? = some (.cells #[.slice A c.W.length k, .int .u64 c.seed, .int .i64 c.epoch, .int .i64 c.num, .int .i64 c.den] 25 (0, 0))) (fun _ _ i _ => v.length - (intOf i).toNat)
  case atStart => exact ⟨0, [], Nat.zero_le _, rfl, b1, Lib.hid (who_nil c l _ _), hB, b0⟩
  case round =>
    obtain ⟨j, m, hj, rfl, hM, hwho, hBr, hC⟩ := hrel
    by_cases hlt : j < v.length
    · obtain ⟨b, o, rfl, hbo, d0, d1, d2, d3, d4, d5, d6⟩ := (hr3.below hBr).atL hlt
      have htk := List.take_succ_eq_append_getElem hlt
      obtain ⟨x, hx⟩ : ∃ x, v[j] = x := ⟨_, rfl⟩
      rw [hx] at d0 d1 d2 d3 d4 d5 d6 htk
      have htk' := Lib.hid htk
      clear hx htk
      obtain ⟨X, hX⟩ : ∃ X, wr.alloc (.cells #[.int .i64 x.frm, .int .i64 x.src.epoch, .int .u64 x.src.root.hi, .int .u64 x.src.root.lo, .int .i64 x.tgt.epoch, .int .u64 x.tgt.root.hi, .int .u64 x.tgt.root.lo] 33) = X := ⟨_, rfl⟩
      have hBX : Below wr.heap.size wr X := by subst hX; exact (Below.refl _ wr).alloc (Nat.le_refl _) _
      have x0 : X.heap[wr.heap.size]? = some (.cells #[.int .i64 x.frm, .int .i64 x.src.epoch, .int .u64 x.src.root.hi, .int .u64 x.src.root.lo, .int .i64 x.tgt.epoch, .int .u64 x.tgt.root.hi, .int .u64 x.tgt.root.lo] 33 (0, 0)) := by subst hX; exact ha_at rfl
      have hB1 := below_call hBr hBr.size hBX
      obtain ⟨e0, e1, e2, e3, e4, e5, e6⟩ := blkL x0
      obtain ⟨c0, c1, c2, c3, c4⟩ := blk5 (bl_own hBX hC)
      have hmx := hmay x
      unfold lnkv at hmx
      by_cases hml : MayL c l x
      · rw [decide_eq_true hml] at hmx
        obtain ⟨u, hu⟩ : ∃ u, (mget m (wayOf x)).getD (.slice none 0 0) = u := ⟨_, rfl⟩
        have hcu := hwho.out.cur (wayOf x)
        have hcur := Lib.hid (show curOf m (wayOf x) = u from hu)
        rw [hcur.out] at hcu
        obtain ⟨Au, ku, rfl, _⟩ := hcu.rd encI_len
        have hwl := whoW_len c l (v.take j) (wayOf x)
        have hwl2 : (v.take j).length ≤ j := List.length_take_le _ _
        have hu := Lib.hid hu
        have hownc := Lib.hid (fun V (hV : Hid (WhoAt c l (v.take j) (w.heap.size + 1 + 1) V m)) => show Own V (w.heap.size + 1 + 1) 3 1 encI (.slice Au (whoW c l (v.take j) (wayOf x)).length ku) (whoW c l (v.take j) (wayOf x)) by rw [← hcur.out]; exact hV.out.cur (wayOf x))
        clear hcu
        go_wp2_with (first
          | (go_at_call 20; (with_reducible refine (hmx _ hB1).mono ?_); clear hmx; rintro e w1 ⟨rfl, hb1⟩; have hB2 := below_call hB1 hB1.size hb1; have x1 := bl_own hb1 x0; obtain ⟨f0, f1, f2, f3, f4, f5, f6⟩ := blkL x1; obtain ⟨Y, hY⟩ : ∃ Y, w1.alloc (.cells #[.int .i64 x.src.epoch, .int .u64 x.src.root.hi, .int .u64 x.src.root.lo, .int .i64 x.tgt.epoch, .int .u64 x.tgt.root.hi, .int .u64 x.tgt.root.lo] 63) = Y := ⟨_, rfl⟩; have hBY : Below w1.heap.size w1 Y := (by subst hY; exact (Below.refl _ w1).alloc (Nat.le_refl _) _); have y0 : Y.heap[w1.heap.size]? = some (.cells #[.int .i64 x.src.epoch, .int .u64 x.src.root.hi, .int .u64 x.src.root.lo, .int .i64 x.tgt.epoch, .int .u64 x.tgt.root.hi, .int .u64 x.tgt.root.lo] 63 (0, 0)) := (by subst hY; exact ha_at rfl); have hB3 := below_call hB2 hB2.size hBY; obtain ⟨g0, g1, g2, g3, g4, g5⟩ := blk6 y0; obtain ⟨i0, i1, i2, i3, i4, i5, i6⟩ := blkL (bl_own hBY x1); have hZ : Below Y.heap.size Y (Y.alloc (.cells #[.int .i64 x.frm] 3)) := (Below.refl _ Y).alloc (Nat.le_refl _) _; have hMZ := MapIs_below (MapIs_below (MapIs_below (MapIs_below hM hBX) hb1) hBY) hZ; have hwZ := Lib.hid ((((hwho.out.below hBX).below hb1).below hBY).below hZ); have hB4 := below_call hB3 hB3.size hZ; have z0 := ha_at (w := Y) (o := .cells #[.int .i64 x.frm] 3) (k := Y.heap.size) rfl; have hCZ := bl_own hZ (bl_own hBY (bl_own hb1 (bl_own hBX hC))); have hneY := Lib.hid (show some Y.heap.size ≠ some (w.heap.size + 1) ∧ w.heap.size + 1 + 1 ≤ (Y.alloc (.cells #[.int .i64 x.frm] 3)).heap.size from ⟨(fun e => by have e' := Option.some.inj e; have h1 := MapIs_lt hM; have h2 := hBX.size; have h3 := hb1.size; have h4 := hBY.size; omega), by have h1 := MapIs_lt hM; have h2 := hBX.size; have h3 := hb1.size; have h4 := hBY.size; have h5 := hZ.size; omega⟩))
          | ((with_reducible refine at_mapEntry ?_); (refine wp_entry_as (x := wayOf x) (ev := fun u : Value => u) (z0 := .slice none 0 0) rfl rfl KeyW Try.underlying94 (Try.zeroValue22 _) rfl rfl hMZ hu.out ?_; intro w5 st hS5 hg5 hz5; have hwho5 := Lib.hid (hwZ.out.grown hg5 hMZ); have hown5 := hownc.out w5 hwho5; have z5 := grown_own hg5 z0 hneY.out.1; have hs5 := hneY.out.2; have hB5 := below_step hB4 hB4.size hg5 (fun q e => by cases e; omega); have hC5 := grown_own hg5 hCZ (fun e => by have e' := Option.some.inj e; omega)))
          | (at_builtin; refine wp_append1 rfl rfl hun infoI rfl (by decide) encI_len encI_one rfl hown5 (g := Y.heap.size) (c := 1) rfl (y := x.frm) z5 rfl (by omega) (by unfold maxLen; omega) (by omega) ?_; intro v6 w6 ho6 hg6 hob6; have hS6 := hS5.grown hg6 (own_ne_map hown5 hS5.map).symm; have hB6 := below_step hB5 hB5.size hg6 (fun q e => by have := (hown5.base q e).1; omega); have hC6 := grown_own hg6 hC5 (fun e => by have := (hown5.base _ e.symm).1; omega))
          | ((with_reducible refine at_entryStore ?_); refine wp_entryStore (ev := fun u : Value => u) (x := wayOf x) (st := st) rfl rfl rfl rfl (v := v6) rfl hS6 ?_; intro w7 hM7 hg7 hz7; have hB7 := below_step hB6 hB6.size hg7 (fun q e => by cases e; omega); have hC7 := grown_own hg7 hC6 (fun e => by have e' := Option.some.inj e; omega)))
        have hwho6 := hwho5.out.step hml ho6 (by rw [hcur.out]; exact hg6) (by rw [hcur.out]; exact hob6)
        go_roundw
        case rel => exact ⟨j + 1, _, hlt, by go_num, hM7, Lib.hid (by rw [htk'.out]; rw [hcur.out] at hwho6; exact hwho6.grown hg7 hS6.map), hB7, hC7⟩
        case measure => simp [intOf]; omega
      · rw [decide_eq_false hml] at hmx
        go_wp2_with (go_at_call 20; (with_reducible refine (hmx _ hB1).mono ?_); clear hmx; rintro e w1 ⟨rfl, hb1⟩; have hB2 := below_call hB1 hB1.size hb1)
        go_roundw
        case rel => exact ⟨j + 1, m, hlt, by go_num, MapIs_below (MapIs_below hM hBX) hb1, Lib.hid (by rw [htk'.out]; exact ((hwho.out.below hBX).below hb1).skip hml), hB2, bl_own hb1 (bl_own hBX hC)⟩
        case measure => simp [intOf]; omega
    · obtain rfl : j = v.length := by omega
      rw [List.take_length] at hwho
      obtain ⟨V1, hV1⟩ : ∃ V1, wr.alloc (.map #[] 0) = V1 := ⟨_, rfl⟩
      have hBV : Below wr.heap.size wr V1 := by subst hV1; exact (Below.refl _ wr).alloc (Nat.le_refl _) _
      have n0 : MapIs wayv Value.bool V1 wr.heap.size [] := by subst hV1; exact MapIs_new _ _ (ha_at rfl)
      have hB1 := below_call hBr hBr.size hBV
      have hMV := MapIs_below hM hBV
      have hwV := Lib.hid (hwho.out.below hBV)
      obtain ⟨c0, c1, c2, c3, c4⟩ := blk5 (bl_own hBV hC)
      have hlr := MapIs_lt hM
      have hlr2 := Lib.hid (show w.heap.size < wr.heap.size from lt_of_block hC)
      have hm2 := fun p => Lib.hid (more_strong c l v p)
      obtain ⟨ro, hro⟩ : ∃ ro, wr.heap.size = ro := ⟨_, rfl⟩
      rw [hro] at n0 hlr hlr2
      go_wp2_with (first
        | (go_at_call 25; (with_reducible refine (htot _ hB1).mono ?_); clear htot; rintro e w1 ⟨rfl, hb1⟩; have hB2 := below_call hB1 hB1.size hb1; have hM1 := MapIs_below hMV hb1; have n1 := MapIs_below n0 hb1; have hw1 := Lib.hid (hwV.out.below hb1); have hC1 := bl_own hb1 (bl_own hBV hC))
        | (at_range; refine wp_range rfl rfl Try.underlying94 rfl hM1 (r := w1.heap.size) rfl ?_; intro w2 hR hBR hzR; have n2 := MapIs_below n1 hBR; have hw2 := Lib.hid (hw1.out.below hBR); have hC2 := bl_own hBR hC1; have hB3 := below_call hB2 hB2.size hBR))
      go_frame
      have hls := Lib.hid (And.intro hlr (And.intro hlr2.out (MapIs_lt n1)))
      clear hro hlr hlr2 hM1 n1 hw1 hC1 hMV n0 hwV hBV hM hwho hC c0 c1 c2 c3 c4 hmay b0 b1 hB hW hBR
      go_loopw [13, 14] (fun _ _ wr => ∃ (came : List Way) (o : List (Way × Bool)), RIs wayv (fun u : Value => u) wr (w.heap.size + 1) w1.heap.size m came ∧ MapIs wayv Value.bool wr ro o ∧ Hid (WhoAt c l v (w.heap.size + 1 + 1) wr m) ∧ Hid (StrAt c l v came o) ∧ Below w.heap.size w wr ∧
        wr.heap[w.heap.size]? = some (.cells #[.slice A c.W.length k, .int .u64 c.seed, .int .i64 c.epoch, .int .i64 c.num, .int .i64 c.den] 25 (0, 0))) (fun _ _ wr => wr.rangeLeft (w.heap.size + 1) w1.heap.size)
      case atStart => exact ⟨[], [], hR, n2, hw2, Lib.hid (str_nil c l v), hB3, hC2⟩
      case round =>
        clear hR n2 hw2 hB3 hC2
        obtain ⟨came, o, hR, hN, hwho, hstr, hBr, hC⟩ := hrel
        go_wp2_with (at_next; refine wp_next rfl rfl rfl hR ?_ ?_)
        · intro hall
          have hall2 : ∀ p ∈ m, p.1 ∈ came := fun p hp => hall.out p.1 p.2 hp
          have hfin := Lib.hid (str_all hwho.out hstr.out hall2)
          go_wp2
          go_ret
          exact ⟨o, ro, rfl, by have := hls.out.2.1; omega, hN, hfin.out, hBr⟩
        · intro p u w3 hcm hen
          have hown := hwho.out.own p u hcm.mem
          obtain ⟨Au, ku, rfl, hRu⟩ := hown.rd encI_len
          have hne := hwho.out.ne p _ hcm.mem
          have hmp := hm2 p
          have hls3 := hls.out
          have hw3 := Lib.hid (hwho.out.iter hcm.grown hR)
          have hN3 := MapIs_grown hN hcm.grown (fun e => by have e' := Option.some.inj e; omega)
          have hC3 := grown_own hcm.grown hC (fun e => by have e' := Option.some.inj e; omega)
          have hB4 := below_step hBr hBr.size hcm.grown (fun q e => by cases e; omega)
          obtain ⟨X, hX⟩ : ∃ X, w3.alloc (.cells #[.int .i64 p.src.epoch, .int .u64 p.src.root.hi, .int .u64 p.src.root.lo, .int .i64 p.tgt.epoch, .int .u64 p.tgt.root.hi, .int .u64 p.tgt.root.lo] 63) = X := ⟨_, rfl⟩
          have hBX : Below w3.heap.size w3 X := by subst hX; exact (Below.refl _ w3).alloc (Nat.le_refl _) _
          have x0 : X.heap[w3.heap.size]? = some (.cells #[.int .i64 p.src.epoch, .int .u64 p.src.root.hi, .int .u64 p.src.root.lo, .int .i64 p.tgt.epoch, .int .u64 p.tgt.root.hi, .int .u64 p.tgt.root.lo] 63 (0, 0)) := by subst hX; exact ha_at rfl
          have hB6 := below_call hB4 hB4.size hBX
          have nX := MapIs_below hN3 hBX
          have hwX := Lib.hid (hw3.out.below hBX)
          have hCX := bl_own hBX hC3
          have hrX := hcm.ris.below hBX
          have hRX : Rd 1 encI X Au (whoW c l v p) := by
            obtain ⟨A', k', e', hR'⟩ := (hwX.out.own p _ hcm.mem).rd encI_len
            cases e'
            exact hR'
          obtain ⟨c0, c1, c2, c3, c4⟩ := blk5 hCX
          obtain ⟨f0, f1, f2, f3, f4, f5⟩ := blk6 x0
          unfold wayv at hen
          have hmes := hcm.less
          have hmo := fun V => hmo 2 (totalC c) 3 (weightC c (whoW c l v p)) V
          have hwt := fun V hV A4 k4 h4 => hwt V hV (whoW c l v p) A4 k4 h4
          rw [hmp.out] at hmo
          by_cases hs : 3 * weightC c (whoW c l v p) < 2 * totalC c
          · have hsk := Lib.hid (str_skip hstr.out (p := p) (fun h => by have := h.2; omega))
            rw [decide_eq_true hs] at hmo
            obtain ⟨q, hq⟩ : ∃ q, weightC c (whoW c l v p) = q := ⟨_, rfl⟩
            simp only [hq] at hmo hwt
            clear hs hq
            go_wp2_with (first
              | (go_at_call 24; (with_reducible refine (hwt _ hB6 _ ku hRX).mono ?_); clear hwt; rintro e w4 ⟨rfl, hb4⟩; have hB7 := below_call hB6 hB6.size hb4)
              | (go_at_call 67; (with_reducible refine (hmo _).mono ?_); clear hmo; rintro e w5 ⟨rfl, hb5⟩; have hB8 := below_call hB7 hB7.size hb5; have n5 := MapIs_below (MapIs_below nX hb4) hb5; have hr4 := hrX.1.below hb4; have hr5 := hr4.1.below hb5; have hw5 := Lib.hid ((hwX.out.below hb4).below hb5); have hC5 := bl_own hb5 (bl_own hb4 hCX); obtain ⟨y0, y1, y2, y3, y4, y5⟩ := blk6 (bl_own hb5 (bl_own hb4 x0))))
            go_roundw
            case rel => exact ⟨p :: came, o, hr5.1, n5, hw5, hsk, hB8, hC5⟩
            case measure => rw [hr5.2, hr4.2, hrX.2]; exact hmes
          · have hsk := Lib.hid (str_put hstr.out (p := p) ⟨hne, by omega⟩)
            rw [decide_eq_false hs] at hmo
            obtain ⟨q, hq⟩ : ∃ q, weightC c (whoW c l v p) = q := ⟨_, rfl⟩
            simp only [hq] at hmo hwt
            clear hs hq
            go_wp2_with (first
              | (go_at_call 24; (with_reducible refine (hwt _ hB6 _ ku hRX).mono ?_); clear hwt; rintro e w4 ⟨rfl, hb4⟩; have hB7 := below_call hB6 hB6.size hb4)
              | (go_at_call 67; (with_reducible refine (hmo _).mono ?_); clear hmo; rintro e w5 ⟨rfl, hb5⟩; have hB8 := below_call hB7 hB7.size hb5; have n5 := MapIs_below (MapIs_below nX hb4) hb5; have hr4 := hrX.1.below hb4; have hr5 := hr4.1.below hb5; have hw5 := Lib.hid ((hwX.out.below hb4).below hb5); have hC5 := bl_own hb5 (bl_own hb4 hCX); obtain ⟨y0, y1, y2, y3, y4, y5⟩ := blk6 (bl_own hb5 (bl_own hb4 x0)))
              | (at_mapUpdate; refine wp_update (ev := Value.bool) rfl (.inl rfl) KeyW Try.underlying59 rfl (x := p) rfl (v := true) rfl n5 ?_; intro w6 n6 hg6 hz6))
            have hr6 := hr5.1.grown hg6 (fun e => by have e' := Option.some.inj e; omega) (fun e => by have e' := Option.some.inj e; omega)
            (try dsimp only [Act.put])
            go_roundw
            case rel => exact ⟨p :: came, mput o p true, hr6.1, n6, Lib.hid (hw5.out.grown hg6 n5), hsk, below_step hB8 hB8.size hg6 (fun q e => by cases e; omega), grown_own hg6 hC5 (fun e => by have e' := Option.some.inj e; omega)⟩
            case measure => rw [hr6.2, hr5.2, hr4.2, hrX.2]; exact hmes
end Go.Proofs.Ytdocgemfedohdaa
/-! append(own, s...) for a whole slice. -/
namespace Go.Proofs.Ytdocgemfedohdaa
open Go.RowKit
theorem flatMap_len {α : Type} {k : Nat} {enc : α → List Value} (hk : ∀ x, (enc x).length = k) (ys : List α) : (ys.flatMap enc).length = ys.length * k := by
  induction ys with
  | nil => simp
  | cons y ys ih => simp only [List.flatMap_cons, List.length_append, hk, ih, List.length_cons, Nat.succ_mul]; omega
theorem Rd.cellAt {α : Type} {k : Nat} {enc : α → List Value} (hk : ∀ x, (enc x).length = k) (hk0 : 0 < k) {w : World} {b o : Nat} {ys : List α} (h : Rd k enc w (some ⟨b, o, none⟩) ys) (j : Nat) (u : Value) (hu : (ys.flatMap enc)[j]? = some u) : w.cell? ⟨b, o + j, none⟩ = some u := by
  have hlt : j < ys.length * k := by rw [← flatMap_len hk]; exact (List.getElem?_eq_some_iff.1 hu).1
  have hi : j / k < ys.length := Nat.div_lt_of_lt_mul (by rwa [Nat.mul_comm])
  have hr : j % k < k := Nat.mod_lt _ hk0
  obtain ⟨b', o', he, _, hc⟩ := h.at hi
  cases he
  have hrk : j % k < (enc ys[j / k]).length := by rw [hk]; exact hr
  have hu' : (enc ys[j / k])[j % k]? = some (enc ys[j / k])[j % k] := List.getElem?_eq_getElem hrk
  have h1 := flatMap_get hk ys (j / k) _ (List.getElem?_eq_getElem hi) (j % k) _ hu'
  have hd : j / k * k + j % k = j := by rw [Nat.mul_comm]; exact Nat.div_add_mod j k
  rw [hd, hu] at h1
  have h2 := hc (j % k) _ hu'
  rw [Nat.add_assoc, hd] at h2
  rw [h2, h1]
section
variable {α : Type} {P : Program} {ops : Array Oper} {rest : List Oper} {o : Oper} {a : Act} {Q : Exit → Act → World → Prop}
theorem addr_add' (b o j : Nat) : (⟨b, o, none⟩ : Addr).add j = ⟨b, o + j, none⟩ := by unfold Addr.add; split <;> simp_all
theorem wp_append_all {enc : α → List Value} {k base : Nat} {w : World} (hgd : o.guard = none) {s x : Operand} {t e : TypeId} (ho : o.op = .call { callee := .builtin .append, args := #[s, x], argTypes := #[t, t] })
    (ht : P.underlying t = some (.slice e)) {z : Value} {bytes : Nat} (hinfo : (P.info? e).map (fun i => (i.zero, i.size, i.bytes)) = some (some z, k, bytes)) (hz : z.cells.size = k) (hk0 : 0 < k) (hk : ∀ x, (enc x).length = k) (h1 : ∀ x, ∀ u ∈ enc x, u.oneCell' = true)
    {v : Value} {xs : List α} (hs : a.eval s = v) (hown : Own w base e k enc v xs) {A : Option Addr} {c : Nat} {ys : List α} (hx : a.eval x = .slice A ys.length c) (hA : A = none → c = 0) (hR : Rd k enc w A ys)
    (hb : (xs.length + ys.length) * bytes ≤ 140737488355328) (hl : xs.length + ys.length ≤ maxLen) (hbase : base ≤ w.heap.size)
    (h : ∀ v' w', Own w' base e k enc v' (xs ++ ys) → w.grownBy w' v.ownBlock → (v'.ownBlock = v.ownBlock ∨ v'.ownBlock = some w.heap.size) → wpList P ops Q rest (a.put o.dst v') w') : wpList P ops Q (o :: rest) a w := by
  obtain ⟨i0, hi, hz0, hz1, hz2⟩ := info_parts hinfo
  cases A with
  | none =>
    have hys : ys = [] := by
      rcases Classical.em (ys = []) with e | e
      · exact e
      · obtain ⟨b, o, hA', _⟩ := hR.2 e
        cases hA'
    subst hys
    obtain rfl := hA rfl
    refine wpList_append_own_none (w := w) hgd s x t ho base e i0 k ht hi v xs.length _ hs hown hx ?_
    exact h v w (by simpa using hown) ⟨rfl, rfl, rfl, Nat.le_refl _, fun _ _ _ => rfl⟩ (.inl rfl)
  | some ad =>
    refine wpList_append_own_at (w := w) hgd s x t ho base e i0 z k bytes ht hi hz0 hz1 hz2 hz hk0 v xs.length _ hs hown ad ys.length c (ys.flatMap enc) hx (flatMap_len hk ys) (fun j u hu => ?_) (fun u hu => ?_) hl hb hbase (fun v' w' h2 h3 _ h4 => h v' w' ?_ h3 h4)
    · have hne : ys ≠ [] := fun e => by subst e; simp at hu
      obtain ⟨b, o, hA', _⟩ := hR.2 hne
      cases hA'
      rw [addr_add']
      exact hR.cellAt hk hk0 j u hu
    · obtain ⟨y, _, hy⟩ := List.mem_flatMap.1 hu
      exact h1 y u hy
    · show w'.ownsRow _ _ _ _ _ _
      rw [List.length_append, List.flatMap_append]
      exact h2
/-- The same as one step of a region that draws its order. -/
theorem step_append_all {enc : α → List Value} {k base : Nat} {w : World} {K : Act → World → Prop} {E : Prop} (hgd : o.guard = none) {s x : Operand} {t e : TypeId} (ho : o.op = .call { callee := .builtin .append, args := #[s, x], argTypes := #[t, t] })
    (ht : P.underlying t = some (.slice e)) {z : Value} {bytes : Nat} (hinfo : (P.info? e).map (fun i => (i.zero, i.size, i.bytes)) = some (some z, k, bytes)) (hz : z.cells.size = k) (hk0 : 0 < k) (hk : ∀ x, (enc x).length = k) (h1 : ∀ x, ∀ u ∈ enc x, u.oneCell' = true)
    {v : Value} {xs : List α} (hs : a.eval s = v) (hown : Own w base e k enc v xs) {A : Option Addr} {c : Nat} {ys : List α} (hx : a.eval x = .slice A ys.length c) (hA : A = none → c = 0) (hR : Rd k enc w A ys)
    (hb : (xs.length + ys.length) * bytes ≤ 140737488355328) (hl : xs.length + ys.length ≤ maxLen) (hbase : base ≤ w.heap.size)
    (h : ∀ v' w', Own w' base e k enc v' (xs ++ ys) → w.grownBy w' v.ownBlock → (v'.ownBlock = v.ownBlock ∨ v'.ownBlock = some w.heap.size) → K (a.put o.dst v') w') : if Region.wanted o (yielded ops a.tmps) = true then Oper.wp P o a w K Q else E := by
  have hw : Region.wanted o (yielded ops a.tmps) = true := by simp [Region.wanted, hgd]
  rw [if_pos hw]
  obtain ⟨i0, hi, hz0, hz1, hz2⟩ := info_parts hinfo
  cases A with
  | none =>
    have hys : ys = [] := by
      rcases Classical.em (ys = []) with e | e
      · exact e
      · obtain ⟨b, o, hA', _⟩ := hR.2 e
        cases hA'
    subst hys
    obtain rfl := hA rfl
    have hrun := run_append_owned_none (P := P) (w := w) base t o.type e i0 k ht hi v xs.length _ hown
    unfold Oper.wp
    simp only [List.length_nil] at hx
    simp [execOp, ho, resolve, invoke, builtin, hs, hx, hrun, Result.andThen]
    exact h v w (by simpa using hown) ⟨rfl, rfl, rfl, Nat.le_refl _, fun _ _ _ => rfl⟩ (.inl rfl)
  | some ad =>
    obtain ⟨v', w', hr, h2, h3, _, h5⟩ := run_append_own_at (P := P) w base t o.type e i0 z k bytes ht hi hz0 hz1 hz2 hz hk0 v xs.length _ hown ad ys.length c (ys.flatMap enc) (flatMap_len hk ys) (fun j u hu => by
      have hne : ys ≠ [] := fun e => by subst e; simp at hu
      obtain ⟨b, o, hA', _⟩ := hR.2 hne
      cases hA'
      rw [addr_add']
      exact hR.cellAt hk hk0 j u hu) (fun u hu => by
      obtain ⟨y, _, hy⟩ := List.mem_flatMap.1 hu
      exact h1 y u hy) hl hb hbase
    unfold Oper.wp execOp
    simp only [ho, resolve, invoke, builtin, Sem.run_bind, Sem.run_pure, Result.andThen_ok, List.map_toArray, List.map_cons, List.map_nil, hs, hx, hr]
    refine h v' w' ?_ h3 h5
    show w'.ownsRow _ _ _ _ _ _
    rw [List.length_append, List.flatMap_append]
    exact h2
theorem step_append1 {enc : α → List Value} {k base : Nat} {w : World} {K : Act → World → Prop} {E : Prop} (hgd : o.guard = none) {s x : Operand} {t e : TypeId} (ho : o.op = .call { callee := .builtin .append, args := #[s, x], argTypes := #[t, t] })
    (ht : P.underlying t = some (.slice e)) {z : Value} {bytes : Nat} (hinfo : (P.info? e).map (fun i => (i.zero, i.size, i.bytes)) = some (some z, k, bytes)) (hz : z.cells.size = k) (hk0 : 0 < k) (hk : ∀ x, (enc x).length = k) (h1 : ∀ x, ∀ u ∈ enc x, u.oneCell' = true)
    {v : Value} {xs : List α} (hs : a.eval s = v) (hown : Own w base e k enc v xs) {g : Nat} {c : Nat} (hx : a.eval x = .slice (some ⟨g, 0, none⟩) 1 c) {y : α} {cs : Array Value} {T : TypeId} (hg : w.heap[g]? = some (.cells cs T (0, 0))) (hcs : cs = (enc y).toArray)
    (hb : (xs.length + 1) * bytes ≤ 140737488355328) (hl : xs.length + 1 ≤ maxLen) (hbase : base ≤ w.heap.size)
    (h : ∀ v' w', Own w' base e k enc v' (xs ++ [y]) → w.grownBy w' v.ownBlock → (v'.ownBlock = v.ownBlock ∨ v'.ownBlock = some w.heap.size) → K (a.put o.dst v') w') : if Region.wanted o (yielded ops a.tmps) = true then Oper.wp P o a w K Q else E := by
  refine step_append_all (ys := [y]) (A := some ⟨g, 0, none⟩) (c := c) hgd ho ht hinfo hz hk0 hk h1 hs hown hx (fun e => by cases e) ?_ hb hl hbase h
  refine Rd_blk (by simp) hg (fun i x hx j u hu => ?_)
  subst hcs
  cases i with
  | zero => simp only [List.getElem?_cons_zero, Option.some.injEq] at hx; subst hx; simpa using hu
  | succ i => simp at hx
end
end Go.Proofs.Ytdocgemfedohdaa
/-! Slices of a slice: a beginning of an owned one, and what lies behind it. -/
namespace Go.Proofs.Ytdocgemfedohdaa
open Go.RowKit
theorem Own.cut {α : Type} {w : World} {base : Nat} {e : TypeId} {k : Nat} {enc : α → List Value} (hk : ∀ x, (enc x).length = k) {A : Option Addr} {n c : Nat} {xs : List α} (h : Own w base e k enc (.slice A n c) xs) {j : Nat} (hj : j ≤ xs.length) :
    Own w base e k enc (.slice A j c) (xs.take j) := by
  have hl : (xs.take j).length = j := by simp; omega
  refine ⟨flatMap_len hk _, ?_⟩
  rw [hl]
  rcases h.2 with ⟨h1, h2⟩ | ⟨g, cap, cur, h1, hb, hh, hle, hm, hs, ht⟩
  · cases h1
    exact .inl ⟨by congr 1; omega, by omega⟩
  · cases h1
    refine .inr ⟨g, c, cur, rfl, hb, hh, by omega, hm, hs, ?_⟩
    have : xs.flatMap enc = (xs.take j).flatMap enc ++ (xs.drop j).flatMap enc := by rw [← List.flatMap_append, List.take_append_drop]
    have h3 : (cur.toList.take (xs.length * k)).take (j * k) = ((xs.take j).flatMap enc ++ (xs.drop j).flatMap enc).take (j * k) := by rw [ht, this]
    rw [List.take_take, Nat.min_eq_left (Nat.mul_le_mul_right k hj), List.take_left' (by rw [flatMap_len hk, hl])] at h3
    exact h3
theorem Rd.drop {α : Type} {k : Nat} {enc : α → List Value} {w : World} {b o : Nat} {xs : List α} (h : Rd k enc w (some ⟨b, o, none⟩) xs) (n : Nat) : Rd k enc w (some ⟨b, o + n * k, none⟩) (xs.drop n) := by
  refine ⟨by have := h.1; simp; omega, fun hne => ?_⟩
  obtain ⟨b', o', he, hlt, hc⟩ := h.2 (fun e => hne (by rw [e]; simp))
  cases he
  refine ⟨b, _, rfl, hlt, fun i x hx j u hu => ?_⟩
  rw [List.getElem?_drop] at hx
  have := hc (n + i) x hx j u hu
  rw [Nat.add_mul, ← Nat.add_assoc] at this
  exact this
theorem Own.src {α : Type} {w : World} {base : Nat} {e : TypeId} {k : Nat} {enc : α → List Value} {v : Value} {xs : List α} (hk : ∀ x, (enc x).length = k) (h : Own w base e k enc v xs) : ∃ A c, v = .slice A xs.length c ∧ Rd k enc w A xs ∧ (A = none → c = 0) := by
  obtain ⟨A, c, hv, hr⟩ := h.rd hk
  refine ⟨A, c, hv, hr, fun e => ?_⟩
  rcases h.2 with ⟨h1, _⟩ | ⟨g, cap, cur, h1, _⟩
  · rw [hv] at h1; injection h1
  · rw [hv, e] at h1; injection h1 with h1 _ _; cases h1
theorem Own.rdm {α : Type} {w : World} {base : Nat} {e : TypeId} {k : Nat} {enc : α → List Value} {v : Value} {xs : List α} (hk : ∀ x, (enc x).length = k) (h : Own w base e k enc v xs) : ∃ A c, v = .slice A xs.length c ∧ xs.length ≤ c ∧ c ≤ maxLen ∧ Rd k enc w A xs := by
  obtain ⟨A, c, hv, hc, hr⟩ := h.rdc hk
  refine ⟨A, c, hv, hc, ?_, hr⟩
  rcases h.2 with ⟨h1, _⟩ | ⟨g, cap, cur, h1, _, _, _, hm, _⟩
  · rw [hv] at h1; injection h1 with e1 e2 e3; subst e3; decide
  · rw [hv] at h1; injection h1 with e1 e2 e3; subst e3; exact hm
theorem Own.apart {α : Type} {w w' : World} {base : Nat} {e : TypeId} {k : Nat} {enc : α → List Value} {v : Value} {xs : List α} {row : Option Nat} (h : Own w base e k enc v xs) (hg : w.grownBy w' row) {B : Nat} (h1 : ∀ q, v.ownBlock = some q → B ≤ q) (h2 : ∀ q, row = some q → q < B) : Own w' base e k enc v xs := by
  refine World.ownsRow.kept h hg ?_
  cases hq : v.ownBlock with
  | none => exact .inl rfl
  | some q =>
    refine .inr (fun e => ?_)
    have a := h1 q hq
    have b := h2 q e.symm
    omega
end Go.Proofs.Ytdocgemfedohdaa
/-! A row of a call's own, of elements of some cells each, that the library's sort has laid anew. -/
namespace Go.Proofs.Ytdocgemfedohdaa
open Go.RowKit
section
variable {α : Type} [Inhabited α] {enc : α → List Value} {k : Nat}
theorem flatK_list (hk : ∀ x, (enc x).length = k) (hk0 : 0 < k) (d : Array α) : (Sort.flatK enc k d).toList = d.toList.flatMap enc := by
  have hl : (d.toList.flatMap enc).length = d.size * k := by rw [flatMap_len hk]; simp
  apply List.ext_getElem?
  intro t
  by_cases ht : t < d.size * k
  · have hq : t / k < d.size := Nat.div_lt_of_lt_mul (by rwa [Nat.mul_comm])
    have hr : t % k < k := Nat.mod_lt _ hk0
    have h1 : (Sort.flatK enc k d).toList[t]? = some ((enc d[t / k]!)[t % k]!) := by
      have hs : t < (Sort.flatK enc k d).size := by simpa using ht
      have := Sort.get_flatK enc k d t ht
      rw [getElem!_pos _ t hs] at this
      rw [Array.getElem?_toList, Array.getElem?_eq_getElem hs, this]
    have hge : d.toList[t / k]? = some d[t / k]! := by simp [hq]
    have hlen : t % k < (enc d[t / k]!).length := by rw [hk]; exact hr
    have h2 := flatMap_get hk d.toList (t / k) _ hge (t % k) _ (List.getElem?_eq_getElem hlen)
    have hd : t / k * k + t % k = t := by rw [Nat.mul_comm]; exact Nat.div_add_mod t k
    rw [hd] at h2
    rw [h1, h2, getElem!_pos (enc d[t / k]!) (t % k) hlen]
  · rw [List.getElem?_eq_none (by simp; omega), List.getElem?_eq_none (by rw [hl]; omega)]
theorem Own.holdsK (hk : ∀ x, (enc x).length = k) (hk0 : 0 < k) {w : World} {e : TypeId} {g : Nat} {cur : Array Value} {l : List α} (hh : w.heap[g]? = some (.cells cur e (0, 0))) (ht : cur.toList.take (l.length * k) = l.flatMap enc) :
    Sort.HoldsK enc k w g 0 l.toArray := by
  intro j hj
  have hj' : j < l.length * k := by simpa using hj
  refine ⟨?_, by simp [World.frozen?, hh]⟩
  rw [Nat.zero_add, blk_cell hh j]
  have h1 := flatK_list hk hk0 l.toArray
  have h2 : (cur.toList.take (l.length * k))[j]? = (Sort.flatK enc k l.toArray).toList[j]? := by rw [ht, h1]
  rw [List.getElem?_take_of_lt hj'] at h2
  rw [getElem!_pos _ j hj]
  simp only [id]
  have h3 : (Sort.flatK enc k l.toArray).toList[j]? = some ((Sort.flatK enc k l.toArray)[j]) := by simp
  rw [h3] at h2
  simpa using h2
theorem rowK_heap {w : World} {g : Nat} {cur : Array Value} {e : TypeId} (hh : w.heap[g]? = some (.cells cur e (0, 0))) (F : Array Value) (n : Nat) (os : Array Obj) :
    (Sort.grow (Sort.putRow id (Sort.ahead w n) g 0 F) os).heap[g]? = some (.cells (Sort.putCells id 0 F cur) e (0, 0)) := by
  have hlt := lt_of_block hh
  rw [Sort.heap_grow_old _ _ (by simpa using hlt)]
  simp [Sort.putRow, Sort.mapBlock, Array.getElem?_modify, hh, Sort.onCells]
theorem rowK_other {w : World} {g j : Nat} (hj : j < w.heap.size) (hne : j ≠ g) (F : Array Value) (n : Nat) (os : Array Obj) :
    (Sort.grow (Sort.putRow id (Sort.ahead w n) g 0 F) os).heap[j]? = w.heap[j]? := by
  rw [Sort.heap_grow_old _ _ (by simpa using hj)]
  simp [Sort.putRow, Sort.mapBlock, Array.getElem?_modify, Ne.symm hne]
theorem putCellsK_take {cur : Array Value} {F : Array Value} (h : F.size ≤ cur.size) : (Sort.putCells id 0 F cur).toList.take F.size = F.toList := by
  apply List.ext_getElem?
  intro j
  rw [List.getElem?_take]
  by_cases hj : j < F.size
  · have hc : j < cur.size := by omega
    simp [Sort.putCells, hj, hc]
  · simp [hj]
theorem Own.relaidK (hk : ∀ x, (enc x).length = k) (hk0 : 0 < k) {w : World} {base : Nat} {e : TypeId} {g cap : Nat} {cur : Array Value} (hb : base ≤ g) (hh : w.heap[g]? = some (.cells cur e (0, 0))) (hm : cap ≤ maxLen) (hs : cur.size = cap * k) (d : Array α) (hd : d.size ≤ cap) (n : Nat) (os : Array Obj) :
    Own (sortWorldK enc k w g 0 n d os) base e k enc (.slice (some ⟨g, 0, none⟩) d.size cap) d.toList := by
  refine ⟨by rw [flatMap_len hk], .inr ⟨g, cap, _, by simp, hb, rowK_heap hh _ n os, by simpa using hd, hm, by simp [Sort.putCells, hs], ?_⟩⟩
  have hF : (Sort.flatK enc k d).size ≤ cur.size := by rw [Sort.size_flatK, hs]; exact Nat.mul_le_mul_right k hd
  have ht := putCellsK_take hF
  rw [Sort.size_flatK] at ht
  rw [← flatK_list hk hk0, ← ht]
  simp
theorem grownBy_rowK {w : World} {g : Nat} (d : Array α) (n : Nat) (os : Array Obj) : w.grownBy (sortWorldK enc k w g 0 n d os) (some g) :=
  ⟨rfl, rfl, rfl, by unfold sortWorldK Sort.putRowK; simp, fun j hj hne => rowK_other hj (fun e => hne (by rw [e])) _ n os⟩
theorem permIn_whole {d d' : Array α} (h : Sort.PermIn 0 d.size d d') : d'.toList.Perm d.toList := by
  obtain ⟨h1, _, h3⟩ := h
  have e1 : (d'.extract 0 d.size) = d' := by rw [← h1]; simp
  have e2 : (d.extract 0 d.size) = d := by simp
  rw [e1, e2] at h3
  exact h3
theorem sortedIn_pairwise {lt : α → α → Bool} {d : Array α} {n : Nat} (hn : d.size = n) (h : Sort.SortedIn lt 0 n d) : d.toList.Pairwise (fun x y => lt y x = false) := by
  rw [List.pairwise_iff_getElem]
  intro i j hi hj hij
  have hi' : i < d.size := by simpa using hi
  have hj' : j < d.size := by simpa using hj
  have := h i j (Nat.zero_le _) hij (by omega)
  rw [getElem!_pos d i hi', getElem!_pos d j hj'] at this
  simpa using this
end
end Go.Proofs.Ytdocgemfedohdaa
/-! Checkpoints in order: ffg.order, walked, and slices.SortFunc by it. -/
namespace Go.Proofs.Ytdocgemfedohdaa
open Go.RowKit
set_option maxHeartbeats 400000 in
theorem isnanS_any (x : Int) (w : World) : Calls Try.prog 131 #[.int .u64 x] w fun e w' => e = .returned (.bool false) ∧ w' = w := by
  go_enter Try.func131, Try.ntmps131
  go_wp2
  go_ret
  exact ⟨ret_bool (by simp), rfl⟩
set_option maxHeartbeats 400000 in
theorem cmpuS_any (x y : Int) (w : World) : Calls Try.prog 114 #[.int .u64 x, .int .u64 y] w fun e w' => e = .returned (.int .i64 (cmpU x y)) ∧ w' = w := by
  go_enter Try.func114, Try.ntmps114
  go_wp2_with (go_at_call 131; (with_reducible refine (isnanS_any _ _).mono ?_); rintro e w' ⟨rfl, rfl⟩)
  all_goals
    go_ret
    refine ⟨?_, rfl⟩
    unfold cmpU
    (first | rw [if_pos (by omega)] | rw [if_neg (by omega), if_pos (by omega)] | rw [if_neg (by omega), if_neg (by omega)])
    try rfl
set_option maxRecDepth 100000 in
set_option maxHeartbeats 1000000 in
theorem scmpS_any (x y : ID) (A B : Option Addr) (c d : Nat) (w : World) (hA : Rd 1 encU w A [x.hi, x.lo]) (hB : Rd 1 encU w B [y.hi, y.lo]) :
    Calls Try.prog 90 #[.slice A 2 c, .slice B 2 d] w fun e w' => e = .returned (.int .i64 (cmpID x y)) ∧ w' = w := by
  have h0 := fun V => cmpuS_any x.hi y.hi V
  have h1 := fun V => cmpuS_any x.lo y.lo V
  have hq : ∃ q, cmpID x y = q := ⟨_, rfl⟩
  obtain ⟨q, hq⟩ := hq
  rw [hq]
  unfold cmpID at hq
  obtain ⟨m, hm⟩ : ∃ m, cmpU x.hi y.hi = m := ⟨_, rfl⟩
  obtain ⟨n, hn⟩ : ∃ n, cmpU x.lo y.lo = n := ⟨_, rfl⟩
  rw [hm] at h0 hq
  rw [hn] at h1 hq
  clear hm hn
  have hq' := Lib.hid hq
  clear hq
  obtain ⟨b, o, rfl, hb, c0, c1⟩ := at0 hA
  obtain ⟨b', o', rfl, hb', d0, d1⟩ := at0 hB
  clear hA hB
  go_enter Try.func90, Try.ntmps90
  go_wp2_with fail
  go_loop [5, 6, 7, 8, 11] (fun x5 x6 x7 x8 i => ∃ k : Nat, k ≤ 2 ∧ i = .int .i64 k ∧ (1 ≤ k → m = 0) ∧ (k = 2 → n = 0)) (fun _ _ _ _ i => 2 - (intOf i).toNat)
  case atStart => exact ⟨0, by omega, rfl, by omega, by omega⟩
  case round =>
    obtain ⟨k, hk, rfl, hm0, hn0⟩ := hrel
    rcases (show k = 0 ∨ k = 1 ∨ k = 2 by omega) with rfl | rfl | rfl
    · by_cases hz : m = 0
      · clear hm0 hn0
        go_wp2_with (go_at_call 114; with_reducible refine (h0 _).mono ?_; clear h0; rintro e w1 ⟨rfl, rfl⟩)
        go_round
        case rel => exact ⟨1, by omega, rfl, fun _ => hz, by omega⟩
        case measure => simp [intOf]
      · clear hm0 hn0
        go_wp2_with (go_at_call 114; with_reducible refine (h0 _).mono ?_; clear h0; rintro e w1 ⟨rfl, rfl⟩)
        go_ret
        exact ⟨ret_int (by rw [← hq'.out, if_neg hz]), rfl⟩
    · have hz := hm0 (Nat.le_refl _)
      by_cases hy : n = 0
      · clear hm0 hn0
        go_wp2_with (go_at_call 114; with_reducible refine (h1 _).mono ?_; clear h1; rintro e w1 ⟨rfl, rfl⟩)
        go_round
        case rel => exact ⟨2, by omega, rfl, fun _ => hz, fun _ => hy⟩
        case measure => simp [intOf]
      · clear hm0 hn0
        go_wp2_with (go_at_call 114; with_reducible refine (h1 _).mono ?_; clear h1; rintro e w1 ⟨rfl, rfl⟩)
        go_ret
        exact ⟨ret_int (by rw [← hq'.out, if_pos hz]), rfl⟩
    · have hz := hm0 (by omega)
      have hy := hn0 rfl
      clear hm0 hn0
      go_wp2_with fail
      go_ret
      exact ⟨ret_int (by rw [← hq'.out, if_pos hz, hy]), rfl⟩
/-- What a quiet call that lays blocks leaves. -/
def Grows (w w' : World) : Prop := ∃ q os', w' = Sort.grow (w.drewN q) os'
theorem Grows.refl (w : World) : Grows w w := ⟨0, #[], by rw [Sort.grow_empty]; rfl⟩
theorem Grows.alloc {w w' : World} (h : Grows w w') (o : Obj) : Grows w (w'.alloc o) := by
  obtain ⟨q, os', rfl⟩ := h
  exact ⟨q, os' ++ #[o], by rw [Sort.alloc_eq_grow, Sort.grow_grow]⟩
theorem Grows.drewN {w w' : World} (h : Grows w w') (n : Nat) : Grows w (w'.drewN n) := by
  obtain ⟨q, os', rfl⟩ := h
  refine ⟨q + n, os', ?_⟩
  unfold Sort.grow World.drewN
  simp [Nat.add_assoc]
theorem Grows.trans {w w' w'' : World} (h : Grows w w') (h2 : Grows w' w'') : Grows w w'' := by
  obtain ⟨q, os', rfl⟩ := h
  obtain ⟨q2, os2, rfl⟩ := h2
  refine ⟨q + q2, os' ++ os2, ?_⟩
  unfold Sort.grow World.drewN
  simp [Nat.add_assoc]
set_option maxRecDepth 100000 in
set_option maxHeartbeats 1000000 in
theorem mlessS_any (x y : ID) (w : World) : Calls Try.prog 87 #[idv x, idv y] w fun e w' => e = .returned (.bool (idLess x y)) ∧ Grows w w' := by
  have hs := fun V A B c d hA hB => scmpS_any x y A B c d V hA hB
  rw [← cmpID_less]
  obtain ⟨q, hq⟩ : ∃ q, cmpID x y = q := ⟨_, rfl⟩
  rw [hq] at hs ⊢
  clear hq
  unfold idv
  have hW : ∃ W, (w.alloc (.cells #[.int .u64 x.hi, .int .u64 x.lo] 29)).alloc (.cells #[.int .u64 y.hi, .int .u64 y.lo] 29) = W := ⟨_, rfl⟩
  obtain ⟨W, hW⟩ := hW
  have hG : ∀ n, Grows w (W.drewN n) := fun n => by subst hW; exact (((Grows.refl w).alloc _).alloc _).drewN n
  have b0 : W.heap[w.heap.size]? = some (.cells #[.int .u64 x.hi, .int .u64 x.lo] 29 (0, 0)) := by subst hW; exact ha_lt (ha_at rfl)
  have b1 : W.heap[w.heap.size + 1]? = some (.cells #[.int .u64 y.hi, .int .u64 y.lo] 29 (0, 0)) := by subst hW; exact ha_at (by simp)
  have hR0 : ∀ p, Rd 1 encU (W.drewN p) (some ⟨w.heap.size, 0, none⟩) [x.hi, x.lo] := fun p => Rd_blk (by simp) b0 (fun i z hz j u hu => by
    rcases i with _ | _ | i <;> rcases j with _ | j <;> simp [encU] at hz hu <;> subst hz <;> simpa using hu)
  have hR1 : ∀ p, Rd 1 encU (W.drewN p) (some ⟨w.heap.size + 1, 0, none⟩) [y.hi, y.lo] := fun p => Rd_blk (by simp) b1 (fun i z hz j u hu => by
    rcases i with _ | _ | i <;> rcases j with _ | j <;> simp [encU] at hz hu <;> subst hz <;> simpa using hu)
  have h1 := fun p c d => hs (W.drewN p) _ _ c d (hR0 p) (hR1 p)
  clear hs hR0 hR1
  go_enter Try.func87, Try.ntmps87
  go_wp2_with fail
  go_quiet ((go_at_call 90; with_reducible exact Calls.quiet_of_same (h1 _ _ _)))
  go_wp2
  go_ret
  exact ⟨rfl, hG _⟩
def cmpC (x y : Chk) : Int := if x.epoch ≠ y.epoch then (if x.epoch < y.epoch then -1 else if y.epoch < x.epoch then 1 else 0) else if x = y then 0 else if idLess x.root y.root then -1 else 1
def cmpE (x y : Int) : Int := if x < y then -1 else if y < x then 1 else 0
set_option maxHeartbeats 400000 in
theorem isnanI_any (a : Int) (w : World) : Calls Try.prog 109 #[.int .i64 a] w fun e w' => e = .returned (.bool false) ∧ w' = w := by
  go_enter Try.func109, Try.ntmps109
  go_wp2
  go_ret
  exact ⟨rfl, rfl⟩
set_option maxHeartbeats 400000 in
theorem compareI_any (a b : Int) (w : World) : Calls Try.prog 86 #[.int .i64 a, .int .i64 b] w fun e w' => e = .returned (.int .i64 (cmpE a b)) ∧ w' = w := by
  unfold cmpE
  by_cases h1 : a < b
  · rw [if_pos h1]
    go_enter Try.func86, Try.ntmps86
    go_wp2_with (go_at_call 109; refine (isnanI_any _ _).mono ?_; rintro e w' ⟨rfl, rfl⟩)
    go_ret
    exact ⟨rfl, rfl⟩
  · rw [if_neg h1]
    by_cases h2 : b < a
    · rw [if_pos h2]
      go_enter Try.func86, Try.ntmps86
      go_wp2_with (go_at_call 109; refine (isnanI_any _ _).mono ?_; rintro e w' ⟨rfl, rfl⟩)
      go_ret
      exact ⟨rfl, rfl⟩
    · rw [if_neg h2]
      go_enter Try.func86, Try.ntmps86
      go_wp2_with (go_at_call 109; refine (isnanI_any _ _).mono ?_; rintro e w' ⟨rfl, rfl⟩)
      go_ret
      exact ⟨rfl, rfl⟩
theorem cmpC_ne {x y : Chk} (h : x.epoch ≠ y.epoch) : cmpC x y = cmpE x.epoch y.epoch := if_pos h
theorem cmpC_eq {x y : Chk} (h : x = y) : cmpC x y = 0 := by unfold cmpC; rw [if_neg (by rw [h]; simp), if_pos h]
theorem cmpC_le {x y : Chk} (h1 : x.epoch = y.epoch) (h2 : x ≠ y) : cmpC x y = if idLess x.root y.root then -1 else 1 := by unfold cmpC; rw [if_neg (by simp [h1]), if_neg h2]
theorem ltOf_cmpC (x y : Chk) : ltOf cmpC x y = ltC x y := by
  unfold ltOf ltC
  by_cases h : x.epoch ≠ y.epoch
  · rw [cmpC_ne h]
    unfold cmpE
    by_cases h1 : x.epoch < y.epoch
    · simp [h1]
    · by_cases h2 : y.epoch < x.epoch <;> simp [h1, h2, h]
  · have h : x.epoch = y.epoch := Classical.byContradiction h
    by_cases he : x = y
    · subst he
      rw [cmpC_eq rfl]
      simp
      cases hb : idLess x.root x.root with
      | false => rfl
      | true => rw [idLess_iff] at hb; omega
    · rw [cmpC_le h he, h]
      by_cases hl : idLess x.root y.root = true <;> simp [hl]
theorem swoC : Sort.SWO (ltOf cmpC) where
  irrefl x := by rw [ltOf_cmpC]; exact ltC_irrefl x
  trans x y z h1 h2 := by rw [ltOf_cmpC] at *; exact ltC_trans h1 h2
  ntrans x y z h1 h2 := by
    rw [ltOf_cmpC] at *
    cases h : ltC x z with
    | false => rfl
    | true =>
      cases h3 : ltC y z with
      | true => rw [h3] at h2; cases h2
      | false =>
        cases h4 : ltC z y with
        | true => rw [ltC_trans h h4] at h1; cases h1
        | false => have := ltC_total h3 h4; subst this; rw [h] at h1; cases h1
set_option maxRecDepth 100000 in
set_option maxHeartbeats 1000000 in
theorem order_any (x y : Chk) (w : World) : Calls Try.prog 66 #[chkv x, chkv y] w fun e w' => e = .returned (.int .i64 (cmpC x y)) ∧ Grows w w' := by
  have hless := fun V => mlessS_any x.root y.root V
  have hcmp := fun V => compareI_any x.epoch y.epoch V
  have heq := eql_chk x y
  obtain ⟨W, hW⟩ : ∃ W, (w.alloc (.cells #[.int .i64 x.epoch, .int .u64 x.root.hi, .int .u64 x.root.lo] 31)).alloc (.cells #[.int .i64 y.epoch, .int .u64 y.root.hi, .int .u64 y.root.lo] 31) = W := ⟨_, rfl⟩
  have hG : Grows w W := by subst hW; exact ((Grows.refl w).alloc _).alloc _
  have b0 : W.heap[w.heap.size]? = some (.cells #[.int .i64 x.epoch, .int .u64 x.root.hi, .int .u64 x.root.lo] 31 (0, 0)) := by subst hW; exact ha_lt (ha_at rfl)
  have b1 : W.heap[w.heap.size + 1]? = some (.cells #[.int .i64 y.epoch, .int .u64 y.root.hi, .int .u64 y.root.lo] 31 (0, 0)) := by subst hW; exact ha_at (by simp)
  obtain ⟨c0, c1, c2⟩ := blk3 b0
  obtain ⟨d0, d1, d2⟩ := blk3 b1
  by_cases h1 : x.epoch = y.epoch
  · have e1 : (x.epoch != y.epoch) = false := by simpa using h1
    by_cases h2 : x = y
    · have hres := Lib.hid (cmpC_eq h2)
      rw [decide_eq_true h2] at heq
      clear h1 h2 hless hcmp
      unfold chkv
      go_enter Try.func66, Try.ntmps66
      go_wp2
      go_ret
      exact ⟨ret_int hres.out.symm, hG⟩
    · have hres := Lib.hid (cmpC_le h1 h2)
      rw [decide_eq_false h2] at heq
      clear h1 h2 hcmp
      cases hl : idLess x.root y.root
      all_goals
        rw [hl] at hless hres
        clear hl
        unfold chkv idv at *
        go_enter Try.func66, Try.ntmps66
        go_wp2_with (go_at_call 87; (with_reducible refine (hless _).mono ?_); clear hless; rintro e w1 ⟨rfl, hg1⟩)
        go_ret
        exact ⟨ret_int (by rw [hres.out]; rfl), hG.trans hg1⟩
  · have e1 : (x.epoch != y.epoch) = true := by simpa using h1
    have hres := Lib.hid (cmpC_ne h1)
    clear h1 hless heq
    obtain ⟨q, hq⟩ : ∃ q, cmpE x.epoch y.epoch = q := ⟨_, rfl⟩
    rw [hq] at hcmp hres
    clear hq
    unfold chkv
    go_enter Try.func66, Try.ntmps66
    go_wp2_with (go_at_call 86; (with_reducible refine (hcmp _).mono ?_); clear hcmp; rintro e w1 ⟨rfl, rfl⟩)
    go_ret
    exact ⟨ret_int hres.out.symm, hG⟩
theorem csortf_any (l : List Chk) (v : Value) (base : Nat) (w : World) (hown : Own w base 31 3 encChk v l) (hl : l.length < 4611686018427387904) :
    Calls Try.prog 84 #[v, .func (.func 66) #[] #[]] w fun e w' => e = .returned (.tuple #[]) ∧ ∃ l', Own w' base 31 3 encChk v l' ∧ l'.Perm l ∧ l'.Pairwise (fun x y => ltC y x = false) ∧ w.grownBy w' v.ownBlock := by
  rcases hown.block with ⟨rfl, rfl⟩ | ⟨g, cap, cur, rfl, hb, hh, hle, hm, hs, ht⟩
  · have hcon := AnyF.slices_SortFunc_none sh_sortC none 0 (.func (.func 66) #[] #[]) w
    change Calls Try.prog 84 _ _ _ at hcon
    refine hcon.mono fun e w' ⟨he, hw⟩ => ?_
    subst hw
    exact ⟨he, [], Own.nil _ _ _ _ _, List.Perm.refl _, List.Pairwise.nil, rfl, rfl, rfl, Nat.le_refl _, fun _ _ _ => rfl⟩
  · have eg : ∀ args w, (callFunc 66 args).run Try.prog w = .ok (.enter 66 args) w := enters_of Try.func66 (by kernel_rfl) rfl
    have hcon := AnyQ.slices_SortFunc sh_sortC 3 Try.isAgg31 Try.sizeOf31 encChk encChk_len (fun x v hv => encChk_one x v hv) cmpC swoC 66 #[] g 0 cap l.toArray w eg (fun _ _ _ _ x y => order_any x y _) (Own.holdsK encChk_len (by decide) hh ht) (lt_of_block hh) (by simpa using hl)
    change Calls Try.prog 84 _ _ _ at hcon
    refine hcon.mono fun e w' ⟨he, d', n, os, hp, hso, hw⟩ => ?_
    subst hw
    have hsz : d'.size = l.length := by simpa using hp.1
    have ho := Own.relaidK encChk_len (by decide) hb hh hm hs d' (by omega) n os
    rw [hsz] at ho
    refine ⟨he, d'.toList, ho, by simpa using permIn_whole hp, ?_, grownBy_rowK d' n os⟩
    have := sortedIn_pairwise (n := l.toArray.size) (by simpa using hsz) hso
    refine this.imp fun {x y} h => ?_
    rw [ltOf_cmpC] at h
    exact h
/-- Sorted, where nobody is there twice. -/
theorem sortedC_of {l : List Chk} (h : l.Pairwise (fun x y => ltC y x = false)) (hn : l.Nodup) : SortedC l := by
  unfold SortedC
  have := List.Pairwise.and h hn
  refine this.imp fun {x y} ⟨h1, h2⟩ => ?_
  cases h3 : ltC x y with
  | true => rfl
  | false => exact absurd (ltC_total h3 h1) h2
end Go.Proofs.Ytdocgemfedohdaa
