/- Chapter 12's example, and SlashTells, walked. -/
import Derived.Test.YtigdbcfpamnkcaaSlashG
import Derived.Test.YtigdbcfpamnkcaaReadL
namespace Go.Proofs.Ytigdbcfpamnkcaa
open Go.RowKit
def aw1 : Lnk := ⟨1, ⟨0, ⟨0, 0⟩⟩, ⟨3, ⟨0, 0⟩⟩⟩
def aw2 : Lnk := ⟨1, ⟨1, ⟨0, 0⟩⟩, ⟨2, ⟨0, 0⟩⟩⟩
theorem aw_pair : Pair aw1 aw2 := by decide
theorem aw_pair2 : Pair aw2 aw1 := by decide
theorem aw_guilty : guiltyL [aw1, aw2] = [1] := by
  refine (guiltyL_eq (v := [aw1, aw2]) (g := [1]) ⟨⟨by simp, trivial⟩, fun f => ?_⟩).symm
  rw [List.mem_singleton]
  constructor
  · rintro rfl
    exact ⟨aw1, by simp, aw2, by simp, aw_pair, rfl⟩
  · rintro ⟨x, hx, y, hy, _, rfl⟩
    simp only [List.mem_cons, List.not_mem_nil, or_false] at hx
    rcases hx with rfl | rfl <;> rfl
theorem not_pair (a : Lnk) : decide (Pair a a) = false := by simpa using pair_irrefl a
set_option maxRecDepth 100000 in
set_option maxHeartbeats 2000000 in
theorem awake_any (w : World) : Calls Try.prog 8 #[] w fun e w' => e = .returned (.bool true) ∧ Below w.heap.size w w' := by
  have hp1 := fun V => pair_any aw1 aw2 V
  have hp2 := fun V => pair_any aw2 aw1 V
  have hp3 := fun V => pair_any aw1 aw1 V
  rw [show decide (Pair aw1 aw2) = true from by simpa using aw_pair] at hp1
  rw [show decide (Pair aw2 aw1) = true from by simpa using aw_pair2] at hp2
  rw [not_pair] at hp3
  dsimp only [lnkv, aw1, aw2] at hp1 hp2 hp3
  have hW : ∃ W, ((w.alloc (.cells #[.int .i64 1, .int .i64 0, .int .u64 0, .int .u64 0, .int .i64 3, .int .u64 0, .int .u64 0] 28)).alloc (.cells #[.int .i64 1, .int .i64 1, .int .u64 0, .int .u64 0, .int .i64 2, .int .u64 0, .int .u64 0] 28)).alloc (.cells #[.int .i64 1, .int .i64 0, .int .u64 0, .int .u64 0, .int .i64 3, .int .u64 0, .int .u64 0, .int .i64 1, .int .i64 1, .int .u64 0, .int .u64 0, .int .i64 2, .int .u64 0, .int .u64 0] 28) = W := ⟨_, rfl⟩
  obtain ⟨W, hW⟩ := hW
  have hB : Below w.heap.size w W := by subst hW; exact ((((Below.refl _ w).alloc (by simp) _).alloc (by simp) _).alloc (by simp; omega) _)
  have b0 : W.heap[w.heap.size]? = some (.cells #[.int .i64 1, .int .i64 0, .int .u64 0, .int .u64 0, .int .i64 3, .int .u64 0, .int .u64 0] 28 (0, 0)) := by subst hW; exact ha_lt (ha_lt (ha_at rfl))
  have b1 : W.heap[w.heap.size + 1]? = some (.cells #[.int .i64 1, .int .i64 1, .int .u64 0, .int .u64 0, .int .i64 2, .int .u64 0, .int .u64 0] 28 (0, 0)) := by subst hW; exact ha_lt (ha_at (by simp))
  have hR : Rd 7 encLnk W (some ⟨w.heap.size + 1 + 1, 0, none⟩) [aw1, aw2] := by
    subst hW
    exact Rd_flat (k := 7) (enc := encLnk) (xs := [aw1, aw2]) encLnk_len (by decide) (ha_at (by simp)) rfl
  have hg := guilty_any [aw1, aw2] _ 2 W hR (Nat.le_refl _) (by decide) (by decide)
  rw [aw_guilty, show [aw1, aw2].length = 2 from rfl, ← hW] at hg
  obtain ⟨c0, c1, c2, c3, c4, c5, c6⟩ := blkL b0
  have hW' := Lib.hid hW
  clear hW
  go_enter Try.func8, Try.ntmps8
  go_wp2_with (first
    | (go_at_call 10; with_reducible refine hg.mono ?_; clear hg; rintro e w1 ⟨u, rfl, ho, hb1⟩; rw [hW'.out] at ho hb1; have hB1 := below_call hB hB.size hb1; have g0 := bl_own hb1 b0; have g1 := bl_own hb1 b1; obtain ⟨A1, k1, hu, hR1⟩ := ho.rd encI_len; subst hu; obtain ⟨d0, d1, d2, d3, d4, d5, d6⟩ := blkL g0; obtain ⟨e0, e1, e2, e3, e4, e5, e6⟩ := blkL g1)
    | (go_at_call 12; with_reducible refine (hp1 _).mono ?_; clear hp1; rintro e w2 ⟨rfl, hb2⟩; have hB2 := below_call hB1 hB1.size hb2; have g2 := bl_own hb2 g0; have g3 := bl_own hb2 g1; obtain ⟨d0, d1, d2, d3, d4, d5, d6⟩ := blkL g2; obtain ⟨e0, e1, e2, e3, e4, e5, e6⟩ := blkL g3)
    | (go_at_call 12; with_reducible refine (hp2 _).mono ?_; clear hp2; rintro e w3 ⟨rfl, hb3⟩; have hB3 := below_call hB2 hB2.size hb3; obtain ⟨d0, d1, d2, d3, d4, d5, d6⟩ := blkL (bl_own hb3 g2))
    | (go_at_call 12; with_reducible refine (hp3 _).mono ?_; clear hp3; rintro e w4 ⟨rfl, hb4⟩; have hB4 := below_call hB3 hB3.size hb4; obtain ⟨bz, oz, hz, _, z0⟩ := (hR1.below (hb2.trans ((hb3.trans (hb4.mono hb3.size)).mono hb2.size))).atI (i := 0) (by decide); subst hz; rw [Nat.add_zero] at z0; simp only [List.getElem_cons_zero] at z0))
  go_ret
  exact ⟨rfl, hB4⟩
set_option maxRecDepth 100000 in
set_option maxHeartbeats 2000000 in
theorem tells_any (a b : Lnk) (A : Option Addr) (v : List Lnk) (c : Nat) (w : World) (hc : v.length ≤ c) (hcm : c ≤ maxLen) (hr : Rd 7 encLnk w A v) :
    Calls Try.prog 3 #[lnkv a, lnkv b, .slice A v.length c] w fun e w' => e = .returned (.bool true) ∧ Below w.heap.size w w' := by
  have hm := hr.1
  have haw := fun V => awake_any V
  have hp := fun V => pair_any a b V
  have hq := fun V => rpair_any a b V
  obtain ⟨q, hq0⟩ : ∃ q, decide (Pair a b) = q := ⟨_, rfl⟩
  rw [hq0] at hp hq
  clear hq0
  unfold lnkv at *
  have hW : ∃ W, ((w.alloc (.cells #[.int .i64 a.frm, .int .i64 a.src.epoch, .int .u64 a.src.root.hi, .int .u64 a.src.root.lo, .int .i64 a.tgt.epoch, .int .u64 a.tgt.root.hi, .int .u64 a.tgt.root.lo] 28)).alloc (.cells #[.int .i64 b.frm, .int .i64 b.src.epoch, .int .u64 b.src.root.hi, .int .u64 b.src.root.lo, .int .i64 b.tgt.epoch, .int .u64 b.tgt.root.hi, .int .u64 b.tgt.root.lo] 28)) = W := ⟨_, rfl⟩
  obtain ⟨W, hW⟩ := hW
  have hB : Below w.heap.size w W := by subst hW; exact (((Below.refl _ w).alloc (by simp) _).alloc (by simp) _)
  have b0 : W.heap[w.heap.size]? = some (.cells #[.int .i64 a.frm, .int .i64 a.src.epoch, .int .u64 a.src.root.hi, .int .u64 a.src.root.lo, .int .i64 a.tgt.epoch, .int .u64 a.tgt.root.hi, .int .u64 a.tgt.root.lo] 28 (0, 0)) := by subst hW; exact ha_lt (ha_at (by simp))
  obtain ⟨c0, c1, c2, c3, c4, c5, c6⟩ := blkL b0
  have b1 : W.heap[w.heap.size + 1]? = some (.cells #[.int .i64 b.frm, .int .i64 b.src.epoch, .int .u64 b.src.root.hi, .int .u64 b.src.root.lo, .int .i64 b.tgt.epoch, .int .u64 b.tgt.root.hi, .int .u64 b.tgt.root.lo] 28 (0, 0)) := by subst hW; exact ha_at (by simp)
  obtain ⟨d0, d1, d2, d3, d4, d5, d6⟩ := blkL b1
  by_cases hsm : v.length ≤ 40
  · have hg := fun V (hV : Below w.heap.size w V) => guilty_any v A c V (hr.below hV) hc hcm (by omega)
    have hg2 := fun V (hV : Below w.heap.size w V) => rguilty_any v A c V (hr.below hV) (by omega)
    have hgl := guiltyL_len v
    obtain ⟨g, hgg⟩ : ∃ g, guiltyL v = g := ⟨_, rfl⟩
    rw [hgg] at hg hg2 hgl
    clear hgg
    have hn1 : ¬ (40 : Int) < (v.length : Int) := by omega
    have hn2 : ¬ 40 < v.length := by omega
    have hgs := Lib.hid hgl
    clear hgl
    cases q
    all_goals
      go_enter Try.func3, Try.ntmps3
      go_wp2_with (first
        | (go_at_call 8; with_reducible refine (haw _).mono ?_; clear haw; rintro e w1 ⟨rfl, hb1⟩; have hB1 := below_call hB hB.size hb1; have g0 := bl_own hb1 b0; have g1 := bl_own hb1 b1; obtain ⟨d0, d1, d2, d3, d4, d5, d6⟩ := blkL g0; obtain ⟨e0, e1, e2, e3, e4, e5, e6⟩ := blkL g1)
        | (go_at_call 9; with_reducible refine (hq _).mono ?_; clear hq; rintro e w2 ⟨rfl, hb2⟩; have hB2 := below_call hB1 hB1.size hb2; have g2 := bl_own hb2 g0; have g3 := bl_own hb2 g1)
        | (go_at_call 10; with_reducible refine (hg _ hB2).mono ?_; clear hg; rintro e w3 ⟨u, rfl, ho, hb3⟩; have hB3 := below_call hB2 hB2.size hb3; have g4 := bl_own hb3 g2; have g5 := bl_own hb3 g3; obtain ⟨A1, k1, hu, hR1⟩ := ho.rd encI_len; subst hu)
        | (go_at_call 11; with_reducible refine (hg2 _ hB3).mono ?_; clear hg2; rintro e w4 ⟨u, rfl, ho2, hb4⟩; have hB4 := below_call hB3 hB3.size hb4; have g6 := bl_own hb4 g4; have g7 := bl_own hb4 g5; obtain ⟨A2, k2, hu, hR2⟩ := ho2.rd encI_len; subst hu; have hR3 := hR1.below hb4; obtain ⟨d0, d1, d2, d3, d4, d5, d6⟩ := blkL g6; obtain ⟨e0, e1, e2, e3, e4, e5, e6⟩ := blkL g7)
        | (go_at_call 12; with_reducible refine (hp _).mono ?_; clear hp; rintro e w5 ⟨rfl, hb5⟩; have hB5 := below_call hB4 hB4.size hb5; have hR4 := hR3.below hb5; have hR5 := hR2.below hb5))
      go_loopw [11] (fun i wr => ∃ j : Nat, j ≤ g.length ∧ i = .int .i64 j ∧ Below w5.heap.size w5 wr) (fun i _ => g.length - (intOf i).toNat)
      case atStart => exact ⟨0, Nat.zero_le _, rfl, Below.refl _ _⟩
      case round =>
        obtain ⟨j, hj, rfl, hBj⟩ := hrel
        have hBw := below_call hB5 hB5.size hBj
        have hgs' := hgs.out
        by_cases hlt : j < g.length
        · obtain ⟨p1, o1, he1, _, y1⟩ := (hR4.below hBj).atI hlt
          subst he1
          obtain ⟨p2, o2, he2, _, y2⟩ := (hR5.below hBj).atI hlt
          subst he2
          obtain ⟨z, hz⟩ : ∃ z, g[j] = z := ⟨_, rfl⟩
          rw [hz] at y1 y2
          clear hz
          have y3 := gr_cell y1
          have y4 := gr_cell y2
          have hBg : ∀ p, Below w5.heap.size w5 (gr wr p) := fun p => hBj.trans ((gr_below _ _).mono hBj.size)
          go_wp2_with fail
          refine wp_region_gr (by kernel_rfl) (by kernel_rfl) ?_
          repeat (go_big_quiet_step (fail))
          refine wpQuiet_nil ?_
          rintro _ ⟨pq, rfl⟩
          go_wp2_with fail
          go_roundw
          case rel => exact ⟨j + 1, hlt, by go_num, hBg _⟩
          case measure => simp [intOf]; omega
        · obtain rfl : j = g.length := by omega
          go_wp2_with fail
          go_ret
          exact ⟨rfl, hBw⟩
  · have hn1 : (40 : Int) < (v.length : Int) := by omega
    have hn2 : 40 < v.length := by omega
    go_enter Try.func3, Try.ntmps3
    go_wp2_with (go_at_call 8; with_reducible refine (haw _).mono ?_; clear haw; rintro e w1 ⟨rfl, hb1⟩; have hB1 := below_call hB hB.size hb1)
    go_ret
    exact ⟨rfl, hB1⟩
end Go.Proofs.Ytigdbcfpamnkcaa
