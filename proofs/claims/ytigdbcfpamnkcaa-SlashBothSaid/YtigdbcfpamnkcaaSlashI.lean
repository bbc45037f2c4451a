/- SlashBoth, walked. -/
import Derived.Test.YtigdbcfpamnkcaaSlashH
import Derived.Deep.RegionHeld3
import Derived.Deep.RegionLaw
namespace Go.Proofs.Ytigdbcfpamnkcaa
open Go.RowKit
theorem two_held {w : World} {a b : Lnk} {B1 B2 : Nat} {T U : TypeId} (h1 : w.heap[B1]? = some (.cells #[.int .i64 a.frm, .int .i64 a.src.epoch, .int .u64 a.src.root.hi, .int .u64 a.src.root.lo, .int .i64 a.tgt.epoch, .int .u64 a.tgt.root.hi, .int .u64 a.tgt.root.lo] T (0, 0))) (h2 : w.heap[B2]? = some (.cells #[.int .i64 b.frm, .int .i64 b.src.epoch, .int .u64 b.src.root.hi, .int .u64 b.src.root.lo, .int .i64 b.tgt.epoch, .int .u64 b.tgt.root.hi, .int .u64 b.tgt.root.lo] U (0, 0))) :
    (w.cell? ⟨B1, 0, none⟩ = some (.int .i64 a.frm) ∧ w.cell? ⟨B1, 1, none⟩ = some (.int .i64 a.src.epoch) ∧ w.cell? ⟨B1, 2, none⟩ = some (.int .u64 a.src.root.hi) ∧ w.cell? ⟨B1, 3, none⟩ = some (.int .u64 a.src.root.lo) ∧ w.cell? ⟨B1, 4, none⟩ = some (.int .i64 a.tgt.epoch) ∧ w.cell? ⟨B1, 5, none⟩ = some (.int .u64 a.tgt.root.hi) ∧ w.cell? ⟨B1, 6, none⟩ = some (.int .u64 a.tgt.root.lo)) ∧ w.cell? ⟨B2, 0, none⟩ = some (.int .i64 b.frm) ∧ w.cell? ⟨B2, 1, none⟩ = some (.int .i64 b.src.epoch) ∧ w.cell? ⟨B2, 2, none⟩ = some (.int .u64 b.src.root.hi) ∧ w.cell? ⟨B2, 3, none⟩ = some (.int .u64 b.src.root.lo) ∧ w.cell? ⟨B2, 4, none⟩ = some (.int .i64 b.tgt.epoch) ∧ w.cell? ⟨B2, 5, none⟩ = some (.int .u64 b.tgt.root.hi) ∧ w.cell? ⟨B2, 6, none⟩ = some (.int .u64 b.tgt.root.lo) := ⟨blkL h1, blkL h2⟩
theorem guilty_two (a : Lnk) : guiltyL [a, a] = [] := (guiltyL_eq (v := [a, a]) (g := []) ⟨trivial, fun f => by simp [guilt_twice]⟩).symm
theorem both_has {v : List Lnk} {a : Lnk} {f : Int} (h : f ∈ guiltyL v) : decide (f ∈ guiltyL (v ++ [a])) = true := by
  rw [decide_eq_true_iff, (guiltyL_is _).2]
  exact guilt_more (((guiltyL_is _).2 f).1 h)
theorem both_new {v : List Lnk} {a : Lnk} {f : Int} (h : f ∈ guiltyL (v ++ [a])) : decide (f ∈ guiltyL v) = true ∨ f = a.frm := by
  rw [decide_eq_true_iff, (guiltyL_is _).2]
  exact guilt_new (((guiltyL_is _).2 f).1 h)
theorem guilty_rise {v : List Lnk} {i : Nat} (h : i + 1 < (guiltyL v).length) : decide ((guiltyL v)[i + 1] ≤ (guiltyL v)[i]) = false := by
  have := rises_le (guiltyL_is v).1 i (i + 1) (by omega) h (by omega)
  simpa using this
set_option maxRecDepth 100000 in
set_option maxHeartbeats 4000000 in
theorem bothbig_any (a b : Lnk) (A : Option Addr) (v : List Lnk) (c : Nat) (w : World) (hbig : 40 < v.length) (hm : v.length ≤ 9223372036854775807) (W : World)
    (hW : (w.alloc (.cells #[.int .i64 a.frm, .int .i64 a.src.epoch, .int .u64 a.src.root.hi, .int .u64 a.src.root.lo, .int .i64 a.tgt.epoch, .int .u64 a.tgt.root.hi, .int .u64 a.tgt.root.lo] 28)).alloc (.cells #[.int .i64 b.frm, .int .i64 b.src.epoch, .int .u64 b.src.root.hi, .int .u64 b.src.root.lo, .int .i64 b.tgt.epoch, .int .u64 b.tgt.root.hi, .int .u64 b.tgt.root.lo] 28) = W) (hB : Below w.heap.size w W)
    (b0 : W.heap[w.heap.size]? = some (.cells #[.int .i64 a.frm, .int .i64 a.src.epoch, .int .u64 a.src.root.hi, .int .u64 a.src.root.lo, .int .i64 a.tgt.epoch, .int .u64 a.tgt.root.hi, .int .u64 a.tgt.root.lo] 28 (0, 0))) (b1 : W.heap[w.heap.size + 1]? = some (.cells #[.int .i64 b.frm, .int .i64 b.src.epoch, .int .u64 b.src.root.hi, .int .u64 b.src.root.lo, .int .i64 b.tgt.epoch, .int .u64 b.tgt.root.hi, .int .u64 b.tgt.root.lo] 28 (0, 0))) :
    Calls Try.prog 4 #[.agg #[.int .i64 a.frm, .int .i64 a.src.epoch, .int .u64 a.src.root.hi, .int .u64 a.src.root.lo, .int .i64 a.tgt.epoch, .int .u64 a.tgt.root.hi, .int .u64 a.tgt.root.lo], .agg #[.int .i64 b.frm, .int .i64 b.src.epoch, .int .u64 b.src.root.hi, .int .u64 b.src.root.lo, .int .i64 b.tgt.epoch, .int .u64 b.tgt.root.hi, .int .u64 b.tgt.root.lo], .slice A v.length c] w fun e w' => e = .returned (.bool true) ∧ Below w.heap.size w w' := by
  have haw := fun V => awake_any V
  have hn1 : (40 : Int) < (v.length : Int) := by omega
  have hd0 : decide (40 < v.length) = true := by simp; omega
  go_enter Try.func4, Try.ntmps4
  go_wp2_with (go_at_call 8; with_reducible refine (haw _).mono ?_; clear haw; rintro e w1 ⟨rfl, hb1⟩; have hB1 := below_call hB hB.size hb1; have g0 := bl_own hb1 b0; have g1 := bl_own hb1 b1; obtain ⟨⟨c0, c1, c2, c3, c4, c5, c6⟩, ⟨d0, d1, d2, d3, d4, d5, d6⟩⟩ := two_held g0 g1)
  go_quiet (fail)
  go_wp2_with fail
  go_ret
  exact ⟨rfl, pw_below_drewN hB1 _⟩
set_option maxRecDepth 100000 in
set_option maxHeartbeats 4000000 in
theorem both_any (a b : Lnk) (A : Option Addr) (v : List Lnk) (c : Nat) (w : World) (hc : v.length ≤ c) (hcm : c ≤ maxLen) (hr : Rd 7 encLnk w A v) (hN : A = none → c = 0) :
    Calls Try.prog 4 #[lnkv a, lnkv b, .slice A v.length c] w fun e w' => e = .returned (.bool true) ∧ Below w.heap.size w w' := by
  have hm := hr.1
  have hun := Try.underlying29
  have haw := fun V => awake_any V
  have hp := fun V => pair_any a b V
  have hq := fun V => pair_any b a V
  have hs := fun V => pair_any a a V
  obtain ⟨q, hq0⟩ : ∃ q, decide (Pair a b) = q := ⟨_, rfl⟩
  have hq1 : decide (Pair b a) = q := by rw [← hq0]; exact decide_eq_decide.2 pair_symm
  rw [hq0] at hp
  rw [hq1] at hq
  rw [not_pair] at hs
  clear hq0 hq1
  unfold lnkv at *
  have hW : ∃ W, ((w.alloc (.cells #[.int .i64 a.frm, .int .i64 a.src.epoch, .int .u64 a.src.root.hi, .int .u64 a.src.root.lo, .int .i64 a.tgt.epoch, .int .u64 a.tgt.root.hi, .int .u64 a.tgt.root.lo] 28)).alloc (.cells #[.int .i64 b.frm, .int .i64 b.src.epoch, .int .u64 b.src.root.hi, .int .u64 b.src.root.lo, .int .i64 b.tgt.epoch, .int .u64 b.tgt.root.hi, .int .u64 b.tgt.root.lo] 28)) = W := ⟨_, rfl⟩
  obtain ⟨W, hW⟩ := hW
  have hB : Below w.heap.size w W := by subst hW; exact (((Below.refl _ w).alloc (by simp) _).alloc (by simp) _)
  have b0 : W.heap[w.heap.size]? = some (.cells #[.int .i64 a.frm, .int .i64 a.src.epoch, .int .u64 a.src.root.hi, .int .u64 a.src.root.lo, .int .i64 a.tgt.epoch, .int .u64 a.tgt.root.hi, .int .u64 a.tgt.root.lo] 28 (0, 0)) := by subst hW; exact ha_lt (ha_at (by simp))
  have b1 : W.heap[w.heap.size + 1]? = some (.cells #[.int .i64 b.frm, .int .i64 b.src.epoch, .int .u64 b.src.root.hi, .int .u64 b.src.root.lo, .int .i64 b.tgt.epoch, .int .u64 b.tgt.root.hi, .int .u64 b.tgt.root.lo] 28 (0, 0)) := by subst hW; exact ha_at (by simp)
  by_cases hsm : v.length ≤ 40
  · have hg0 := fun V A' (hR : Rd 7 encLnk V A' [a, a]) => guilty_any [a, a] A' 2 V hR (Nat.le_refl _) (by decide) (by simp)
    rw [guilty_two, show [a, a].length = 2 from rfl] at hg0
    have hg := fun V (hV : Below w.heap.size w V) => guilty_any v A c V (hr.below hV) hc hcm (by omega)
    have hg2 := fun V A' c' (hR : Rd 7 encLnk V A' (v ++ [a])) (h1 : (v ++ [a]).length ≤ c') (h2 : c' ≤ maxLen) => guilty_any (v ++ [a]) A' c' V hR h1 h2 (by simp; omega)
    have hgl := guiltyL_len v
    have hgl2 := guiltyL_len (v ++ [a])
    have hhas := Lib.hid (fun (j : Nat) (h : j < (guiltyL v).length) => both_has (a := a) (List.getElem_mem h))
    have hnew := Lib.hid (fun (j : Nat) (h : j < (guiltyL (v ++ [a])).length) => both_new (List.getElem_mem h))
    have hri := Lib.hid (fun (j : Nat) h => guilty_rise (v := v ++ [a]) (i := j) h)
    obtain ⟨g, hgg⟩ : ∃ g, guiltyL v = g := ⟨_, rfl⟩
    obtain ⟨h, hhh⟩ : ∃ h, guiltyL (v ++ [a]) = h := ⟨_, rfl⟩
    have hhas' := Lib.hid (show ∀ (j : Nat) (hj : j < g.length), decide (g[j] ∈ h) = true from by subst hgg hhh; exact hhas.out)
    have hnew' := Lib.hid (show ∀ (j : Nat) (hj : j < h.length), decide (h[j] ∈ g) = true ∨ h[j] = a.frm from by subst hgg hhh; exact hnew.out)
    have hri' := Lib.hid (show ∀ (j : Nat) (hj : j + 1 < h.length), decide (h[j + 1] ≤ h[j]) = false from by subst hhh; exact hri.out)
    rw [hgg] at hg hgl
    rw [hhh] at hg2 hgl2
    clear hhas hnew hri hgg hhh
    have hgs : g.length ≤ 41 := by omega
    have hhs : h.length ≤ 41 := by simp at hgl2; omega
    have hgs' := Lib.hid hgs
    have hhs' := Lib.hid hhs
    have hn1 : decide ((40 : Int) < (v.length : Int)) = false := by simp; omega
    have hn2 : decide (40 < v.length) = false := by simp; omega
    have hlv : ([] : List Lnk).length + v.length ≤ 40 := by simpa using hsm
    have hlv2 : ([] ++ v : List Lnk).length + 1 ≤ 41 := by simpa using hsm
    clear hgl hgl2 hgs hhs
    cases q
    all_goals
      go_enter Try.func4, Try.ntmps4
      go_wp2_with (go_at_call 8; with_reducible refine (haw _).mono ?_; clear haw; rintro e w1 ⟨rfl, hb1⟩; have hB1 := below_call hB hB.size hb1; have g0 := bl_own hb1 b0; have g1 := bl_own hb1 b1; obtain ⟨⟨c0, c1, c2, c3, c4, c5, c6⟩, ⟨d0, d1, d2, d3, d4, d5, d6⟩⟩ := two_held g0 g1)
      go_region_held3 (fun W' => (W'.cell? ⟨w.heap.size, 0, none⟩ = some (.int .i64 a.frm) ∧ W'.cell? ⟨w.heap.size, 1, none⟩ = some (.int .i64 a.src.epoch) ∧ W'.cell? ⟨w.heap.size, 2, none⟩ = some (.int .u64 a.src.root.hi) ∧ W'.cell? ⟨w.heap.size, 3, none⟩ = some (.int .u64 a.src.root.lo) ∧ W'.cell? ⟨w.heap.size, 4, none⟩ = some (.int .i64 a.tgt.epoch) ∧ W'.cell? ⟨w.heap.size, 5, none⟩ = some (.int .u64 a.tgt.root.hi) ∧ W'.cell? ⟨w.heap.size, 6, none⟩ = some (.int .u64 a.tgt.root.lo)) ∧ W'.cell? ⟨w.heap.size + 1, 0, none⟩ = some (.int .i64 b.frm) ∧ W'.cell? ⟨w.heap.size + 1, 1, none⟩ = some (.int .i64 b.src.epoch) ∧ W'.cell? ⟨w.heap.size + 1, 2, none⟩ = some (.int .u64 b.src.root.hi) ∧ W'.cell? ⟨w.heap.size + 1, 3, none⟩ = some (.int .u64 b.src.root.lo) ∧ W'.cell? ⟨w.heap.size + 1, 4, none⟩ = some (.int .i64 b.tgt.epoch) ∧ W'.cell? ⟨w.heap.size + 1, 5, none⟩ = some (.int .u64 b.tgt.root.hi) ∧ W'.cell? ⟨w.heap.size + 1, 6, none⟩ = some (.int .u64 b.tgt.root.lo)) (first | exact ⟨⟨c0, c1, c2, c3, c4, c5, c6⟩, ⟨d0, d1, d2, d3, d4, d5, d6⟩⟩ | exact two_held g2 g3 | exact two_held g4 g5 | exact two_held g6 g7 | exact two_held (ha_lt g6) (ha_lt g7) | exact two_held g8 g9) ((first
        | (go_at_call 12; with_reducible refine (hp _).mono ?_; clear hp; rintro e w2 ⟨rfl, hb2⟩; have hB2 := below_call hB1 hB1.size (below_call ((Below.refl _ w1).drew) (Nat.le_refl _) hb2); have g2 := bl_own (below_call ((Below.refl _ w1).drew) (Nat.le_refl _) hb2) g0; have g3 := bl_own (below_call ((Below.refl _ w1).drew) (Nat.le_refl _) hb2) g1)
        | (go_at_call 12; with_reducible refine (hq _).mono ?_; clear hq; rintro e w3 ⟨rfl, hb3⟩; have hB3 := below_call hB2 hB2.size hb3; have g4 := bl_own hb3 g2; have g5 := bl_own hb3 g3)
        | (go_at_call 12; with_reducible refine (hs _).mono ?_; clear hs; rintro e w4 ⟨rfl, hb4⟩; have hB4 := below_call hB3 hB3.size hb4; have g6 := bl_own hb4 g4; have g7 := bl_own hb4 g5; have hR0 : Rd 7 encLnk (w4.alloc (.cells #[.int .i64 a.frm, .int .i64 a.src.epoch, .int .u64 a.src.root.hi, .int .u64 a.src.root.lo, .int .i64 a.tgt.epoch, .int .u64 a.tgt.root.hi, .int .u64 a.tgt.root.lo, .int .i64 a.frm, .int .i64 a.src.epoch, .int .u64 a.src.root.hi, .int .u64 a.src.root.lo, .int .i64 a.tgt.epoch, .int .u64 a.tgt.root.hi, .int .u64 a.tgt.root.lo] 28)) (some ⟨w4.heap.size, 0, none⟩) [a, a] := Rd_flat (k := 7) (enc := encLnk) (xs := [a, a]) encLnk_len (by simp) (ha_at rfl) rfl; have hg0' := hg0 _ _ hR0)
        | (go_at_call 10; with_reducible refine hg0'.mono ?_; clear hg0 hg0'; rintro e w5 ⟨u, rfl, ho0, hb5⟩; have hbA := below_call ((Below.refl _ w4).alloc (Nat.le_refl _) (.cells #[.int .i64 a.frm, .int .i64 a.src.epoch, .int .u64 a.src.root.hi, .int .u64 a.src.root.lo, .int .i64 a.tgt.epoch, .int .u64 a.tgt.root.hi, .int .u64 a.tgt.root.lo, .int .i64 a.frm, .int .i64 a.src.epoch, .int .u64 a.src.root.hi, .int .u64 a.src.root.lo, .int .i64 a.tgt.epoch, .int .u64 a.tgt.root.hi, .int .u64 a.tgt.root.lo] 28)) (by simp) hb5; have hB5 := below_call hB4 hB4.size hbA; have g8 := bl_own hbA g6; have g9 := bl_own hbA g7; obtain ⟨A0, k0, hu0, hR00⟩ := ho0.rd encI_len; subst hu0)))
      have hg' := hg _ hB5
      go_wp2_with (go_at_call 10; with_reducible refine hg'.mono ?_; clear hg hg'; rintro e w6 ⟨u, rfl, ho, hb6⟩; have hB6 := below_call hB5 hB5.size hb6; have x0 := bl_own hb6 g8; have x1 := bl_own hb6 g9; obtain ⟨A1, k1, hu, hR1⟩ := ho.rd encI_len; subst hu)
      clear c0 c1 c2 c3 c4 c5 c6 d0 d1 d2 d3 d4 d5 d6 g0 g1 g2 g3 g4 g5 g6 g7 g8 g9 hb1 hb2 hb3 hb4 hb5 hbA hB1 hB2 hB3 hB4 hB5
      obtain ⟨⟨c0, c1, c2, c3, c4, c5, c6⟩, ⟨d0, d1, d2, d3, d4, d5, d6⟩⟩ := two_held x0 x1
      have hKD : Below w6.heap.size w6 w6.drew := (Below.refl _ w6).drew
      have hszD : w6.drew.heap.size = w6.heap.size := rfl
      obtain ⟨Y, hY⟩ : ∃ Y, w6.drew.alloc (.cells #[.int .i64 a.frm, .int .i64 a.src.epoch, .int .u64 a.src.root.hi, .int .u64 a.src.root.lo, .int .i64 a.tgt.epoch, .int .u64 a.tgt.root.hi, .int .u64 a.tgt.root.lo] 28) = Y := ⟨_, rfl⟩
      have hY2 : (w6.alloc (.cells #[.int .i64 a.frm, .int .i64 a.src.epoch, .int .u64 a.src.root.hi, .int .u64 a.src.root.lo, .int .i64 a.tgt.epoch, .int .u64 a.tgt.root.hi, .int .u64 a.tgt.root.lo] 28)).drew = Y := hY
      have hKY : Below w6.heap.size w6 Y := by subst hY; exact hKD.alloc hKD.size _
      have hxY : Y.heap[w6.heap.size]? = some (.cells #[.int .i64 a.frm, .int .i64 a.src.epoch, .int .u64 a.src.root.hi, .int .u64 a.src.root.lo, .int .i64 a.tgt.epoch, .int .u64 a.tgt.root.hi, .int .u64 a.tgt.root.lo] 28 (0, 0)) := by subst hY; exact ha_at hszD.symm
      have hrD := hr.below (below_call hB6 hB6.size hKD)
      have hrY := hr.below (below_call hB6 hB6.size hKY)
      have hnb : ∀ k, (Value.slice none 0 0).ownBlock = some k → w6.heap.size ≤ k := fun k e => by simp [Value.ownBlock] at e
      have hbn : (([] : List Lnk).length + v.length) * 56 ≤ 140737488355328 := by omega
      have hln : ([] : List Lnk).length + v.length ≤ maxLen := by unfold maxLen; omega
      have hb1 : (([] ++ v : List Lnk).length + 1) * 56 ≤ 140737488355328 := by omega
      have hl1 : ([] ++ v : List Lnk).length + 1 ≤ maxLen := by unfold maxLen; omega
      go_region_held3 (fun W' => W'.cell? ⟨w.heap.size, 0, none⟩ = some (.int .i64 a.frm) ∧ W'.cell? ⟨w.heap.size, 1, none⟩ = some (.int .i64 a.src.epoch) ∧ W'.cell? ⟨w.heap.size, 2, none⟩ = some (.int .u64 a.src.root.hi) ∧ W'.cell? ⟨w.heap.size, 3, none⟩ = some (.int .u64 a.src.root.lo) ∧ W'.cell? ⟨w.heap.size, 4, none⟩ = some (.int .i64 a.tgt.epoch) ∧ W'.cell? ⟨w.heap.size, 5, none⟩ = some (.int .u64 a.tgt.root.hi) ∧ W'.cell? ⟨w.heap.size, 6, none⟩ = some (.int .u64 a.tgt.root.lo)) (first | exact blkL x0 | exact blkL (bl_own hK6 x0) | exact blkL (bl_own hKZ x0) | exact blkL (bl_own hK4 x0) | exact blkL (bl_own hKY x0) | exact blkL (bl_own hK7 x0)) ((first
        | (with_reducible refine step_append_all (w := w6.drew) (by with_unfolding_all rfl) (by with_unfolding_all rfl) hun infoL (by with_unfolding_all rfl) (by decide) encLnk_len encLnk_one (by with_unfolding_all rfl) (Own.nil _ w6.heap.size _ _ _) (by with_unfolding_all rfl) hN hrD hbn hln hKD.size ?_; intro v4 w7 ho4 hg4 hat4; have hK4 := below_step hKD hKD.size hg4 hnb; have hO4 : ∀ k, v4.ownBlock = some k → w6.heap.size ≤ k := fun k hk => (ho4.base k hk).1; obtain ⟨Z, hZ⟩ : ∃ Z, w7.alloc (.cells #[.int .i64 a.frm, .int .i64 a.src.epoch, .int .u64 a.src.root.hi, .int .u64 a.src.root.lo, .int .i64 a.tgt.epoch, .int .u64 a.tgt.root.hi, .int .u64 a.tgt.root.lo] 28) = Z := ⟨_, rfl⟩; have hKZ : Below w6.heap.size w6 Z := (by subst hZ; exact hK4.alloc hK4.size _); have hoZ : Own Z w6.heap.size 28 7 encLnk v4 ([] ++ v) := (by subst hZ; exact ho4.below ((Below.refl _ w7).alloc (Nat.le_refl _) _)); have hxZ : Z.heap[w7.heap.size]? = some (.cells #[.int .i64 a.frm, .int .i64 a.src.epoch, .int .u64 a.src.root.hi, .int .u64 a.src.root.lo, .int .i64 a.tgt.epoch, .int .u64 a.tgt.root.hi, .int .u64 a.tgt.root.lo] 28 (0, 0)) := (by subst hZ; exact ha_at rfl))
        | (with_reducible refine step_append_all (w := Y) (by with_unfolding_all rfl) (by with_unfolding_all rfl) hun infoL (by with_unfolding_all rfl) (by decide) encLnk_len encLnk_one (by with_unfolding_all rfl) (Own.nil _ w6.heap.size _ _ _) (by with_unfolding_all rfl) hN hrY hbn hln hKY.size ?_; intro v4 Z hoZ hgZ hatZ; have hKZ := below_step hKY hKY.size hgZ hnb; have hO4 : ∀ k, v4.ownBlock = some k → w6.heap.size ≤ k := fun k hk => (hoZ.base k hk).1; have hxZ := grown_own hgZ hxY (by simp [Value.ownBlock]))
        | (with_reducible refine step_append1 (w := Z) (by with_unfolding_all rfl) (by with_unfolding_all rfl) hun infoL (by with_unfolding_all rfl) (by decide) encLnk_len encLnk_one (by with_unfolding_all rfl) hoZ (c := 1) (by with_unfolding_all rfl) (y := a) hxZ (by with_unfolding_all rfl) hb1 hl1 hKZ.size ?_; intro v6 w8 ho6 hg6 hat6; have hK6 := below_step hKZ hKZ.size hg6 hO4; obtain ⟨A6, k6, hv6, hc6, hm6, hR6⟩ := ho6.rdm encLnk_len; rw [List.nil_append] at hv6 hR6 hc6; subst hv6; have hg2' := hg2 _ _ _ hR6 hc6 hm6; simp only [List.length_append, List.length_singleton] at hg2')
        | (go_at_call 10; with_reducible refine hg2'.mono ?_; clear hg2 hg2'; rintro e w9 ⟨u, rfl, hoh, hb9⟩; have hK7 := below_call hK6 hK6.size hb9; obtain ⟨A2, k2, hu2, hR2⟩ := hoh.rd encI_len; subst hu2)))
      all_goals
        have hB9 := below_call hB6 hB6.size hK7
        have z0 := (blkL (bl_own hK7 x0)).1
        have hR1' := hR1.below hK7
        clear c0 c1 c2 c3 c4 c5 c6 d0 d1 d2 d3 d4 d5 d6 hK6 hKZ hO4 hK7 hKD hKY hY hY2 hxY hrD hrY hnb hR1 x0 x1
        have hgs := hgs'.out
        have hhs := hhs'.out
        go_wp2_with fail
        go_loopw [10, 11] (fun i _u11 wr => ∃ j : Nat, j ≤ g.length ∧ i = .int .i64 j ∧ wr = w9) (fun i _ _ => g.length - (intOf i).toNat)
        case atStart => exact ⟨0, Nat.zero_le _, rfl, rfl⟩
        case round =>
          obtain ⟨j, hj, rfl, rfl⟩ := hrel
          by_cases hlt : j < g.length
          · obtain ⟨p1, o1, he1, _, y1⟩ := hR1'.atI hlt
            subst he1
            have hd := hhas'.out j hlt
            have hca := fun x => rhas_any x h A2 k2 wr hR2
            obtain ⟨z, hz⟩ : ∃ z, g[j] = z := ⟨_, rfl⟩
            rw [hz] at y1 hd
            have hca' := hca z
            rw [hd] at hca'
            clear hz hd hca
            go_wp2_with (go_at_call 13; with_reducible refine hca'.mono ?_; clear hca'; rintro e wx ⟨rfl, rfl⟩)
            go_roundw
            case rel => exact ⟨j + 1, hlt, by go_num, trivial⟩
            case measure => simp [intOf]; omega
          · obtain rfl : j = g.length := by omega
            obtain ⟨wz, hwz⟩ : ∃ wz, wz = wr := ⟨_, rfl⟩
            subst hwz
            go_wp2_with fail
            go_loopw [12, 13] (fun i _u13 wr' => ∃ j : Nat, j ≤ h.length ∧ i = .int .i64 j ∧ Below wz.heap.size wz wr') (fun i _ _ => h.length - (intOf i).toNat)
            case atStart => exact ⟨0, Nat.zero_le _, rfl, Below.refl _ _⟩
            case round =>
              obtain ⟨j, hj, rfl, hBj⟩ := hrel
              have hBw := below_call hB9 hB9.size hBj
              by_cases hlt : j < h.length
              · obtain ⟨p1, o1, he1, _, y1⟩ := (hR2.below hBj).atI hlt
                subst he1
                have hn := hnew'.out j hlt
                have hca := fun x => rhas_any x g A1 k1 wr (hR1'.below hBj)
                have z1 := gr_cell ((hBj.cell (p := ⟨w.heap.size, 0, none⟩) (World.block_lt_of_cell? wz _ z0)).trans z0)
                have hBg : ∀ p, Below wz.heap.size wz (gr wr p) := fun p => hBj.trans ((gr_below _ _).mono hBj.size)
                have hris := Lib.hid (fun j' (e : j = j' + 1) => hri'.out j' (by omega))
                have hrd2 := hR2.below hBj
                obtain ⟨z, hz⟩ : ∃ z, h[j] = z := ⟨_, rfl⟩
                have hris' := Lib.hid (show ∀ j', (e : j = j' + 1) → ∃ y, ∃ (hh : j' < h.length), h[j'] = y ∧ decide (z ≤ y) = false from fun j' e => by subst e; exact ⟨_, by omega, rfl, hz ▸ hris.out j' rfl⟩)
                rw [hz] at y1 hn
                have hca' := hca z
                obtain ⟨q, hq⟩ : ∃ q, decide (z ∈ g) = q := ⟨_, rfl⟩
                rw [hq] at hca' hn
                have y2 := gr_cell y1
                clear hz hca hq hris hR2
                cases j with
                | zero =>
                  rw [Nat.add_zero] at y1
                  have y2 := gr_cell y1
                  cases q
                  · have he : (z != a.frm) = false := by
                      rcases hn with hn | hn
                      · cases hn
                      · simpa using hn
                    clear hn
                    go_wp2_with (go_at_call 13; with_reducible refine hca'.mono ?_; clear hca'; rintro e wx ⟨rfl, rfl⟩)
                    refine wp_region_gr (by kernel_rfl) (by kernel_rfl) ?_
                    repeat (go_big_quiet_step (fail))
                    refine wpQuiet_nil ?_
                    rintro _ ⟨pq, rfl⟩
                    go_wp2_with fail
                    go_roundw
                    case rel => exact ⟨0 + 1, hlt, by go_num, hBg _⟩
                    case measure => simp [intOf]; omega
                  · clear hn
                    go_wp2_with (go_at_call 13; with_reducible refine hca'.mono ?_; clear hca'; rintro e wx ⟨rfl, rfl⟩)
                    refine wp_region_gr (by kernel_rfl) (by kernel_rfl) ?_
                    repeat (go_big_quiet_step (fail))
                    refine wpQuiet_nil ?_
                    rintro _ ⟨pq, rfl⟩
                    go_wp2_with fail
                    go_roundw
                    case rel => exact ⟨0 + 1, hlt, by go_num, hBg _⟩
                    case measure => simp [intOf]; omega
                | succ j =>
                  obtain ⟨y, hh, hy, hd⟩ := hris'.out j rfl
                  obtain ⟨p2, o2, he2, _, y3⟩ := hrd2.atI hh
                  cases he2
                  rw [hy] at y3
                  have y4 := gr_cell y3
                  have hw1 := i64_pred j (by omega)
                  clear hy hrd2
                  cases q
                  · have he : (z != a.frm) = false := by
                      rcases hn with hn | hn
                      · cases hn
                      · simpa using hn
                    clear hn
                    go_wp2_with (go_at_call 13; with_reducible refine hca'.mono ?_; clear hca'; rintro e wx ⟨rfl, rfl⟩)
                    refine wp_region_gr (by kernel_rfl) (by kernel_rfl) ?_
                    repeat (go_big_quiet_step (fail))
                    refine wpQuiet_nil ?_
                    rintro _ ⟨pq, rfl⟩
                    go_wp2_with fail
                    go_roundw
                    case rel => exact ⟨j + 1 + 1, hlt, by go_num, hBg _⟩
                    case measure => simp [intOf]; omega
                  · clear hn
                    go_wp2_with (go_at_call 13; with_reducible refine hca'.mono ?_; clear hca'; rintro e wx ⟨rfl, rfl⟩)
                    refine wp_region_gr (by kernel_rfl) (by kernel_rfl) ?_
                    repeat (go_big_quiet_step (fail))
                    refine wpQuiet_nil ?_
                    rintro _ ⟨pq, rfl⟩
                    go_wp2_with fail
                    go_roundw
                    case rel => exact ⟨j + 1 + 1, hlt, by go_num, hBg _⟩
                    case measure => simp [intOf]; omega
              · obtain rfl : j = h.length := by omega
                go_wp2_with fail
                go_ret
                exact ⟨rfl, hBw⟩
  · exact bothbig_any a b A v c w (by omega) hm W hW hB b0 b1
end Go.Proofs.Ytigdbcfpamnkcaa
