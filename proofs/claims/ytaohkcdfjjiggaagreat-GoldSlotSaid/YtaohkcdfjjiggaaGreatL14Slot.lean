/- GoldSlot, walked. -/
import Derived.Test.YtaohkcdfjjiggaaGreatGJ
import Derived.Test.YtaohkcdfjjiggaaGreatGP
import Derived.Test.YtaohkcdfjjiggaaGreatAw14
import Derived.Test.YtaohkcdfjjiggaaGreatGM
import Derived.Test.YtaohkcdfjjiggaaGreatGA
import Derived.Deep.CutRange
import Derived.Deep.CutBlock
namespace Go.Proofs.YtaohkcdfjjiggaaGreat
open Go.RowKit
set_option linter.unusedVariables false
theorem cv26 {a b c d e f : Prop} (h1 : a) (h2 : b) (h3 : c) (h4 : d) (h5 : e) (h6 : f) : (a ∧ b) ∧ c ∧ d ∧ e ∧ f := ⟨⟨h1, h2⟩, h3, h4, h5, h6⟩
theorem cv26b {W : World} {N : Nat} {x y a b c d : Value} {T T2 : TypeId} (h : W.heap[N]? = some (.cells #[x, y] T (0, 0))) (h2 : W.heap[N + 1]? = some (.cells #[a, b, c, d] T2 (0, 0))) : (W.cell? ⟨N, 0, none⟩ = some x ∧ W.cell? ⟨N, 1, none⟩ = some y) ∧ W.cell? ⟨N + 1, 0, none⟩ = some a ∧ W.cell? ⟨N + 1, 1, none⟩ = some b ∧ W.cell? ⟨N + 1, 2, none⟩ = some c ∧ W.cell? ⟨N + 1, 3, none⟩ = some d := ⟨⟨blk_cell h 0, blk_cell h 1⟩, blk_cell h2 0, blk_cell h2 1, blk_cell h2 2, blk_cell h2 3⟩
theorem ne_old {vi n : Nat} {v : Value} (hat : v.ownBlock = (Value.slice none 0 0).ownBlock ∨ v.ownBlock = some n) (hlt : vi < n) : some vi ≠ v.ownBlock := by
  rcases hat with e | e
  · rw [e]; simp [Value.ownBlock]
  · rw [e]; intro e2; have := Option.some.inj e2; omega
theorem ne_new {α : Type} {w : World} {base : Nat} {T : TypeId} {k : Nat} {enc : α → List Value} {v : Value} {xs : List α} {vi : Nat} (ho : Own w base T k enc v xs) (h : w.heap.size ≤ vi) : some vi ≠ v.ownBlock := fun e => by
  have := (ho.base _ e.symm).2
  omega
theorem ne_next {vi n : Nat} {v v' : Value} (hat : v'.ownBlock = v.ownBlock ∨ v'.ownBlock = some n) (hne : some vi ≠ v.ownBlock) (hlt : vi < n) : some vi ≠ v'.ownBlock := by
  rcases hat with e | e
  · rw [e]; exact hne
  · rw [e]; intro e2; have := Option.some.inj e2; omega
set_option maxRecDepth 100000 in
set_option maxHeartbeats 8000000 in
theorem cv2 {W : World} {N : Nat} {x y : Value} {T : TypeId} (h : W.heap[N]? = some (.cells #[x, y] T (0, 0))) : W.cell? ⟨N, 0, none⟩ = some x ∧ W.cell? ⟨N, 1, none⟩ = some y := ⟨blk_cell h 0, blk_cell h 1⟩
set_option maxRecDepth 100000 in
set_option maxHeartbeats 8000000 in
theorem slot14_any (c : Cfg) (l : List Blk) (vs : List Vote) (s : Int) (x : Vote) (at_ : Int) (A A2 A3 : Option Addr) (k k2 k3 : Nat) (w : World) (hlk : vs.length ≤ k3) (hkm : k3 ≤ maxLen) (hN : A3 = none → k3 = 0) (hr : Rd 1 encI w A c.W) (hr2 : Rd 5 encBlk w A2 l) (hr3 : Rd 4 encVote w A3 vs) :
    Calls Tryz.prog 5 #[cfgv A k c, .agg #[.slice A2 l.length k2, .slice A3 vs.length k3], .int .i64 s, votev x, .int .i64 at_] w fun e w' => e = .returned (.bool true) ∧ Below w.heap.size w w' := by
  have hm := hr.1
  have hm2 := hr2.1
  have hm3 := hr3.1
  have hunV := Tryz.underlying27
  have hkm' : k3 ≤ 9223372036854775807 := by unfold maxLen at hkm; omega
  have haw := fun V => awake14_any V
  have hfew := fun V => fewN_any c l.length vs.length A A2 A3 k k2 k3 V hm hm2 hm3
  by_cases hsm : c.W.length ≤ 40 ∧ l.length ≤ 20 ∧ vs.length ≤ 30
  · rw [decide_eq_true hsm] at hfew
    obtain ⟨hsm1, hsm2, hsm3⟩ := hsm
    by_cases hgd : 0 ≤ at_ ∧ at_ ≤ vs.length
    · obtain ⟨h2, h3⟩ := hgd
      obtain ⟨n, rfl⟩ := Int.eq_ofNat_of_zero_le h2
      have hn : n ≤ vs.length := by omega
      have e2 : ¬ ((n : Int) < 0) := by omega
      have e3 : ¬ ((vs.length : Int) < (n : Int)) := by omega
      have hh := fun V (hV : Below w.heap.size w V) => gohead_any c l vs s A A2 A3 k k2 k3 V (hr.below hV) (hr2.below hV) (hr3.below hV) (by omega) (by omega)
      obtain ⟨q, hq⟩ : ∃ q, vs.drop n ++ vs.take n = q := ⟨_, rfl⟩
      have hmem : ∀ z, z ∈ q ↔ z ∈ vs := fun z => by
        rw [← hq, List.mem_append]
        exact ⟨fun h => h.elim List.mem_of_mem_drop List.mem_of_mem_take, fun h => by rw [← List.take_append_drop n vs, List.mem_append] at h; exact h.symm⟩
      have hql : q.length ≤ 30 := by rw [← hq]; simp; omega
      have hhq := fun A6 k6 V (hV : Below w.heap.size w V) (h6 : Rd 4 encVote V A6 q) => gohead_any c l q s A A2 A6 k k2 k6 V (hr.below hV) (hr2.below hV) h6 (by omega) (by omega)
      have hhx := fun A6 k6 V (hV : Below w.heap.size w V) (h6 : Rd 4 encVote V A6 (vs ++ [x])) => gohead_any c l (vs ++ [x]) s A A2 A6 k k2 k6 V (hr.below hV) (hr2.below hV) h6 (by omega) (by simp; omega)
      rw [show goldHead c l q s = goldHead c l vs s by unfold goldHead; rw [gold_congr hmem]] at hhq
      have hlaw : ¬ (x.slot = s ∧ x.frm ∈ comC c s) → goldHead c l (vs ++ [x]) s = goldHead c l vs s := fun h => by unfold goldHead; rw [gold_more h]
      have hin := fun V (hV : Below w.heap.size w V) => din_any c s x.frm A k V (hr.below hV)
      obtain ⟨h, hhe⟩ : ∃ h, goldHead c l vs s = h := ⟨_, rfl⟩
      rw [hhe] at hh hhq hlaw
      obtain ⟨hx, hxe⟩ : ∃ hx, goldHead c l (vs ++ [x]) s = hx := ⟨_, rfl⟩
      simp only [hxe] at hhx hlaw
      obtain ⟨q2, hq2⟩ : ∃ q2, vs ++ [x] = q2 := ⟨_, rfl⟩
      rw [hq2] at hhx
      have hq2n := Lib.hid (show ([] ++ vs) ++ [x] = q2 by rw [List.nil_append, hq2])
      clear hhe hmem hxe hq2
      unfold cfgv votev at *
      try unfold idv at *
      have hh' := Lib.hid hh
      have hhq' := Lib.hid hhq
      have hhx' := Lib.hid hhx
      have hlaw' := Lib.hid hlaw
      have hin' := Lib.hid hin
      have hq' := Lib.hid hq
      clear hh hhq hhx hlaw hin hq
      have hW : ∃ W, ((w.alloc (.cells #[.slice A c.W.length k, .int .u64 c.seed, .int .i64 c.epoch, .int .i64 c.num, .int .i64 c.den] 25)).alloc (.cells #[.slice A2 l.length k2, .slice A3 vs.length k3] 29)).alloc (.cells #[.int .i64 x.frm, .int .i64 x.slot, .int .u64 x.head.hi, .int .u64 x.head.lo] 42) = W := ⟨_, rfl⟩
      obtain ⟨W, hW⟩ := hW
      have hB : Below w.heap.size w W := by subst hW; exact (((Below.refl _ w).alloc (Nat.le_refl _) _).alloc (by simp <;> omega) _).alloc (by simp <;> omega) _
      have b0 : W.heap[w.heap.size]? = some (.cells #[.slice A c.W.length k, .int .u64 c.seed, .int .i64 c.epoch, .int .i64 c.num, .int .i64 c.den] 25 (0, 0)) := by subst hW; exact ha_lt (ha_lt (ha_at rfl))
      have b1 : W.heap[w.heap.size + 1]? = some (.cells #[.slice A2 l.length k2, .slice A3 vs.length k3] 29 (0, 0)) := by subst hW; exact ha_lt (ha_at (by simp))
      have b2 : W.heap[w.heap.size + 1 + 1]? = some (.cells #[.int .i64 x.frm, .int .i64 x.slot, .int .u64 x.head.hi, .int .u64 x.head.lo] 42 (0, 0)) := by subst hW; exact ha_at (by simp)
      go_enter Tryz.func5, Tryz.ntmps5
      go_wp2_with (first
        | (go_at_call 16; (with_reducible refine (haw _).mono ?_); clear haw; rintro e w1 ⟨rfl, hb1⟩; have hB1 := below_call hB hB.size hb1; have a0 := bl_own hb1 b0; have a1 := bl_own hb1 b1; have a2 := bl_own hb1 b2; obtain ⟨p0, p1, p2, p3, p4⟩ := blk5 a0; obtain ⟨p5, p6, _, _⟩ := blk2 a1; obtain ⟨p7, p8, p9, p10⟩ := blk4 a2)
        | (go_at_call 17; (with_reducible refine (hfew _).mono ?_); clear hfew; rintro e w2 ⟨rfl, hb2⟩; have hB2 := below_call hB1 hB1.size hb2; have d0 := bl_own hb2 a0; have d1 := bl_own hb2 a1; have d2 := bl_own hb2 a2; obtain ⟨q0, q1, q2, q3, q4⟩ := blk5 d0; obtain ⟨q5, q6, _, _⟩ := blk2 d1; obtain ⟨q7, q8, q9, q10⟩ := blk4 d2)
        | (go_at_call 21; (with_reducible refine (hh'.out _ hB2).mono ?_); rintro e w3 ⟨rfl, hb3⟩; have hB3 := below_call hB2 hB2.size hb3; have hl4 : Below w3.heap.size w3 (w3.alloc (.cells #[.int .u64 h.hi, .int .u64 h.lo] 35)) := (Below.refl _ w3).alloc (Nat.le_refl _) _; have hB4 := below_call hB3 hB3.size hl4; have f0 := bl_own hl4 (bl_own hb3 d0); have f1 := bl_own hl4 (bl_own hb3 d1); have f2 := bl_own hl4 (bl_own hb3 d2); have fh := ha_at (w := w3) (o := .cells #[.int .u64 h.hi, .int .u64 h.lo] 35) (k := w3.heap.size) rfl; obtain ⟨r0, r1, r2, r3, r4⟩ := blk5 f0; obtain ⟨r5, r6, _, _⟩ := blk2 f1; obtain ⟨r7, r8, r9, r10⟩ := blk4 f2))
      clear p0 q0 r0 p1 q1 r1 p2 q2 r2 p3 q3 r3 p4 q4 r4 p5 q5 r5 p6 q6 r6 p7 q7 r7 p8 q8 r8 p9 q9 r9 p10 q10 r10 a0 a1 a2 d0 d1 d2 b0 b1 b2 hb1 hb2 hb3 hB hB1 hB2 hB3 hl4 hW
      generalize w3.alloc (.cells #[.int .u64 h.hi, .int .u64 h.lo] 35) = w4 at hB4 f0 f1 f2 fh ⊢
      obtain ⟨gh, hgh⟩ : ∃ g, w3.heap.size = g := ⟨_, rfl⟩
      rw [hgh] at fh ⊢
      clear hgh
      go_cut [14] from 45 to 57 (fun v14 wx => ∃ (g : Nat) (A6 : Option Addr) (k6 : Nat), v14 = .pointer (some ⟨g, 0, none⟩) ∧ wx.heap[g]? = some (.cells #[.slice A2 l.length k2, .slice A6 q.length k6] 29 (0, 0)) ∧ Rd 4 encVote wx A6 q ∧ Below w4.heap.size w4 wx)
      case first =>
        by_cases hl : vs = []
        · subst hl
          obtain rfl : n = 0 := by simpa using hn
          have hqn := Lib.hid (show (([] : List Vote) ++ []) ++ [] = q from by rw [← hq'.out]; rfl)
          simp only [List.length_nil]
          cases A3 with
          | none =>
            obtain rfl := hN rfl
            have hKD : Below w4.heap.size w4 w4.drew := (Below.refl _ w4).drew
            obtain ⟨Y, hY⟩ : ∃ Y, (w4.alloc (.cells #[.slice none 0 0, .slice none 0 0] 29)).drew = Y := ⟨_, rfl⟩
            have hKY : Below w4.heap.size w4 Y := by subst hY; exact ((Below.refl _ w4).alloc (Nat.le_refl _) _).drew
            have hvY : Y.heap[w4.heap.size]? = some (.cells #[.slice none 0 0, .slice none 0 0] 29 (0, 0)) := by subst hY; exact ha_at rfl
            have hYs := Lib.hid (show Y.heap.size = w4.heap.size + 1 by subst hY; simp [World.drew])
            have hrD := hr3.below (below_call hB4 hB4.size hKD)
            have hrY := hr3.below (below_call hB4 hB4.size hKY)
            have hR1D : Rd 4 encVote w4.drew none ([] : List Vote) := Rd_nil _ _ _ _
            have hR1Y : Rd 4 encVote Y none ([] : List Vote) := Rd_nil _ _ _ _
            have hN1 : (none : Option Addr) = none → 0 = 0 := fun e => by first | rfl | cases e
            have hN2 : (none : Option Addr) = none → 0 = 0 := fun e => by first | rfl | cases e
            have hnb : ∀ k, (Value.slice none 0 0).ownBlock = some k → w4.heap.size ≤ k := fun k e => by simp [Value.ownBlock] at e
            have hbn : (([] : List Vote).length + ([] : List Vote).length) * 32 ≤ 140737488355328 := by simp <;> omega
            have hln : ([] : List Vote).length + ([] : List Vote).length ≤ maxLen := by simp [maxLen] <;> omega
            have hbn2 : (([] ++ ([] : List Vote) : List Vote).length + ([] : List Vote).length) * 32 ≤ 140737488355328 := by simp <;> omega
            have hln2 : ([] ++ ([] : List Vote) : List Vote).length + ([] : List Vote).length ≤ maxLen := by simp [maxLen] <;> omega
            have hltv := lt_of_block f1
            obtain ⟨x5, x6, _, _⟩ := blk2 f1
            go_region_held3 (fun W' => (W'.cell? ⟨w.heap.size + 1, 0, none⟩ = some (.slice A2 l.length k2) ∧ W'.cell? ⟨w.heap.size + 1, 1, none⟩ = some (.slice none 0 0)))
              (first | exact ⟨x5, x6⟩ | exact cv2 (bl_own hKY f1) | exact cv2 (bl_own hK5 f1) | exact cv2 (bl_own hKZ f1) | exact cv2 hf6 | exact cv2 (bl_own hK6 f1) | exact cv2 (ha_lt (bl_own hK6 f1))) ((first
                | ((with_reducible refine step_append_all (w := w4.drew) (by with_unfolding_all rfl) (by with_unfolding_all rfl) hunV infoV (by with_unfolding_all rfl) (by decide) encVote_len encVote_one (by with_unfolding_all rfl) (Own.nil _ w4.heap.size _ _ _) (ys := ([] : List Vote)) (by with_unfolding_all rfl) hN1 hR1D hbn hln hKD.size ?_); intro v5 w5 ho5 hg5 hat5; have hK5 := below_step hKD hKD.size hg5 hnb; have hO5 : ∀ k, v5.ownBlock = some k → w4.heap.size ≤ k := fun k hk => (ho5.base k hk).1; obtain ⟨Z, hZ⟩ : ∃ Z, w5.alloc (.cells #[.slice none 0 0, .slice none 0 0] 29) = Z := ⟨_, rfl⟩; have hKZ : Below w4.heap.size w4 Z := (by subst hZ; exact hK5.alloc hK5.size _); have hoZ : Own Z w4.heap.size 42 4 encVote v5 ([] ++ ([] : List Vote)) := (by subst hZ; exact ho5.below ((Below.refl _ w5).alloc (Nat.le_refl _) _)); have hvZ : Z.heap[w5.heap.size]? = some (.cells #[.slice none 0 0, .slice none 0 0] 29 (0, 0)) := (by subst hZ; exact ha_at rfl); have hZs := Lib.hid (show Z.heap.size = w5.heap.size + 1 by subst hZ; simp); have hneZ : some w5.heap.size ≠ v5.ownBlock := (fun e => (by have := (ho5.base _ e.symm).2; omega)); have hK5s := hK5.size)
                | ((with_reducible refine step_append_all (w := Y) (by with_unfolding_all rfl) (by with_unfolding_all rfl) hunV infoV (by with_unfolding_all rfl) (by decide) encVote_len encVote_one (by with_unfolding_all rfl) (Own.nil _ w4.heap.size _ _ _) (ys := ([] : List Vote)) (by with_unfolding_all rfl) hN1 hR1Y hbn hln hKY.size ?_); intro v5 w5 hoy hg5 hat5; have hKy := below_step hKY hKY.size hg5 hnb; have hK5 := hKy; have hO5 : ∀ k, v5.ownBlock = some k → w4.heap.size ≤ k := fun k hk => (hoy.base k hk).1; have hv5 := grown_own hg5 hvY (by simp [Value.ownBlock]); have hney : some w4.heap.size ≠ v5.ownBlock := (hat5.elim (fun e => (by rw [e]; simp [Value.ownBlock])) (fun e => (by rw [e, hYs.out]; simp))))
                | ((with_reducible refine step_append_all (w := w5) (by with_unfolding_all rfl) (by with_unfolding_all rfl) hunV infoV (by with_unfolding_all rfl) (by decide) encVote_len encVote_one (by with_unfolding_all rfl) ho5 (ys := ([] : List Vote)) (by (try rw [htl]); with_unfolding_all rfl) hN2 (show Rd 4 encVote w5 none ([] : List Vote) from Rd_nil _ _ _ _) hbn2 hln2 hK5.size ?_); intro v6 w6 ho6 hg6 hat6; have hK6 := below_step hK5 hK5.size hg6 hO5; rw [hqn.out] at ho6; obtain ⟨A6, k6, hv6, hR6⟩ := ho6.rd encVote_len; subst hv6)
                | ((with_reducible refine step_append_all (w := w5) (by with_unfolding_all rfl) (by with_unfolding_all rfl) hunV infoV (by with_unfolding_all rfl) (by decide) encVote_len encVote_one (by with_unfolding_all rfl) hoy (ys := ([] : List Vote)) (by (try rw [htl]); with_unfolding_all rfl) hN2 (show Rd 4 encVote w5 none ([] : List Vote) from Rd_nil _ _ _ _) hbn2 hln2 hKy.size ?_); intro v6 w6 ho6 hg6 hat6; have hK6 := below_step hKy hKy.size hg6 hO5; have hne6 : some w4.heap.size ≠ v6.ownBlock := hat6.elim (fun e => (by rw [e]; exact hney)) (fun e => (by rw [e]; intro e2; have := Option.some.inj e2; have := lt_of_block hv5; omega)); rw [hqn.out] at ho6; obtain ⟨A6, k6, hv6, hR6⟩ := ho6.rd encVote_len; subst hv6; have hvb := grown_own hg6 hv5 hney; obtain ⟨m0, m1, m2, m3⟩ := blk2 hvb; obtain ⟨kk1, kk2⟩ := set2 hvb (.slice A2 l.length k2) (.slice A6 q.length k6); have hf6 := grown_own kk2 (bl_own hK6 f1) (fun e => by have := Option.some.inj e; omega))
                | ((with_reducible refine step_append_all (w := Z) (by with_unfolding_all rfl) (by with_unfolding_all rfl) hunV infoV (by with_unfolding_all rfl) (by decide) encVote_len encVote_one (by with_unfolding_all rfl) hoZ (ys := ([] : List Vote)) (by (try rw [htl]); with_unfolding_all rfl) hN2 (show Rd 4 encVote Z none ([] : List Vote) from Rd_nil _ _ _ _) hbn2 hln2 hKZ.size ?_); intro v6 w6 ho6 hg6 hat6; have hK6 := below_step hKZ hKZ.size hg6 hO5; have hne6 : some w5.heap.size ≠ v6.ownBlock := hat6.elim (fun e => (by rw [e]; exact hneZ)) (fun e => (by rw [e, hZs.out]; simp)); rw [hqn.out] at ho6; obtain ⟨A6, k6, hv6, hR6⟩ := ho6.rd encVote_len; subst hv6; have hvb := grown_own hg6 hvZ hneZ; obtain ⟨m0, m1, m2, m3⟩ := blk2 hvb; obtain ⟨kk1, kk2⟩ := set2 hvb (.slice A2 l.length k2) (.slice A6 q.length k6); have hf6 := grown_own kk2 (bl_own hK6 f1) (fun e => by have := Option.some.inj e; omega))))
            all_goals go_wp2
            all_goals go_meet
            all_goals first
              | exact ⟨_, A6, k6, rfl, kk1, hR6.grown kk2 (fun a e => (by subst e; exact fun e2 => hne6 e2.symm)), below_step hK6 hK6.size kk2 (fun k e => by cases e; first | exact Nat.le_refl _ | exact hK5s)⟩
              | exact ⟨_, A6, k6, rfl, ha_at rfl, hR6.below ((Below.refl _ w6).alloc (Nat.le_refl _) _), hK6.alloc hK6.size _⟩
              | (trace_state; sorry)
          | some ad =>
            by_cases hk : k3 = 0
            · subst hk
              have hKD : Below w4.heap.size w4 w4.drew := (Below.refl _ w4).drew
              obtain ⟨Y, hY⟩ : ∃ Y, (w4.alloc (.cells #[.slice none 0 0, .slice none 0 0] 29)).drew = Y := ⟨_, rfl⟩
              have hKY : Below w4.heap.size w4 Y := by subst hY; exact ((Below.refl _ w4).alloc (Nat.le_refl _) _).drew
              have hvY : Y.heap[w4.heap.size]? = some (.cells #[.slice none 0 0, .slice none 0 0] 29 (0, 0)) := by subst hY; exact ha_at rfl
              have hYs := Lib.hid (show Y.heap.size = w4.heap.size + 1 by subst hY; simp [World.drew])
              have hrD := hr3.below (below_call hB4 hB4.size hKD)
              have hrY := hr3.below (below_call hB4 hB4.size hKY)
              have hR1D : Rd 4 encVote w4.drew (some ad) ([] : List Vote) := Rd_nil _ _ _ _
              have hR1Y : Rd 4 encVote Y (some ad) ([] : List Vote) := Rd_nil _ _ _ _
              have hN1 : ((some ad) : Option Addr) = none → 0 = 0 := fun e => by first | rfl | cases e
              have hN2 : ((some ad) : Option Addr) = none → 0 = 0 := fun e => by first | rfl | cases e
              have hnb : ∀ k, (Value.slice none 0 0).ownBlock = some k → w4.heap.size ≤ k := fun k e => by simp [Value.ownBlock] at e
              have hbn : (([] : List Vote).length + ([] : List Vote).length) * 32 ≤ 140737488355328 := by simp <;> omega
              have hln : ([] : List Vote).length + ([] : List Vote).length ≤ maxLen := by simp [maxLen] <;> omega
              have hbn2 : (([] ++ ([] : List Vote) : List Vote).length + ([] : List Vote).length) * 32 ≤ 140737488355328 := by simp <;> omega
              have hln2 : ([] ++ ([] : List Vote) : List Vote).length + ([] : List Vote).length ≤ maxLen := by simp [maxLen] <;> omega
              have hltv := lt_of_block f1
              obtain ⟨x5, x6, _, _⟩ := blk2 f1
              go_region_held3 (fun W' => (W'.cell? ⟨w.heap.size + 1, 0, none⟩ = some (.slice A2 l.length k2) ∧ W'.cell? ⟨w.heap.size + 1, 1, none⟩ = some (.slice (some ad) 0 0)))
                (first | exact ⟨x5, x6⟩ | exact cv2 (bl_own hKY f1) | exact cv2 (bl_own hK5 f1) | exact cv2 (bl_own hKZ f1) | exact cv2 hf6 | exact cv2 (bl_own hK6 f1) | exact cv2 (ha_lt (bl_own hK6 f1))) ((first
                  | ((with_reducible refine step_append_all (w := w4.drew) (by with_unfolding_all rfl) (by with_unfolding_all rfl) hunV infoV (by with_unfolding_all rfl) (by decide) encVote_len encVote_one (by with_unfolding_all rfl) (Own.nil _ w4.heap.size _ _ _) (ys := ([] : List Vote)) (by with_unfolding_all rfl) hN1 hR1D hbn hln hKD.size ?_); intro v5 w5 ho5 hg5 hat5; have hK5 := below_step hKD hKD.size hg5 hnb; have hO5 : ∀ k, v5.ownBlock = some k → w4.heap.size ≤ k := fun k hk => (ho5.base k hk).1; obtain ⟨Z, hZ⟩ : ∃ Z, w5.alloc (.cells #[.slice none 0 0, .slice none 0 0] 29) = Z := ⟨_, rfl⟩; have hKZ : Below w4.heap.size w4 Z := (by subst hZ; exact hK5.alloc hK5.size _); have hoZ : Own Z w4.heap.size 42 4 encVote v5 ([] ++ ([] : List Vote)) := (by subst hZ; exact ho5.below ((Below.refl _ w5).alloc (Nat.le_refl _) _)); have hvZ : Z.heap[w5.heap.size]? = some (.cells #[.slice none 0 0, .slice none 0 0] 29 (0, 0)) := (by subst hZ; exact ha_at rfl); have hZs := Lib.hid (show Z.heap.size = w5.heap.size + 1 by subst hZ; simp); have hneZ : some w5.heap.size ≠ v5.ownBlock := (fun e => (by have := (ho5.base _ e.symm).2; omega)); have hK5s := hK5.size)
                  | ((with_reducible refine step_append_all (w := Y) (by with_unfolding_all rfl) (by with_unfolding_all rfl) hunV infoV (by with_unfolding_all rfl) (by decide) encVote_len encVote_one (by with_unfolding_all rfl) (Own.nil _ w4.heap.size _ _ _) (ys := ([] : List Vote)) (by with_unfolding_all rfl) hN1 hR1Y hbn hln hKY.size ?_); intro v5 w5 hoy hg5 hat5; have hKy := below_step hKY hKY.size hg5 hnb; have hK5 := hKy; have hO5 : ∀ k, v5.ownBlock = some k → w4.heap.size ≤ k := fun k hk => (hoy.base k hk).1; have hv5 := grown_own hg5 hvY (by simp [Value.ownBlock]); have hney : some w4.heap.size ≠ v5.ownBlock := (hat5.elim (fun e => (by rw [e]; simp [Value.ownBlock])) (fun e => (by rw [e, hYs.out]; simp))))
                  | ((with_reducible refine step_append_all (w := w5) (by with_unfolding_all rfl) (by with_unfolding_all rfl) hunV infoV (by with_unfolding_all rfl) (by decide) encVote_len encVote_one (by with_unfolding_all rfl) ho5 (ys := ([] : List Vote)) (by (try rw [htl]); with_unfolding_all rfl) hN2 (show Rd 4 encVote w5 (some ad) ([] : List Vote) from Rd_nil _ _ _ _) hbn2 hln2 hK5.size ?_); intro v6 w6 ho6 hg6 hat6; have hK6 := below_step hK5 hK5.size hg6 hO5; rw [hqn.out] at ho6; obtain ⟨A6, k6, hv6, hR6⟩ := ho6.rd encVote_len; subst hv6)
                  | ((with_reducible refine step_append_all (w := w5) (by with_unfolding_all rfl) (by with_unfolding_all rfl) hunV infoV (by with_unfolding_all rfl) (by decide) encVote_len encVote_one (by with_unfolding_all rfl) hoy (ys := ([] : List Vote)) (by (try rw [htl]); with_unfolding_all rfl) hN2 (show Rd 4 encVote w5 (some ad) ([] : List Vote) from Rd_nil _ _ _ _) hbn2 hln2 hKy.size ?_); intro v6 w6 ho6 hg6 hat6; have hK6 := below_step hKy hKy.size hg6 hO5; have hne6 : some w4.heap.size ≠ v6.ownBlock := hat6.elim (fun e => (by rw [e]; exact hney)) (fun e => (by rw [e]; intro e2; have := Option.some.inj e2; have := lt_of_block hv5; omega)); rw [hqn.out] at ho6; obtain ⟨A6, k6, hv6, hR6⟩ := ho6.rd encVote_len; subst hv6; have hvb := grown_own hg6 hv5 hney; obtain ⟨m0, m1, m2, m3⟩ := blk2 hvb; obtain ⟨kk1, kk2⟩ := set2 hvb (.slice A2 l.length k2) (.slice A6 q.length k6); have hf6 := grown_own kk2 (bl_own hK6 f1) (fun e => by have := Option.some.inj e; omega))
                  | ((with_reducible refine step_append_all (w := Z) (by with_unfolding_all rfl) (by with_unfolding_all rfl) hunV infoV (by with_unfolding_all rfl) (by decide) encVote_len encVote_one (by with_unfolding_all rfl) hoZ (ys := ([] : List Vote)) (by (try rw [htl]); with_unfolding_all rfl) hN2 (show Rd 4 encVote Z (some ad) ([] : List Vote) from Rd_nil _ _ _ _) hbn2 hln2 hKZ.size ?_); intro v6 w6 ho6 hg6 hat6; have hK6 := below_step hKZ hKZ.size hg6 hO5; have hne6 : some w5.heap.size ≠ v6.ownBlock := hat6.elim (fun e => (by rw [e]; exact hneZ)) (fun e => (by rw [e, hZs.out]; simp)); rw [hqn.out] at ho6; obtain ⟨A6, k6, hv6, hR6⟩ := ho6.rd encVote_len; subst hv6; have hvb := grown_own hg6 hvZ hneZ; obtain ⟨m0, m1, m2, m3⟩ := blk2 hvb; obtain ⟨kk1, kk2⟩ := set2 hvb (.slice A2 l.length k2) (.slice A6 q.length k6); have hf6 := grown_own kk2 (bl_own hK6 f1) (fun e => by have := Option.some.inj e; omega))))
              all_goals go_wp2
              all_goals go_meet
              all_goals first
                | exact ⟨_, A6, k6, rfl, kk1, hR6.grown kk2 (fun a e => (by subst e; exact fun e2 => hne6 e2.symm)), below_step hK6 hK6.size kk2 (fun k e => by cases e; first | exact Nat.le_refl _ | exact hK5s)⟩
                | exact ⟨_, A6, k6, rfl, ha_at rfl, hR6.below ((Below.refl _ w6).alloc (Nat.le_refl _) _), hK6.alloc hK6.size _⟩
                | (trace_state; sorry)
            · have hi1 : (0 : Int) ≤ (k3 : Int) := by omega
              have hKD : Below w4.heap.size w4 w4.drew := (Below.refl _ w4).drew
              obtain ⟨Y, hY⟩ : ∃ Y, (w4.alloc (.cells #[.slice none 0 0, .slice none 0 0] 29)).drew = Y := ⟨_, rfl⟩
              have hKY : Below w4.heap.size w4 Y := by subst hY; exact ((Below.refl _ w4).alloc (Nat.le_refl _) _).drew
              have hvY : Y.heap[w4.heap.size]? = some (.cells #[.slice none 0 0, .slice none 0 0] 29 (0, 0)) := by subst hY; exact ha_at rfl
              have hYs := Lib.hid (show Y.heap.size = w4.heap.size + 1 by subst hY; simp [World.drew])
              have hrD := hr3.below (below_call hB4 hB4.size hKD)
              have hrY := hr3.below (below_call hB4 hB4.size hKY)
              have hR1D : Rd 4 encVote w4.drew (some ad) ([] : List Vote) := Rd_nil _ _ _ _
              have hR1Y : Rd 4 encVote Y (some ad) ([] : List Vote) := Rd_nil _ _ _ _
              have hN1 : ((some ad) : Option Addr) = none → k3 = 0 := fun e => by first | rfl | cases e
              have hN2 : ((some ad) : Option Addr) = none → k3 = 0 := fun e => by first | rfl | cases e
              have hnb : ∀ k, (Value.slice none 0 0).ownBlock = some k → w4.heap.size ≤ k := fun k e => by simp [Value.ownBlock] at e
              have hbn : (([] : List Vote).length + ([] : List Vote).length) * 32 ≤ 140737488355328 := by simp <;> omega
              have hln : ([] : List Vote).length + ([] : List Vote).length ≤ maxLen := by simp [maxLen] <;> omega
              have hbn2 : (([] ++ ([] : List Vote) : List Vote).length + ([] : List Vote).length) * 32 ≤ 140737488355328 := by simp <;> omega
              have hln2 : ([] ++ ([] : List Vote) : List Vote).length + ([] : List Vote).length ≤ maxLen := by simp [maxLen] <;> omega
              have hltv := lt_of_block f1
              obtain ⟨x5, x6, _, _⟩ := blk2 f1
              go_region_held3 (fun W' => (W'.cell? ⟨w.heap.size + 1, 0, none⟩ = some (.slice A2 l.length k2) ∧ W'.cell? ⟨w.heap.size + 1, 1, none⟩ = some (.slice (some ad) 0 k3)))
                (first | exact ⟨x5, x6⟩ | exact cv2 (bl_own hKY f1) | exact cv2 (bl_own hK5 f1) | exact cv2 (bl_own hKZ f1) | exact cv2 hf6 | exact cv2 (bl_own hK6 f1) | exact cv2 (ha_lt (bl_own hK6 f1))) ((first
                  | ((with_reducible refine step_append_all (w := w4.drew) (by with_unfolding_all rfl) (by with_unfolding_all rfl) hunV infoV (by with_unfolding_all rfl) (by decide) encVote_len encVote_one (by with_unfolding_all rfl) (Own.nil _ w4.heap.size _ _ _) (ys := ([] : List Vote)) (by with_unfolding_all rfl) hN1 hR1D hbn hln hKD.size ?_); intro v5 w5 ho5 hg5 hat5; have hK5 := below_step hKD hKD.size hg5 hnb; have hO5 : ∀ k, v5.ownBlock = some k → w4.heap.size ≤ k := fun k hk => (ho5.base k hk).1; obtain ⟨Z, hZ⟩ : ∃ Z, w5.alloc (.cells #[.slice none 0 0, .slice none 0 0] 29) = Z := ⟨_, rfl⟩; have hKZ : Below w4.heap.size w4 Z := (by subst hZ; exact hK5.alloc hK5.size _); have hoZ : Own Z w4.heap.size 42 4 encVote v5 ([] ++ ([] : List Vote)) := (by subst hZ; exact ho5.below ((Below.refl _ w5).alloc (Nat.le_refl _) _)); have hvZ : Z.heap[w5.heap.size]? = some (.cells #[.slice none 0 0, .slice none 0 0] 29 (0, 0)) := (by subst hZ; exact ha_at rfl); have hZs := Lib.hid (show Z.heap.size = w5.heap.size + 1 by subst hZ; simp); have hneZ : some w5.heap.size ≠ v5.ownBlock := (fun e => (by have := (ho5.base _ e.symm).2; omega)); have hK5s := hK5.size)
                  | ((with_reducible refine step_append_all (w := Y) (by with_unfolding_all rfl) (by with_unfolding_all rfl) hunV infoV (by with_unfolding_all rfl) (by decide) encVote_len encVote_one (by with_unfolding_all rfl) (Own.nil _ w4.heap.size _ _ _) (ys := ([] : List Vote)) (by with_unfolding_all rfl) hN1 hR1Y hbn hln hKY.size ?_); intro v5 w5 hoy hg5 hat5; have hKy := below_step hKY hKY.size hg5 hnb; have hK5 := hKy; have hO5 : ∀ k, v5.ownBlock = some k → w4.heap.size ≤ k := fun k hk => (hoy.base k hk).1; have hv5 := grown_own hg5 hvY (by simp [Value.ownBlock]); have hney : some w4.heap.size ≠ v5.ownBlock := (hat5.elim (fun e => (by rw [e]; simp [Value.ownBlock])) (fun e => (by rw [e, hYs.out]; simp))))
                  | ((with_reducible refine step_append_all (w := w5) (by with_unfolding_all rfl) (by with_unfolding_all rfl) hunV infoV (by with_unfolding_all rfl) (by decide) encVote_len encVote_one (by with_unfolding_all rfl) ho5 (ys := ([] : List Vote)) (by (try rw [htl]); with_unfolding_all rfl) hN2 (show Rd 4 encVote w5 (some ad) ([] : List Vote) from Rd_nil _ _ _ _) hbn2 hln2 hK5.size ?_); intro v6 w6 ho6 hg6 hat6; have hK6 := below_step hK5 hK5.size hg6 hO5; rw [hqn.out] at ho6; obtain ⟨A6, k6, hv6, hR6⟩ := ho6.rd encVote_len; subst hv6)
                  | ((with_reducible refine step_append_all (w := w5) (by with_unfolding_all rfl) (by with_unfolding_all rfl) hunV infoV (by with_unfolding_all rfl) (by decide) encVote_len encVote_one (by with_unfolding_all rfl) hoy (ys := ([] : List Vote)) (by (try rw [htl]); with_unfolding_all rfl) hN2 (show Rd 4 encVote w5 (some ad) ([] : List Vote) from Rd_nil _ _ _ _) hbn2 hln2 hKy.size ?_); intro v6 w6 ho6 hg6 hat6; have hK6 := below_step hKy hKy.size hg6 hO5; have hne6 : some w4.heap.size ≠ v6.ownBlock := hat6.elim (fun e => (by rw [e]; exact hney)) (fun e => (by rw [e]; intro e2; have := Option.some.inj e2; have := lt_of_block hv5; omega)); rw [hqn.out] at ho6; obtain ⟨A6, k6, hv6, hR6⟩ := ho6.rd encVote_len; subst hv6; have hvb := grown_own hg6 hv5 hney; obtain ⟨m0, m1, m2, m3⟩ := blk2 hvb; obtain ⟨kk1, kk2⟩ := set2 hvb (.slice A2 l.length k2) (.slice A6 q.length k6); have hf6 := grown_own kk2 (bl_own hK6 f1) (fun e => by have := Option.some.inj e; omega))
                  | ((with_reducible refine step_append_all (w := Z) (by with_unfolding_all rfl) (by with_unfolding_all rfl) hunV infoV (by with_unfolding_all rfl) (by decide) encVote_len encVote_one (by with_unfolding_all rfl) hoZ (ys := ([] : List Vote)) (by (try rw [htl]); with_unfolding_all rfl) hN2 (show Rd 4 encVote Z (some ad) ([] : List Vote) from Rd_nil _ _ _ _) hbn2 hln2 hKZ.size ?_); intro v6 w6 ho6 hg6 hat6; have hK6 := below_step hKZ hKZ.size hg6 hO5; have hne6 : some w5.heap.size ≠ v6.ownBlock := hat6.elim (fun e => (by rw [e]; exact hneZ)) (fun e => (by rw [e, hZs.out]; simp)); rw [hqn.out] at ho6; obtain ⟨A6, k6, hv6, hR6⟩ := ho6.rd encVote_len; subst hv6; have hvb := grown_own hg6 hvZ hneZ; obtain ⟨m0, m1, m2, m3⟩ := blk2 hvb; obtain ⟨kk1, kk2⟩ := set2 hvb (.slice A2 l.length k2) (.slice A6 q.length k6); have hf6 := grown_own kk2 (bl_own hK6 f1) (fun e => by have := Option.some.inj e; omega))))
              all_goals go_wp2
              all_goals go_meet
              all_goals first
                | exact ⟨_, A6, k6, rfl, kk1, hR6.grown kk2 (fun a e => (by subst e; exact fun e2 => hne6 e2.symm)), below_step hK6 hK6.size kk2 (fun k e => by cases e; first | exact Nat.le_refl _ | exact hK5s)⟩
                | exact ⟨_, A6, k6, rfl, ha_at rfl, hR6.below ((Below.refl _ w6).alloc (Nat.le_refl _) _), hK6.alloc hK6.size _⟩
                | (trace_state; sorry)
        · obtain ⟨b, o2, rfl, _⟩ := hr3.2 hl
          have hi0 : (0 : Int) ≤ (n : Int) := by omega
          have hi1 : (n : Int) ≤ (vs.length : Int) := by omega
          have hi2 : (vs.length : Int) ≤ (k3 : Int) := by omega
          have hi3 : (n : Int) ≤ (k3 : Int) := by omega
          obtain ⟨rest, hrest⟩ : ∃ rest, vs.drop n = rest := ⟨_, rfl⟩
          have hrl : vs.length - n = rest.length := by rw [← hrest]; simp
          have hrle : rest.length ≤ 40 := by omega
          obtain ⟨tk, htk⟩ : ∃ tk, vs.take n = tk := ⟨_, rfl⟩
          have htl : tk.length = n := by rw [← htk]; simp; omega
          have hqn := Lib.hid (show ([] ++ rest) ++ tk = q by rw [List.nil_append, ← hq'.out, hrest, htk])
          have hrest' := Lib.hid hrest
          have htk' := Lib.hid htk
          clear hrest htk hl
          by_cases hk : n = k3
          · subst hk
            have hrn := Lib.hid (show rest = [] from List.eq_nil_of_length_eq_zero (by omega))
            have hKD : Below w4.heap.size w4 w4.drew := (Below.refl _ w4).drew
            obtain ⟨Y, hY⟩ : ∃ Y, (w4.alloc (.cells #[.slice none 0 0, .slice none 0 0] 29)).drew = Y := ⟨_, rfl⟩
            have hKY : Below w4.heap.size w4 Y := by subst hY; exact ((Below.refl _ w4).alloc (Nat.le_refl _) _).drew
            have hvY : Y.heap[w4.heap.size]? = some (.cells #[.slice none 0 0, .slice none 0 0] 29 (0, 0)) := by subst hY; exact ha_at rfl
            have hYs := Lib.hid (show Y.heap.size = w4.heap.size + 1 by subst hY; simp [World.drew])
            have hrD := hr3.below (below_call hB4 hB4.size hKD)
            have hrY := hr3.below (below_call hB4 hB4.size hKY)
            have hR1D : Rd 4 encVote w4.drew (some ⟨b, o2, none⟩) rest := by rw [hrn.out]; exact Rd_nil _ _ _ _
            have hR1Y : Rd 4 encVote Y (some ⟨b, o2, none⟩) rest := by rw [hrn.out]; exact Rd_nil _ _ _ _
            have hN1 : ((some ⟨b, o2, none⟩) : Option Addr) = none → 0 = 0 := fun e => by first | rfl | cases e
            have hN2 : ((some ⟨b, o2, none⟩) : Option Addr) = none → n = 0 := fun e => by first | rfl | cases e
            have hnb : ∀ k, (Value.slice none 0 0).ownBlock = some k → w4.heap.size ≤ k := fun k e => by simp [Value.ownBlock] at e
            have hbn : (([] : List Vote).length + rest.length) * 32 ≤ 140737488355328 := by simp <;> omega
            have hln : ([] : List Vote).length + rest.length ≤ maxLen := by simp [maxLen] <;> omega
            have hbn2 : (([] ++ rest : List Vote).length + tk.length) * 32 ≤ 140737488355328 := by simp <;> omega
            have hln2 : ([] ++ rest : List Vote).length + tk.length ≤ maxLen := by simp [maxLen] <;> omega
            have hltv := lt_of_block f1
            obtain ⟨x5, x6, _, _⟩ := blk2 f1
            go_region_held3 (fun W' => (W'.cell? ⟨w.heap.size + 1, 0, none⟩ = some (.slice A2 l.length k2) ∧ W'.cell? ⟨w.heap.size + 1, 1, none⟩ = some (.slice (some ⟨b, o2, none⟩) vs.length n)))
              (first | exact ⟨x5, x6⟩ | exact cv2 (bl_own hKY f1) | exact cv2 (bl_own hK5 f1) | exact cv2 (bl_own hKZ f1) | exact cv2 hf6 | exact cv2 (bl_own hK6 f1) | exact cv2 (ha_lt (bl_own hK6 f1))) ((first
                | ((with_reducible refine step_append_all (w := w4.drew) (by with_unfolding_all rfl) (by with_unfolding_all rfl) hunV infoV (by with_unfolding_all rfl) (by decide) encVote_len encVote_one (by with_unfolding_all rfl) (Own.nil _ w4.heap.size _ _ _) (ys := rest) (by with_unfolding_all rfl) hN1 hR1D hbn hln hKD.size ?_); intro v5 w5 ho5 hg5 hat5; have hK5 := below_step hKD hKD.size hg5 hnb; have hO5 : ∀ k, v5.ownBlock = some k → w4.heap.size ≤ k := fun k hk => (ho5.base k hk).1; obtain ⟨Z, hZ⟩ : ∃ Z, w5.alloc (.cells #[.slice none 0 0, .slice none 0 0] 29) = Z := ⟨_, rfl⟩; have hKZ : Below w4.heap.size w4 Z := (by subst hZ; exact hK5.alloc hK5.size _); have hoZ : Own Z w4.heap.size 42 4 encVote v5 ([] ++ rest) := (by subst hZ; exact ho5.below ((Below.refl _ w5).alloc (Nat.le_refl _) _)); have hvZ : Z.heap[w5.heap.size]? = some (.cells #[.slice none 0 0, .slice none 0 0] 29 (0, 0)) := (by subst hZ; exact ha_at rfl); have hZs := Lib.hid (show Z.heap.size = w5.heap.size + 1 by subst hZ; simp); have hneZ : some w5.heap.size ≠ v5.ownBlock := (fun e => (by have := (ho5.base _ e.symm).2; omega)); have hK5s := hK5.size)
                | ((with_reducible refine step_append_all (w := Y) (by with_unfolding_all rfl) (by with_unfolding_all rfl) hunV infoV (by with_unfolding_all rfl) (by decide) encVote_len encVote_one (by with_unfolding_all rfl) (Own.nil _ w4.heap.size _ _ _) (ys := rest) (by with_unfolding_all rfl) hN1 hR1Y hbn hln hKY.size ?_); intro v5 w5 hoy hg5 hat5; have hKy := below_step hKY hKY.size hg5 hnb; have hK5 := hKy; have hO5 : ∀ k, v5.ownBlock = some k → w4.heap.size ≤ k := fun k hk => (hoy.base k hk).1; have hv5 := grown_own hg5 hvY (by simp [Value.ownBlock]); have hney : some w4.heap.size ≠ v5.ownBlock := (hat5.elim (fun e => (by rw [e]; simp [Value.ownBlock])) (fun e => (by rw [e, hYs.out]; simp))))
                | ((with_reducible refine step_append_all (w := w5) (by with_unfolding_all rfl) (by with_unfolding_all rfl) hunV infoV (by with_unfolding_all rfl) (by decide) encVote_len encVote_one (by with_unfolding_all rfl) ho5 (ys := tk) (by (try rw [htl]); with_unfolding_all rfl) hN2 (show Rd 4 encVote w5 (some ⟨b, o2, none⟩) tk from by rw [← htk'.out]; exact (hr3.below (below_call hB4 hB4.size hK5)).take n) hbn2 hln2 hK5.size ?_); intro v6 w6 ho6 hg6 hat6; have hK6 := below_step hK5 hK5.size hg6 hO5; rw [hqn.out] at ho6; obtain ⟨A6, k6, hv6, hR6⟩ := ho6.rd encVote_len; subst hv6)
                | ((with_reducible refine step_append_all (w := w5) (by with_unfolding_all rfl) (by with_unfolding_all rfl) hunV infoV (by with_unfolding_all rfl) (by decide) encVote_len encVote_one (by with_unfolding_all rfl) hoy (ys := tk) (by (try rw [htl]); with_unfolding_all rfl) hN2 (show Rd 4 encVote w5 (some ⟨b, o2, none⟩) tk from by rw [← htk'.out]; exact (hr3.below (below_call hB4 hB4.size hKy)).take n) hbn2 hln2 hKy.size ?_); intro v6 w6 ho6 hg6 hat6; have hK6 := below_step hKy hKy.size hg6 hO5; have hne6 : some w4.heap.size ≠ v6.ownBlock := hat6.elim (fun e => (by rw [e]; exact hney)) (fun e => (by rw [e]; intro e2; have := Option.some.inj e2; have := lt_of_block hv5; omega)); rw [hqn.out] at ho6; obtain ⟨A6, k6, hv6, hR6⟩ := ho6.rd encVote_len; subst hv6; have hvb := grown_own hg6 hv5 hney; obtain ⟨m0, m1, m2, m3⟩ := blk2 hvb; obtain ⟨kk1, kk2⟩ := set2 hvb (.slice A2 l.length k2) (.slice A6 q.length k6); have hf6 := grown_own kk2 (bl_own hK6 f1) (fun e => by have := Option.some.inj e; omega))
                | ((with_reducible refine step_append_all (w := Z) (by with_unfolding_all rfl) (by with_unfolding_all rfl) hunV infoV (by with_unfolding_all rfl) (by decide) encVote_len encVote_one (by with_unfolding_all rfl) hoZ (ys := tk) (by (try rw [htl]); with_unfolding_all rfl) hN2 (show Rd 4 encVote Z (some ⟨b, o2, none⟩) tk from by rw [← htk'.out]; exact (hr3.below (below_call hB4 hB4.size hKZ)).take n) hbn2 hln2 hKZ.size ?_); intro v6 w6 ho6 hg6 hat6; have hK6 := below_step hKZ hKZ.size hg6 hO5; have hne6 : some w5.heap.size ≠ v6.ownBlock := hat6.elim (fun e => (by rw [e]; exact hneZ)) (fun e => (by rw [e, hZs.out]; simp)); rw [hqn.out] at ho6; obtain ⟨A6, k6, hv6, hR6⟩ := ho6.rd encVote_len; subst hv6; have hvb := grown_own hg6 hvZ hneZ; obtain ⟨m0, m1, m2, m3⟩ := blk2 hvb; obtain ⟨kk1, kk2⟩ := set2 hvb (.slice A2 l.length k2) (.slice A6 q.length k6); have hf6 := grown_own kk2 (bl_own hK6 f1) (fun e => by have := Option.some.inj e; omega))))
            all_goals go_wp2
            all_goals go_meet
            all_goals first
              | exact ⟨_, A6, k6, rfl, kk1, hR6.grown kk2 (fun a e => (by subst e; exact fun e2 => hne6 e2.symm)), below_step hK6 hK6.size kk2 (fun k e => by cases e; first | exact Nat.le_refl _ | exact hK5s)⟩
              | exact ⟨_, A6, k6, rfl, ha_at rfl, hR6.below ((Below.refl _ w6).alloc (Nat.le_refl _) _), hK6.alloc hK6.size _⟩
              | (trace_state; sorry)
          · have hk2 : ¬ k3 = n := fun e => hk e.symm
            have hKD : Below w4.heap.size w4 w4.drew := (Below.refl _ w4).drew
            obtain ⟨Y, hY⟩ : ∃ Y, (w4.alloc (.cells #[.slice none 0 0, .slice none 0 0] 29)).drew = Y := ⟨_, rfl⟩
            have hKY : Below w4.heap.size w4 Y := by subst hY; exact ((Below.refl _ w4).alloc (Nat.le_refl _) _).drew
            have hvY : Y.heap[w4.heap.size]? = some (.cells #[.slice none 0 0, .slice none 0 0] 29 (0, 0)) := by subst hY; exact ha_at rfl
            have hYs := Lib.hid (show Y.heap.size = w4.heap.size + 1 by subst hY; simp [World.drew])
            have hrD := hr3.below (below_call hB4 hB4.size hKD)
            have hrY := hr3.below (below_call hB4 hB4.size hKY)
            have hR1D : Rd 4 encVote w4.drew (some ⟨b, o2 + n * 4, none⟩) rest := by rw [← hrest'.out]; exact hrD.drop n
            have hR1Y : Rd 4 encVote Y (some ⟨b, o2 + n * 4, none⟩) rest := by rw [← hrest'.out]; exact hrY.drop n
            have hN1 : ((some ⟨b, o2 + n * 4, none⟩) : Option Addr) = none → (k3 - n) = 0 := fun e => by first | rfl | cases e
            have hN2 : ((some ⟨b, o2, none⟩) : Option Addr) = none → k3 = 0 := fun e => by first | rfl | cases e
            have hnb : ∀ k, (Value.slice none 0 0).ownBlock = some k → w4.heap.size ≤ k := fun k e => by simp [Value.ownBlock] at e
            have hbn : (([] : List Vote).length + rest.length) * 32 ≤ 140737488355328 := by simp <;> omega
            have hln : ([] : List Vote).length + rest.length ≤ maxLen := by simp [maxLen] <;> omega
            have hbn2 : (([] ++ rest : List Vote).length + tk.length) * 32 ≤ 140737488355328 := by simp <;> omega
            have hln2 : ([] ++ rest : List Vote).length + tk.length ≤ maxLen := by simp [maxLen] <;> omega
            have hltv := lt_of_block f1
            obtain ⟨x5, x6, _, _⟩ := blk2 f1
            go_region_held3 (fun W' => (W'.cell? ⟨w.heap.size + 1, 0, none⟩ = some (.slice A2 l.length k2) ∧ W'.cell? ⟨w.heap.size + 1, 1, none⟩ = some (.slice (some ⟨b, o2, none⟩) vs.length k3)))
              (first | exact ⟨x5, x6⟩ | exact cv2 (bl_own hKY f1) | exact cv2 (bl_own hK5 f1) | exact cv2 (bl_own hKZ f1) | exact cv2 hf6 | exact cv2 (bl_own hK6 f1) | exact cv2 (ha_lt (bl_own hK6 f1))) ((first
                | ((with_reducible refine step_append_all (w := w4.drew) (by with_unfolding_all rfl) (by with_unfolding_all rfl) hunV infoV (by with_unfolding_all rfl) (by decide) encVote_len encVote_one (by with_unfolding_all rfl) (Own.nil _ w4.heap.size _ _ _) (ys := rest) (by with_unfolding_all rfl) hN1 hR1D hbn hln hKD.size ?_); intro v5 w5 ho5 hg5 hat5; have hK5 := below_step hKD hKD.size hg5 hnb; have hO5 : ∀ k, v5.ownBlock = some k → w4.heap.size ≤ k := fun k hk => (ho5.base k hk).1; obtain ⟨Z, hZ⟩ : ∃ Z, w5.alloc (.cells #[.slice none 0 0, .slice none 0 0] 29) = Z := ⟨_, rfl⟩; have hKZ : Below w4.heap.size w4 Z := (by subst hZ; exact hK5.alloc hK5.size _); have hoZ : Own Z w4.heap.size 42 4 encVote v5 ([] ++ rest) := (by subst hZ; exact ho5.below ((Below.refl _ w5).alloc (Nat.le_refl _) _)); have hvZ : Z.heap[w5.heap.size]? = some (.cells #[.slice none 0 0, .slice none 0 0] 29 (0, 0)) := (by subst hZ; exact ha_at rfl); have hZs := Lib.hid (show Z.heap.size = w5.heap.size + 1 by subst hZ; simp); have hneZ : some w5.heap.size ≠ v5.ownBlock := (fun e => (by have := (ho5.base _ e.symm).2; omega)); have hK5s := hK5.size)
                | ((with_reducible refine step_append_all (w := Y) (by with_unfolding_all rfl) (by with_unfolding_all rfl) hunV infoV (by with_unfolding_all rfl) (by decide) encVote_len encVote_one (by with_unfolding_all rfl) (Own.nil _ w4.heap.size _ _ _) (ys := rest) (by with_unfolding_all rfl) hN1 hR1Y hbn hln hKY.size ?_); intro v5 w5 hoy hg5 hat5; have hKy := below_step hKY hKY.size hg5 hnb; have hK5 := hKy; have hO5 : ∀ k, v5.ownBlock = some k → w4.heap.size ≤ k := fun k hk => (hoy.base k hk).1; have hv5 := grown_own hg5 hvY (by simp [Value.ownBlock]); have hney : some w4.heap.size ≠ v5.ownBlock := (hat5.elim (fun e => (by rw [e]; simp [Value.ownBlock])) (fun e => (by rw [e, hYs.out]; simp))))
                | ((with_reducible refine step_append_all (w := w5) (by with_unfolding_all rfl) (by with_unfolding_all rfl) hunV infoV (by with_unfolding_all rfl) (by decide) encVote_len encVote_one (by with_unfolding_all rfl) ho5 (ys := tk) (by (try rw [htl]); with_unfolding_all rfl) hN2 (show Rd 4 encVote w5 (some ⟨b, o2, none⟩) tk from by rw [← htk'.out]; exact (hr3.below (below_call hB4 hB4.size hK5)).take n) hbn2 hln2 hK5.size ?_); intro v6 w6 ho6 hg6 hat6; have hK6 := below_step hK5 hK5.size hg6 hO5; rw [hqn.out] at ho6; obtain ⟨A6, k6, hv6, hR6⟩ := ho6.rd encVote_len; subst hv6)
                | ((with_reducible refine step_append_all (w := w5) (by with_unfolding_all rfl) (by with_unfolding_all rfl) hunV infoV (by with_unfolding_all rfl) (by decide) encVote_len encVote_one (by with_unfolding_all rfl) hoy (ys := tk) (by (try rw [htl]); with_unfolding_all rfl) hN2 (show Rd 4 encVote w5 (some ⟨b, o2, none⟩) tk from by rw [← htk'.out]; exact (hr3.below (below_call hB4 hB4.size hKy)).take n) hbn2 hln2 hKy.size ?_); intro v6 w6 ho6 hg6 hat6; have hK6 := below_step hKy hKy.size hg6 hO5; have hne6 : some w4.heap.size ≠ v6.ownBlock := hat6.elim (fun e => (by rw [e]; exact hney)) (fun e => (by rw [e]; intro e2; have := Option.some.inj e2; have := lt_of_block hv5; omega)); rw [hqn.out] at ho6; obtain ⟨A6, k6, hv6, hR6⟩ := ho6.rd encVote_len; subst hv6; have hvb := grown_own hg6 hv5 hney; obtain ⟨m0, m1, m2, m3⟩ := blk2 hvb; obtain ⟨kk1, kk2⟩ := set2 hvb (.slice A2 l.length k2) (.slice A6 q.length k6); have hf6 := grown_own kk2 (bl_own hK6 f1) (fun e => by have := Option.some.inj e; omega))
                | ((with_reducible refine step_append_all (w := Z) (by with_unfolding_all rfl) (by with_unfolding_all rfl) hunV infoV (by with_unfolding_all rfl) (by decide) encVote_len encVote_one (by with_unfolding_all rfl) hoZ (ys := tk) (by (try rw [htl]); with_unfolding_all rfl) hN2 (show Rd 4 encVote Z (some ⟨b, o2, none⟩) tk from by rw [← htk'.out]; exact (hr3.below (below_call hB4 hB4.size hKZ)).take n) hbn2 hln2 hKZ.size ?_); intro v6 w6 ho6 hg6 hat6; have hK6 := below_step hKZ hKZ.size hg6 hO5; have hne6 : some w5.heap.size ≠ v6.ownBlock := hat6.elim (fun e => (by rw [e]; exact hneZ)) (fun e => (by rw [e, hZs.out]; simp)); rw [hqn.out] at ho6; obtain ⟨A6, k6, hv6, hR6⟩ := ho6.rd encVote_len; subst hv6; have hvb := grown_own hg6 hvZ hneZ; obtain ⟨m0, m1, m2, m3⟩ := blk2 hvb; obtain ⟨kk1, kk2⟩ := set2 hvb (.slice A2 l.length k2) (.slice A6 q.length k6); have hf6 := grown_own kk2 (bl_own hK6 f1) (fun e => by have := Option.some.inj e; omega))))
            all_goals go_wp2
            all_goals go_meet
            all_goals first
              | exact ⟨_, A6, k6, rfl, kk1, hR6.grown kk2 (fun a e => (by subst e; exact fun e2 => hne6 e2.symm)), below_step hK6 hK6.size kk2 (fun k e => by cases e; first | exact Nat.le_refl _ | exact hK5s)⟩
              | exact ⟨_, A6, k6, rfl, ha_at rfl, hR6.below ((Below.refl _ w6).alloc (Nat.le_refl _) _), hK6.alloc hK6.size _⟩
              | (trace_state; sorry)
      case rest =>
        obtain ⟨g1, A6, k6, rfl, hv1, hR6, hK6⟩ := hcut
        have hBc := below_call hB4 hB4.size hK6
        replace f0 := bl_own hK6 f0
        replace f1 := bl_own hK6 f1
        replace f2 := bl_own hK6 f2
        replace fh := bl_own hK6 fh
        clear hB4 hK6
        rename World => w4
        have hB4 := hBc
        clear hBc
        go_wp2_with fail
        go_cut [15] from 58 to 66 (fun v14 wx => ∃ (g : Nat) (A6 : Option Addr) (k6 : Nat), v14 = .pointer (some ⟨g, 0, none⟩) ∧ wx.heap[g]? = some (.cells #[.slice A2 l.length k2, .slice A6 q2.length k6] 29 (0, 0)) ∧ Rd 4 encVote wx A6 q2 ∧ Below w4.heap.size w4 wx)
        case first =>
          obtain ⟨x5, x6, _, _⟩ := blk2 f1
          obtain ⟨x7, x8, x9, x10⟩ := blk4 f2
          have hltv := lt_of_block f1
          have hltx := lt_of_block f2
          have hnb : ∀ k, (Value.slice none 0 0).ownBlock = some k → w4.heap.size ≤ k := fun k e => by simp [Value.ownBlock] at e
          have hbn : (([] : List Vote).length + vs.length) * 32 ≤ 140737488355328 := by simp <;> omega
          have hln : ([] : List Vote).length + vs.length ≤ maxLen := by simp [maxLen] <;> omega
          have hb1 : (([] ++ vs : List Vote).length + 1) * 32 ≤ 140737488355328 := by simp <;> omega
          have hl1 : ([] ++ vs : List Vote).length + 1 ≤ maxLen := by simp [maxLen] <;> omega
          have hK_ : Below w4.heap.size w4 w4.drew := (Below.refl _ w4).drew
          obtain ⟨Wb, hWb⟩ : ∃ Y, (w4.alloc (.cells #[.int .i64 x.frm, .int .i64 x.slot, .int .u64 x.head.hi, .int .u64 x.head.lo] 42)).drew = Y := ⟨_, rfl⟩
          have hK_b : Below w4.heap.size w4 Wb := by subst hWb; exact ((Below.refl _ w4).alloc (Nat.le_refl _) _).drew
          have hx_b : Wb.heap[w4.heap.size]? = some (.cells #[.int .i64 x.frm, .int .i64 x.slot, .int .u64 x.head.hi, .int .u64 x.head.lo] 42 (0, 0)) := by subst hWb; exact ha_at rfl
          obtain ⟨Wv, hWv⟩ : ∃ Y, (w4.alloc (.cells #[.slice none 0 0, .slice none 0 0] 29)).drew = Y := ⟨_, rfl⟩
          have hK_v : Below w4.heap.size w4 Wv := by subst hWv; exact ((Below.refl _ w4).alloc (Nat.le_refl _) _).drew
          have hv_v : Wv.heap[w4.heap.size]? = some (.cells #[.slice none 0 0, .slice none 0 0] 29 (0, 0)) := by subst hWv; exact ha_at rfl
          obtain ⟨Wbv, hWbv⟩ : ∃ Y, Wb.alloc (.cells #[.slice none 0 0, .slice none 0 0] 29) = Y := ⟨_, rfl⟩
          have hK_bv : Below w4.heap.size w4 Wbv := by subst hWbv; exact hK_b.alloc hK_b.size _
          have hx_bv : Wbv.heap[w4.heap.size]? = some (.cells #[.int .i64 x.frm, .int .i64 x.slot, .int .u64 x.head.hi, .int .u64 x.head.lo] 42 (0, 0)) := by subst hWbv; exact ha_lt hx_b
          have hv_bv : Wbv.heap[Wb.heap.size]? = some (.cells #[.slice none 0 0, .slice none 0 0] 29 (0, 0)) := by subst hWbv; exact ha_at rfl
          obtain ⟨Wvb, hWvb⟩ : ∃ Y, Wv.alloc (.cells #[.int .i64 x.frm, .int .i64 x.slot, .int .u64 x.head.hi, .int .u64 x.head.lo] 42) = Y := ⟨_, rfl⟩
          have hK_vb : Below w4.heap.size w4 Wvb := by subst hWvb; exact hK_v.alloc hK_v.size _
          have hx_vb : Wvb.heap[Wv.heap.size]? = some (.cells #[.int .i64 x.frm, .int .i64 x.slot, .int .u64 x.head.hi, .int .u64 x.head.lo] 42 (0, 0)) := by subst hWvb; exact ha_at rfl
          have hv_vb : Wvb.heap[w4.heap.size]? = some (.cells #[.slice none 0 0, .slice none 0 0] 29 (0, 0)) := by subst hWvb; exact ha_lt hv_v
          have hge_v : w4.heap.size ≤ w4.heap.size := Nat.le_refl _
          have hge_vb := hge_v
          have hge_bv : w4.heap.size ≤ Wb.heap.size := hK_b.size
          go_region_held3 (fun W' => (W'.cell? ⟨w.heap.size + 1, 0, none⟩ = some (.slice A2 l.length k2) ∧ W'.cell? ⟨w.heap.size + 1, 1, none⟩ = some (.slice A3 vs.length k3)) ∧ W'.cell? ⟨w.heap.size + 1 + 1, 0, none⟩ = some (.int .i64 x.frm) ∧ W'.cell? ⟨w.heap.size + 1 + 1, 1, none⟩ = some (.int .i64 x.slot) ∧ W'.cell? ⟨w.heap.size + 1 + 1, 2, none⟩ = some (.int .u64 x.head.hi) ∧ W'.cell? ⟨w.heap.size + 1 + 1, 3, none⟩ = some (.int .u64 x.head.lo))
            (first | exact cv26 x5 x6 x7 x8 x9 x10 | exact cv26b (bl_own hK_b f1) (bl_own hK_b f2) | exact cv26b (bl_own hK_v f1) (bl_own hK_v f2) | exact cv26b (bl_own hK_bv f1) (bl_own hK_bv f2) | exact cv26b (bl_own hK_vb f1) (bl_own hK_vb f2) | exact cv26b (bl_own hK5 f1) (bl_own hK5 f2) | exact cv26b (bl_own hKZb f1) (bl_own hKZb f2) | exact cv26b (bl_own hKZv f1) (bl_own hKZv f2) | exact cv26b (bl_own hKZbv f1) (bl_own hKZbv f2) | exact cv26b (bl_own hKZvb f1) (bl_own hKZvb f2) | exact cv26b (bl_own hKZv2 f1) (bl_own hKZv2 f2) | exact cv26b (bl_own hKZb2 f1) (bl_own hKZb2 f2) | exact cv26b hf6 hf7 | exact cv26b (bl_own hK6 f1) (bl_own hK6 f2) | exact cv26b (ha_lt (bl_own hK6 f1)) (ha_lt (bl_own hK6 f2))) ((first
              | ((with_reducible refine step_append_all (w := w4.drew) (by with_unfolding_all rfl) (by with_unfolding_all rfl) hunV infoV (by with_unfolding_all rfl) (by decide) encVote_len encVote_one (by with_unfolding_all rfl) (Own.nil _ w4.heap.size _ _ _) (ys := vs) (by with_unfolding_all rfl) hN (hr3.below (below_call hB4 hB4.size hK_)) hbn hln hK_.size ?_); intro v5 w5 ho5n hg5 hat5; have hK5 := below_step hK_ hK_.size hg5 hnb; have hK5n := hK5; have hO5 : ∀ k, v5.ownBlock = some k → w4.heap.size ≤ k := fun k hk => (ho5n.base k hk).1; have hsz5 := hK5.size; obtain ⟨Zb, hZb⟩ : ∃ Z, w5.alloc (.cells #[.int .i64 x.frm, .int .i64 x.slot, .int .u64 x.head.hi, .int .u64 x.head.lo] 42) = Z := ⟨_, rfl⟩; have hKZb : Below w4.heap.size w4 Zb := (by subst hZb; exact hK5.alloc hK5.size _); have hoZb : Own Zb w4.heap.size 42 4 encVote v5 ([] ++ vs) := (by subst hZb; exact ho5n.below ((Below.refl _ w5).alloc (Nat.le_refl _) _)); have hxZb : Zb.heap[w5.heap.size]? = some (.cells #[.int .i64 x.frm, .int .i64 x.slot, .int .u64 x.head.hi, .int .u64 x.head.lo] 42 (0, 0)) := (by subst hZb; exact ha_at rfl); obtain ⟨Zv, hZv⟩ : ∃ Z, w5.alloc (.cells #[.slice none 0 0, .slice none 0 0] 29) = Z := ⟨_, rfl⟩; have hKZv : Below w4.heap.size w4 Zv := (by subst hZv; exact hK5.alloc hK5.size _); have hoZv : Own Zv w4.heap.size 42 4 encVote v5 ([] ++ vs) := (by subst hZv; exact ho5n.below ((Below.refl _ w5).alloc (Nat.le_refl _) _)); have hvZv : Zv.heap[w5.heap.size]? = some (.cells #[.slice none 0 0, .slice none 0 0] 29 (0, 0)) := (by subst hZv; exact ha_at rfl); have hneZv := ne_new ho5n (show w5.heap.size ≤ w5.heap.size from Nat.le_refl _); have hgeZv : w4.heap.size ≤ w5.heap.size := hK5.size; obtain ⟨Zbv, hZbv⟩ : ∃ Z, Zb.alloc (.cells #[.slice none 0 0, .slice none 0 0] 29) = Z := ⟨_, rfl⟩; have hKZbv : Below w4.heap.size w4 Zbv := (by subst hZbv; exact hKZb.alloc hKZb.size _); have hoZbv : Own Zbv w4.heap.size 42 4 encVote v5 ([] ++ vs) := (by subst hZbv; exact hoZb.below ((Below.refl _ Zb).alloc (Nat.le_refl _) _)); have hvZbv : Zbv.heap[Zb.heap.size]? = some (.cells #[.slice none 0 0, .slice none 0 0] 29 (0, 0)) := (by subst hZbv; exact ha_at rfl); have hxZbv : Zbv.heap[w5.heap.size]? = some (.cells #[.int .i64 x.frm, .int .i64 x.slot, .int .u64 x.head.hi, .int .u64 x.head.lo] 42 (0, 0)) := (by subst hZbv; exact ha_lt hxZb); have hneZbv := ne_new ho5n (show w5.heap.size ≤ Zb.heap.size from (by subst hZb; simp)); have hgeZbv : w4.heap.size ≤ Zb.heap.size := hKZb.size; obtain ⟨Zvb, hZvb⟩ : ∃ Z, Zv.alloc (.cells #[.int .i64 x.frm, .int .i64 x.slot, .int .u64 x.head.hi, .int .u64 x.head.lo] 42) = Z := ⟨_, rfl⟩; have hKZvb : Below w4.heap.size w4 Zvb := (by subst hZvb; exact hKZv.alloc hKZv.size _); have hoZvb : Own Zvb w4.heap.size 42 4 encVote v5 ([] ++ vs) := (by subst hZvb; exact hoZv.below ((Below.refl _ Zv).alloc (Nat.le_refl _) _)); have hxZvb : Zvb.heap[Zv.heap.size]? = some (.cells #[.int .i64 x.frm, .int .i64 x.slot, .int .u64 x.head.hi, .int .u64 x.head.lo] 42 (0, 0)) := (by subst hZvb; exact ha_at rfl); have hvZvb : Zvb.heap[w5.heap.size]? = some (.cells #[.slice none 0 0, .slice none 0 0] 29 (0, 0)) := (by subst hZvb; exact ha_lt hvZv); have hneZvb := hneZv; have hgeZvb := hgeZv)
              | ((with_reducible refine step_append_all (w := Wb) (by with_unfolding_all rfl) (by with_unfolding_all rfl) hunV infoV (by with_unfolding_all rfl) (by decide) encVote_len encVote_one (by with_unfolding_all rfl) (Own.nil _ w4.heap.size _ _ _) (ys := vs) (by with_unfolding_all rfl) hN (hr3.below (below_call hB4 hB4.size hK_b)) hbn hln hK_b.size ?_); intro v5 w5 ho5b hg5 hat5; have hK5 := below_step hK_b hK_b.size hg5 hnb; have hK5b := hK5; have hO5 : ∀ k, v5.ownBlock = some k → w4.heap.size ≤ k := fun k hk => (ho5b.base k hk).1; have hsz5 := hK5.size; have hx5b := grown_own hg5 hx_b (by simp [Value.ownBlock]); obtain ⟨Zv2, hZv2⟩ : ∃ Z, w5.alloc (.cells #[.slice none 0 0, .slice none 0 0] 29) = Z := ⟨_, rfl⟩; have hKZv2 : Below w4.heap.size w4 Zv2 := (by subst hZv2; exact hK5.alloc hK5.size _); have hoZv2 : Own Zv2 w4.heap.size 42 4 encVote v5 ([] ++ vs) := (by subst hZv2; exact ho5b.below ((Below.refl _ w5).alloc (Nat.le_refl _) _)); have hvZv2 : Zv2.heap[w5.heap.size]? = some (.cells #[.slice none 0 0, .slice none 0 0] 29 (0, 0)) := (by subst hZv2; exact ha_at rfl); have hxZv2 : Zv2.heap[w4.heap.size]? = some (.cells #[.int .i64 x.frm, .int .i64 x.slot, .int .u64 x.head.hi, .int .u64 x.head.lo] 42 (0, 0)) := (by subst hZv2; exact ha_lt hx5b); have hneZv2 := ne_new ho5b (show w5.heap.size ≤ w5.heap.size from Nat.le_refl _); have hgeZv2 : w4.heap.size ≤ w5.heap.size := hK5.size)
              | ((with_reducible refine step_append_all (w := Wv) (by with_unfolding_all rfl) (by with_unfolding_all rfl) hunV infoV (by with_unfolding_all rfl) (by decide) encVote_len encVote_one (by with_unfolding_all rfl) (Own.nil _ w4.heap.size _ _ _) (ys := vs) (by with_unfolding_all rfl) hN (hr3.below (below_call hB4 hB4.size hK_v)) hbn hln hK_v.size ?_); intro v5 w5 ho5v hg5 hat5; have hK5 := below_step hK_v hK_v.size hg5 hnb; have hK5v := hK5; have hO5 : ∀ k, v5.ownBlock = some k → w4.heap.size ≤ k := fun k hk => (ho5v.base k hk).1; have hsz5 := hK5.size; have hv5v := grown_own hg5 hv_v (by simp [Value.ownBlock]); have hne5v := ne_old hat5 (lt_of_block hv_v); obtain ⟨Zb2, hZb2⟩ : ∃ Z, w5.alloc (.cells #[.int .i64 x.frm, .int .i64 x.slot, .int .u64 x.head.hi, .int .u64 x.head.lo] 42) = Z := ⟨_, rfl⟩; have hKZb2 : Below w4.heap.size w4 Zb2 := (by subst hZb2; exact hK5.alloc hK5.size _); have hoZb2 : Own Zb2 w4.heap.size 42 4 encVote v5 ([] ++ vs) := (by subst hZb2; exact ho5v.below ((Below.refl _ w5).alloc (Nat.le_refl _) _)); have hxZb2 : Zb2.heap[w5.heap.size]? = some (.cells #[.int .i64 x.frm, .int .i64 x.slot, .int .u64 x.head.hi, .int .u64 x.head.lo] 42 (0, 0)) := (by subst hZb2; exact ha_at rfl); have hvZb2 : Zb2.heap[w4.heap.size]? = some (.cells #[.slice none 0 0, .slice none 0 0] 29 (0, 0)) := (by subst hZb2; exact ha_lt hv5v))
              | ((with_reducible refine step_append_all (w := Wbv) (by with_unfolding_all rfl) (by with_unfolding_all rfl) hunV infoV (by with_unfolding_all rfl) (by decide) encVote_len encVote_one (by with_unfolding_all rfl) (Own.nil _ w4.heap.size _ _ _) (ys := vs) (by with_unfolding_all rfl) hN (hr3.below (below_call hB4 hB4.size hK_bv)) hbn hln hK_bv.size ?_); intro v5 w5 ho5bv hg5 hat5; have hK5 := below_step hK_bv hK_bv.size hg5 hnb; have hK5bv := hK5; have hO5 : ∀ k, v5.ownBlock = some k → w4.heap.size ≤ k := fun k hk => (ho5bv.base k hk).1; have hsz5 := hK5.size; have hx5bv := grown_own hg5 hx_bv (by simp [Value.ownBlock]); have hv5bv := grown_own hg5 hv_bv (by simp [Value.ownBlock]); have hne5bv := ne_old hat5 (lt_of_block hv_bv))
              | ((with_reducible refine step_append_all (w := Wvb) (by with_unfolding_all rfl) (by with_unfolding_all rfl) hunV infoV (by with_unfolding_all rfl) (by decide) encVote_len encVote_one (by with_unfolding_all rfl) (Own.nil _ w4.heap.size _ _ _) (ys := vs) (by with_unfolding_all rfl) hN (hr3.below (below_call hB4 hB4.size hK_vb)) hbn hln hK_vb.size ?_); intro v5 w5 ho5vb hg5 hat5; have hK5 := below_step hK_vb hK_vb.size hg5 hnb; have hK5vb := hK5; have hO5 : ∀ k, v5.ownBlock = some k → w4.heap.size ≤ k := fun k hk => (ho5vb.base k hk).1; have hsz5 := hK5.size; have hx5vb := grown_own hg5 hx_vb (by simp [Value.ownBlock]); have hv5vb := grown_own hg5 hv_vb (by simp [Value.ownBlock]); have hne5vb := ne_old hat5 (lt_of_block hv_vb))
              | ((with_reducible refine step_append1 (w := Zb) (by with_unfolding_all rfl) (by with_unfolding_all rfl) hunV infoV (by with_unfolding_all rfl) (by decide) encVote_len encVote_one (by with_unfolding_all rfl) hoZb (c := 1) (by with_unfolding_all rfl) (y := x) hxZb (by with_unfolding_all rfl) hb1 hl1 hKZb.size ?_); intro v6 w6 ho6 hg6 hat6; have hK6 := below_step hKZb hKZb.size hg6 hO5; rw [hq2n.out] at ho6; obtain ⟨A7, k7, hv7, hR7⟩ := ho6.rd encVote_len; subst hv7)
              | ((with_reducible refine step_append1 (w := w5) (by with_unfolding_all rfl) (by with_unfolding_all rfl) hunV infoV (by with_unfolding_all rfl) (by decide) encVote_len encVote_one (by with_unfolding_all rfl) ho5b (c := 1) (by with_unfolding_all rfl) (y := x) hx5b (by with_unfolding_all rfl) hb1 hl1 hK5b.size ?_); intro v6 w6 ho6 hg6 hat6; have hK6 := below_step hK5b hK5b.size hg6 hO5; rw [hq2n.out] at ho6; obtain ⟨A7, k7, hv7, hR7⟩ := ho6.rd encVote_len; subst hv7)
              | ((with_reducible refine step_append1 (w := Zbv) (by with_unfolding_all rfl) (by with_unfolding_all rfl) hunV infoV (by with_unfolding_all rfl) (by decide) encVote_len encVote_one (by with_unfolding_all rfl) hoZbv (c := 1) (by with_unfolding_all rfl) (y := x) hxZbv (by with_unfolding_all rfl) hb1 hl1 hKZbv.size ?_); intro v6 w6 ho6 hg6 hat6; have hK6 := below_step hKZbv hKZbv.size hg6 hO5; have hne6 := ne_next hat6 hneZbv (lt_of_block hvZbv); have hge := hgeZbv; rw [hq2n.out] at ho6; obtain ⟨A7, k7, hv7, hR7⟩ := ho6.rd encVote_len; subst hv7; have hvb := grown_own hg6 hvZbv hneZbv; obtain ⟨m0, m1, m2, m3⟩ := blk2 hvb; obtain ⟨kk1, kk2⟩ := set2 hvb (.slice A2 l.length k2) (.slice A7 q2.length k7); have hf6 := grown_own kk2 (bl_own hK6 f1) (fun e => (by have := Option.some.inj e; omega)); have hf7 := grown_own kk2 (bl_own hK6 f2) (fun e => (by have := Option.some.inj e; omega)))
              | ((with_reducible refine step_append1 (w := Zvb) (by with_unfolding_all rfl) (by with_unfolding_all rfl) hunV infoV (by with_unfolding_all rfl) (by decide) encVote_len encVote_one (by with_unfolding_all rfl) hoZvb (c := 1) (by with_unfolding_all rfl) (y := x) hxZvb (by with_unfolding_all rfl) hb1 hl1 hKZvb.size ?_); intro v6 w6 ho6 hg6 hat6; have hK6 := below_step hKZvb hKZvb.size hg6 hO5; have hne6 := ne_next hat6 hneZvb (lt_of_block hvZvb); have hge := hgeZvb; rw [hq2n.out] at ho6; obtain ⟨A7, k7, hv7, hR7⟩ := ho6.rd encVote_len; subst hv7; have hvb := grown_own hg6 hvZvb hneZvb; obtain ⟨m0, m1, m2, m3⟩ := blk2 hvb; obtain ⟨kk1, kk2⟩ := set2 hvb (.slice A2 l.length k2) (.slice A7 q2.length k7); have hf6 := grown_own kk2 (bl_own hK6 f1) (fun e => (by have := Option.some.inj e; omega)); have hf7 := grown_own kk2 (bl_own hK6 f2) (fun e => (by have := Option.some.inj e; omega)))
              | ((with_reducible refine step_append1 (w := Zv2) (by with_unfolding_all rfl) (by with_unfolding_all rfl) hunV infoV (by with_unfolding_all rfl) (by decide) encVote_len encVote_one (by with_unfolding_all rfl) hoZv2 (c := 1) (by with_unfolding_all rfl) (y := x) hxZv2 (by with_unfolding_all rfl) hb1 hl1 hKZv2.size ?_); intro v6 w6 ho6 hg6 hat6; have hK6 := below_step hKZv2 hKZv2.size hg6 hO5; have hne6 := ne_next hat6 hneZv2 (lt_of_block hvZv2); have hge := hgeZv2; rw [hq2n.out] at ho6; obtain ⟨A7, k7, hv7, hR7⟩ := ho6.rd encVote_len; subst hv7; have hvb := grown_own hg6 hvZv2 hneZv2; obtain ⟨m0, m1, m2, m3⟩ := blk2 hvb; obtain ⟨kk1, kk2⟩ := set2 hvb (.slice A2 l.length k2) (.slice A7 q2.length k7); have hf6 := grown_own kk2 (bl_own hK6 f1) (fun e => (by have := Option.some.inj e; omega)); have hf7 := grown_own kk2 (bl_own hK6 f2) (fun e => (by have := Option.some.inj e; omega)))
              | ((with_reducible refine step_append1 (w := Zb2) (by with_unfolding_all rfl) (by with_unfolding_all rfl) hunV infoV (by with_unfolding_all rfl) (by decide) encVote_len encVote_one (by with_unfolding_all rfl) hoZb2 (c := 1) (by with_unfolding_all rfl) (y := x) hxZb2 (by with_unfolding_all rfl) hb1 hl1 hKZb2.size ?_); intro v6 w6 ho6 hg6 hat6; have hK6 := below_step hKZb2 hKZb2.size hg6 hO5; have hne6 := ne_next hat6 hne5v (lt_of_block (show Zb2.heap[w4.heap.size]? = _ from hvZb2)); have hge := hge_v; rw [hq2n.out] at ho6; obtain ⟨A7, k7, hv7, hR7⟩ := ho6.rd encVote_len; subst hv7; have hvb := grown_own hg6 (show Zb2.heap[w4.heap.size]? = _ from hvZb2) hne5v; obtain ⟨m0, m1, m2, m3⟩ := blk2 hvb; obtain ⟨kk1, kk2⟩ := set2 hvb (.slice A2 l.length k2) (.slice A7 q2.length k7); have hf6 := grown_own kk2 (bl_own hK6 f1) (fun e => (by have := Option.some.inj e; omega)); have hf7 := grown_own kk2 (bl_own hK6 f2) (fun e => (by have := Option.some.inj e; omega)))
              | ((with_reducible refine step_append1 (w := w5) (by with_unfolding_all rfl) (by with_unfolding_all rfl) hunV infoV (by with_unfolding_all rfl) (by decide) encVote_len encVote_one (by with_unfolding_all rfl) ho5bv (c := 1) (by with_unfolding_all rfl) (y := x) hx5bv (by with_unfolding_all rfl) hb1 hl1 hK5bv.size ?_); intro v6 w6 ho6 hg6 hat6; have hK6 := below_step hK5bv hK5bv.size hg6 hO5; have hne6 := ne_next hat6 hne5bv (lt_of_block hv5bv); have hge := hge_bv; rw [hq2n.out] at ho6; obtain ⟨A7, k7, hv7, hR7⟩ := ho6.rd encVote_len; subst hv7; have hvb := grown_own hg6 hv5bv hne5bv; obtain ⟨m0, m1, m2, m3⟩ := blk2 hvb; obtain ⟨kk1, kk2⟩ := set2 hvb (.slice A2 l.length k2) (.slice A7 q2.length k7); have hf6 := grown_own kk2 (bl_own hK6 f1) (fun e => (by have := Option.some.inj e; omega)); have hf7 := grown_own kk2 (bl_own hK6 f2) (fun e => (by have := Option.some.inj e; omega)))
              | ((with_reducible refine step_append1 (w := w5) (by with_unfolding_all rfl) (by with_unfolding_all rfl) hunV infoV (by with_unfolding_all rfl) (by decide) encVote_len encVote_one (by with_unfolding_all rfl) ho5vb (c := 1) (by with_unfolding_all rfl) (y := x) hx5vb (by with_unfolding_all rfl) hb1 hl1 hK5vb.size ?_); intro v6 w6 ho6 hg6 hat6; have hK6 := below_step hK5vb hK5vb.size hg6 hO5; have hne6 := ne_next hat6 hne5vb (lt_of_block hv5vb); have hge := hge_vb; rw [hq2n.out] at ho6; obtain ⟨A7, k7, hv7, hR7⟩ := ho6.rd encVote_len; subst hv7; have hvb := grown_own hg6 hv5vb hne5vb; obtain ⟨m0, m1, m2, m3⟩ := blk2 hvb; obtain ⟨kk1, kk2⟩ := set2 hvb (.slice A2 l.length k2) (.slice A7 q2.length k7); have hf6 := grown_own kk2 (bl_own hK6 f1) (fun e => (by have := Option.some.inj e; omega)); have hf7 := grown_own kk2 (bl_own hK6 f2) (fun e => (by have := Option.some.inj e; omega)))))
          all_goals go_wp2
          all_goals go_meet
          all_goals first
            | exact ⟨_, A7, k7, rfl, kk1, hR7.grown kk2 (fun a e => (by subst e; exact fun e2 => hne6 e2.symm)), below_step hK6 hK6.size kk2 (fun k e => by cases e; exact hge)⟩
            | exact ⟨_, A7, k7, rfl, ha_at rfl, hR7.below ((Below.refl _ w6).alloc (Nat.le_refl _) _), hK6.alloc hK6.size _⟩
        case rest =>
          obtain ⟨g2, A7, k7, rfl, hv2, hR7, hK7⟩ := hcut
          have hBc := below_call hB4 hB4.size hK7
          replace f0 := bl_own hK7 f0
          replace f1 := bl_own hK7 f1
          replace f2 := bl_own hK7 f2
          replace fh := bl_own hK7 fh
          replace hv1 := bl_own hK7 hv1
          replace hR6 := hR6.below hK7
          clear hB4 hK7
          rename World => w4
          have hB4 := hBc
          clear hBc
          obtain ⟨r0, r1, r2, r3, r4⟩ := blk5 f0
          obtain ⟨r5, r6, r7, r8⟩ := blk4 f2
          obtain ⟨r9, r10, _, _⟩ := blk2 hv1
          obtain ⟨r11, r12, _, _⟩ := blk2 hv2
          obtain ⟨r13, r14, _, _⟩ := blk2 fh
          have yr0 := gr_cell r0
          have yr1 := gr_cell r1
          have yr2 := gr_cell r2
          have yr3 := gr_cell r3
          have yr4 := gr_cell r4
          have yr5 := gr_cell r5
          have yr6 := gr_cell r6
          have yr7 := gr_cell r7
          have yr8 := gr_cell r8
          have yr9 := gr_cell r9
          have yr10 := gr_cell r10
          have yr11 := gr_cell r11
          have yr12 := gr_cell r12
          have yr13 := gr_cell r13
          have yr14 := gr_cell r14
          have hV : ∀ p, Below w.heap.size w (gr w4 p) := fun p => hB4.trans ((gr_below _ _).mono hB4.size)
          have hhq1 := fun p => hhq'.out A6 k6 (gr w4 p) (hV p) (hR6.below (gr_below _ _))
          have hne := neq_idw h h
          rw [decide_eq_true (rfl : h = h)] at hne
          go_wp2_with fail
          refine wp_region_gr (by kernel_rfl) (by kernel_rfl) ?_
          repeat (go_big_quiet_step ((first
            | (go_at_call 21; with_reducible exact Calls.gr_of (hhq1 _)))))
          refine wpQuiet_nil ?_
          rintro _ ⟨pq, rfl⟩
          have hB5 := hV pq
          have hb5 := gr_below w4 pq
          have f0' := bl_own hb5 f0
          have f2' := bl_own hb5 f2
          have hv1' := bl_own hb5 hv1
          have hv2' := bl_own hb5 hv2
          have fh' := bl_own hb5 fh
          have hR7' := hR7.below hb5
          generalize gr w4 pq = w5 at hB5 f0' f2' hv1' hv2' fh' hR7' ⊢
          clear r0 yr0 r1 yr1 r2 yr2 r3 yr3 r4 yr4 r5 yr5 r6 yr6 r7 yr7 r8 yr8 r9 yr9 r10 yr10 r11 yr11 r12 yr12 r13 yr13 r14 yr14 hV hhq1 hne hb5 f0 f1 f2 hv1 hv2 fh hR7 hR6 hB4
          obtain ⟨r0, r1, r2, r3, r4⟩ := blk5 f0'
          obtain ⟨r5, r6, r7, r8⟩ := blk4 f2'
          obtain ⟨r9, r10, _, _⟩ := blk2 hv1'
          obtain ⟨r11, r12, _, _⟩ := blk2 hv2'
          obtain ⟨r13, r14, _, _⟩ := blk2 fh'
          have yr0 := gr_cell r0
          have yr1 := gr_cell r1
          have yr2 := gr_cell r2
          have yr3 := gr_cell r3
          have yr4 := gr_cell r4
          have yr5 := gr_cell r5
          have yr6 := gr_cell r6
          have yr7 := gr_cell r7
          have yr8 := gr_cell r8
          have yr9 := gr_cell r9
          have yr10 := gr_cell r10
          have yr11 := gr_cell r11
          have yr12 := gr_cell r12
          have yr13 := gr_cell r13
          have yr14 := gr_cell r14
          have hV : ∀ p, Below w.heap.size w (gr w5 p) := fun p => hB5.trans ((gr_below _ _).mono hB5.size)
          have hhx1 := fun p => hhx'.out A7 k7 (gr w5 p) (hV p) (hR7'.below (gr_below _ _))
          have hin1 := fun p => hin'.out (gr w5 p) (hV p)
          have heq := eql_idw h h
          rw [decide_eq_true (rfl : h = h)] at heq
          by_cases h1 : x.slot = s
          · have hb1 : (x.slot == s) = true := by simpa using h1
            by_cases h2 : x.frm ∈ comC c s
            · rw [decide_eq_true h2] at hin1
              clear h1 h2 hlaw' hhx1
              go_wp2_with fail
              refine wp_region_gr (by kernel_rfl) (by kernel_rfl) ?_
              repeat (go_big_quiet_step ((first
                | (go_at_call 26; with_reducible exact Calls.gr_of (hin1 _)))))
              refine wpQuiet_nil ?_
              rintro _ ⟨pq, rfl⟩
              go_wp2
              go_ret
              exact ⟨rfl, hV _⟩
            · rw [decide_eq_false h2] at hin1
              obtain rfl : hx = h := hlaw'.out (fun e => h2 e.2)
              clear h1 h2 hlaw'
              go_wp2_with fail
              refine wp_region_gr (by kernel_rfl) (by kernel_rfl) ?_
              repeat (go_big_quiet_step ((first
                | (go_at_call 26; with_reducible exact Calls.gr_of (hin1 _))
                | (go_at_call 21; with_reducible exact Calls.gr_of (hhx1 _)))))
              refine wpQuiet_nil ?_
              rintro _ ⟨pq, rfl⟩
              go_wp2
              go_ret
              exact ⟨rfl, hV _⟩
          · have hb1 : (x.slot == s) = false := by simpa using h1
            obtain rfl : hx = h := hlaw'.out (fun e => h1 e.1)
            clear h1 hlaw' hin1
            go_wp2_with fail
            refine wp_region_gr (by kernel_rfl) (by kernel_rfl) ?_
            repeat (go_big_quiet_step ((first
              | (go_at_call 21; with_reducible exact Calls.gr_of (hhx1 _)))))
            refine wpQuiet_nil ?_
            rintro _ ⟨pq, rfl⟩
            go_wp2
            go_ret
            exact ⟨rfl, hV _⟩
    · have hcase : at_ < 0 ∨ (0 ≤ at_ ∧ (vs.length : Int) < at_) := by omega
      clear hgd
      unfold cfgv votev at *
      try unfold idv at *
      have hW : ∃ W, ((w.alloc (.cells #[.slice A c.W.length k, .int .u64 c.seed, .int .i64 c.epoch, .int .i64 c.num, .int .i64 c.den] 25)).alloc (.cells #[.slice A2 l.length k2, .slice A3 vs.length k3] 29)).alloc (.cells #[.int .i64 x.frm, .int .i64 x.slot, .int .u64 x.head.hi, .int .u64 x.head.lo] 42) = W := ⟨_, rfl⟩
      obtain ⟨W, hW⟩ := hW
      have hB : Below w.heap.size w W := by subst hW; exact (((Below.refl _ w).alloc (Nat.le_refl _) _).alloc (by simp <;> omega) _).alloc (by simp <;> omega) _
      have b0 : W.heap[w.heap.size]? = some (.cells #[.slice A c.W.length k, .int .u64 c.seed, .int .i64 c.epoch, .int .i64 c.num, .int .i64 c.den] 25 (0, 0)) := by subst hW; exact ha_lt (ha_lt (ha_at rfl))
      have b1 : W.heap[w.heap.size + 1]? = some (.cells #[.slice A2 l.length k2, .slice A3 vs.length k3] 29 (0, 0)) := by subst hW; exact ha_lt (ha_at (by simp))
      have b2 : W.heap[w.heap.size + 1 + 1]? = some (.cells #[.int .i64 x.frm, .int .i64 x.slot, .int .u64 x.head.hi, .int .u64 x.head.lo] 42 (0, 0)) := by subst hW; exact ha_at (by simp)
      rcases hcase with h1 | ⟨h1, h2⟩
      · have e2 : at_ < 0 := h1
        go_enter Tryz.func5, Tryz.ntmps5
        go_wp2_with (first
          | (go_at_call 16; (with_reducible refine (haw _).mono ?_); clear haw; rintro e w1 ⟨rfl, hb1⟩; have hB1 := below_call hB hB.size hb1; have a0 := bl_own hb1 b0; have a1 := bl_own hb1 b1; have a2 := bl_own hb1 b2; obtain ⟨p0, p1, p2, p3, p4⟩ := blk5 a0; obtain ⟨p5, p6, _, _⟩ := blk2 a1; obtain ⟨p7, p8, p9, p10⟩ := blk4 a2)
          | (go_at_call 17; (with_reducible refine (hfew _).mono ?_); clear hfew; rintro e w2 ⟨rfl, hb2⟩; have hB2 := below_call hB1 hB1.size hb2; have d0 := bl_own hb2 a0; have d1 := bl_own hb2 a1; have d2 := bl_own hb2 a2; obtain ⟨q0, q1, q2, q3, q4⟩ := blk5 d0; obtain ⟨q5, q6, _, _⟩ := blk2 d1; obtain ⟨q7, q8, q9, q10⟩ := blk4 d2))
        go_ret
        exact ⟨rfl, hB2⟩
      · have e2 : ¬ (at_ < 0) := by omega
        go_enter Tryz.func5, Tryz.ntmps5
        go_wp2_with (first
          | (go_at_call 16; (with_reducible refine (haw _).mono ?_); clear haw; rintro e w1 ⟨rfl, hb1⟩; have hB1 := below_call hB hB.size hb1; have a0 := bl_own hb1 b0; have a1 := bl_own hb1 b1; have a2 := bl_own hb1 b2; obtain ⟨p0, p1, p2, p3, p4⟩ := blk5 a0; obtain ⟨p5, p6, _, _⟩ := blk2 a1; obtain ⟨p7, p8, p9, p10⟩ := blk4 a2)
          | (go_at_call 17; (with_reducible refine (hfew _).mono ?_); clear hfew; rintro e w2 ⟨rfl, hb2⟩; have hB2 := below_call hB1 hB1.size hb2; have d0 := bl_own hb2 a0; have d1 := bl_own hb2 a1; have d2 := bl_own hb2 a2; obtain ⟨q0, q1, q2, q3, q4⟩ := blk5 d0; obtain ⟨q5, q6, _, _⟩ := blk2 d1; obtain ⟨q7, q8, q9, q10⟩ := blk4 d2))
        go_ret
        exact ⟨rfl, hB2⟩
  · rw [decide_eq_false hsm] at hfew
    clear hsm
    unfold cfgv votev at *
    try unfold idv at *
    have hW : ∃ W, ((w.alloc (.cells #[.slice A c.W.length k, .int .u64 c.seed, .int .i64 c.epoch, .int .i64 c.num, .int .i64 c.den] 25)).alloc (.cells #[.slice A2 l.length k2, .slice A3 vs.length k3] 29)).alloc (.cells #[.int .i64 x.frm, .int .i64 x.slot, .int .u64 x.head.hi, .int .u64 x.head.lo] 42) = W := ⟨_, rfl⟩
    obtain ⟨W, hW⟩ := hW
    have hB : Below w.heap.size w W := by subst hW; exact (((Below.refl _ w).alloc (Nat.le_refl _) _).alloc (by simp <;> omega) _).alloc (by simp <;> omega) _
    have b0 : W.heap[w.heap.size]? = some (.cells #[.slice A c.W.length k, .int .u64 c.seed, .int .i64 c.epoch, .int .i64 c.num, .int .i64 c.den] 25 (0, 0)) := by subst hW; exact ha_lt (ha_lt (ha_at rfl))
    have b1 : W.heap[w.heap.size + 1]? = some (.cells #[.slice A2 l.length k2, .slice A3 vs.length k3] 29 (0, 0)) := by subst hW; exact ha_lt (ha_at (by simp))
    have b2 : W.heap[w.heap.size + 1 + 1]? = some (.cells #[.int .i64 x.frm, .int .i64 x.slot, .int .u64 x.head.hi, .int .u64 x.head.lo] 42 (0, 0)) := by subst hW; exact ha_at (by simp)
    go_enter Tryz.func5, Tryz.ntmps5
    go_wp2_with (first
      | (go_at_call 16; (with_reducible refine (haw _).mono ?_); clear haw; rintro e w1 ⟨rfl, hb1⟩; have hB1 := below_call hB hB.size hb1; have a0 := bl_own hb1 b0; have a1 := bl_own hb1 b1; have a2 := bl_own hb1 b2; obtain ⟨p0, p1, p2, p3, p4⟩ := blk5 a0; obtain ⟨p5, p6, _, _⟩ := blk2 a1; obtain ⟨p7, p8, p9, p10⟩ := blk4 a2)
      | (go_at_call 17; (with_reducible refine (hfew _).mono ?_); clear hfew; rintro e w2 ⟨rfl, hb2⟩; have hB2 := below_call hB1 hB1.size hb2; have d0 := bl_own hb2 a0; have d1 := bl_own hb2 a1; have d2 := bl_own hb2 a2; obtain ⟨q0, q1, q2, q3, q4⟩ := blk5 d0; obtain ⟨q5, q6, _, _⟩ := blk2 d1; obtain ⟨q7, q8, q9, q10⟩ := blk4 d2))
    go_ret
    exact ⟨rfl, hB2⟩
theorem slot14_walk (A : Option Addr) (c : Cfg) (k : Nat) (A2 : Option Addr) (l : List Blk) (k2 : Nat) (A3 : Option Addr) (vs : List Vote) (k3 : Nat) (s : Int) (x : Vote) (at_ : Int) (w : World) (_ : c.W.length ≤ k) (_ : k ≤ maxLen) (hr : Rd 1 encI w A c.W) (_ : c.Ok) (_ : l.length ≤ k2) (_ : k2 ≤ maxLen) (hr2 : Rd 5 encBlk w A2 l) (hok : ∀ b ∈ l, b.Ok) (_ : A2 = none → k2 = 0) (hlk : vs.length ≤ k3) (hkm : k3 ≤ maxLen) (hr3 : Rd 4 encVote w A3 vs) (_ : ∀ b ∈ vs, b.Ok) (hN : A3 = none → k3 = 0) (_ : I64 s) (_ : x.Ok) (_ : I64 at_) :
    Calls Tryz.prog 5 #[cfgv A k c, .agg #[.slice A2 l.length k2, .slice A3 vs.length k3], .int .i64 s, votev x, .int .i64 at_] w fun e w' => e = .returned (.bool true) ∧ Below w.heap.size w w' :=
  slot14_any c l vs s x at_ A A2 A3 k k2 k3 w hlk hkm hN hr hr2 hr3
end Go.Proofs.YtaohkcdfjjiggaaGreat
