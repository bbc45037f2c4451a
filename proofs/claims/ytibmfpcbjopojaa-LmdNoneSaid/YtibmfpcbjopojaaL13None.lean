/- LmdNone, walked. -/
import Derived.Test.YtibmfpcbjopojaaGJ
import Derived.Test.YtibmfpcbjopojaaGI
import Derived.Test.YtibmfpcbjopojaaGF
namespace Go.Proofs.Ytibmfpcbjopojaa
open Go.RowKit
set_option linter.unusedVariables false
set_option maxRecDepth 100000 in
set_option maxHeartbeats 8000000 in
theorem none13_any (c : Cfg) (l : List Blk) (u : Int) (bo : ID) (pct : Int) (A A2 : Option Addr) (k k2 : Nat) (w : World) (hr : Rd 1 encI w A c.W) (hr2 : Rd 5 encBlk w A2 l) :
    Calls Try.prog 9 #[cfgv A k c, .slice A2 l.length k2, .int .i64 u, idv bo, .int .i64 pct] w fun e w' => e = .returned (.bool true) ∧ Below w.heap.size w w' := by
  have hm := hr.1
  have hm2 := hr2.1
  have hr3 : ∀ V, Rd 4 encVote V none ([] : List Vote) := fun V => Rd_nil _ _ _ _
  have haw := fun V => awake13_any V
  have hfew := fun V => fewN_any c l.length 0 A A2 none k k2 0 V hm hm2 (by omega)
  by_cases hsm : c.W.length ≤ 40 ∧ l.length ≤ 20 ∧ 0 ≤ 30
  · rw [decide_eq_true hsm] at hfew
    obtain ⟨hsm1, hsm2, _⟩ := hsm
    have hle : lastL [] u = [] := List.eq_nil_of_length_eq_zero (by have := lastL_len [] u; simpa using this)
    have hla := fun V => vlast_any [] u none 0 V (hr3 V) (by simp)
    have hh := fun V (hV : Below w.heap.size w V) => lhead_any c l [] u bo pct A A2 none k k2 0 V (hr.below hV) (hr2.below hV) (hr3 V) (by omega) (by simp)
    have hgh := fun A4 k4 V (hV : Below w.heap.size w V) (h4 : Rd 4 encVote V A4 ([] : List Vote)) => ghead_any c l [] A A2 A4 k k2 k4 V (hr.below hV) (hr2.below hV) h4 (by omega) (by simp)
    have hbo := fun V (hV : Below w.heap.size w V) => boost_any c pct A k V (hr.below hV)
    have hch := fun V (hV : Below w.heap.size w V) => chain_any l bo A2 k2 V (hr2.below hV) (fun m h => tree_ahead h) (by omega)
    have hun := fun V (hV : Below w.heap.size w V) => under_any l bo (lmdHead c l [] bo pct) A2 k2 V (hr2.below hV) (by omega)
    rw [hle] at hla hh
    simp only [List.length_nil] at hla hh hgh
    have hlaw := fun h1 h2 => decide_eq_true (lmd_none c (l := l) (bo := bo) (pct := pct) h1 h2)
    have hlaw0 : boostC c pct = 0 → lmdHead c l [] bo pct = headBy l (onC c l []) := fun h => by unfold lmdHead; rw [lmdW_none c l [] bo h]
    obtain ⟨q, hq⟩ : ∃ q, boostC c pct = q := ⟨_, rfl⟩
    obtain ⟨h, hhe⟩ : ∃ h, lmdHead c l [] bo pct = h := ⟨_, rfl⟩
    obtain ⟨h2, hh2⟩ : ∃ h2, headBy l (onC c l []) = h2 := ⟨_, rfl⟩
    rw [hq] at hbo hlaw hlaw0
    rw [hhe] at hh hun hlaw hlaw0
    rw [hh2] at hgh hlaw0
    obtain ⟨ch, hce⟩ : ∃ ch, chain l bo = ch := ⟨_, rfl⟩
    have hcl := chain_bound (l := l) bo
    rw [hce] at hch hlaw hcl
    obtain ⟨ux, hux⟩ : ∃ ux, decide (bo ∈ chain l h) = ux := ⟨_, rfl⟩
    rw [hux] at hun hlaw
    have hlaw' := Lib.hid hlaw
    have hlaw0' := Lib.hid hlaw0
    clear hq hhe hh2 hce hux hlaw hlaw0 hle
    have heq := eql_idw h h2
    unfold cfgv idv at *
    have hW : ∃ W, (w.alloc (.cells #[.slice A c.W.length k, .int .u64 c.seed, .int .i64 c.epoch, .int .i64 c.num, .int .i64 c.den] 25)).alloc (.cells #[.int .u64 bo.hi, .int .u64 bo.lo] 29) = W := ⟨_, rfl⟩
    obtain ⟨W, hW⟩ := hW
    have hB : Below w.heap.size w W := by subst hW; exact ((Below.refl _ w).alloc (Nat.le_refl _) _).alloc (by simp <;> omega) _
    have b0 : W.heap[w.heap.size]? = some (.cells #[.slice A c.W.length k, .int .u64 c.seed, .int .i64 c.epoch, .int .i64 c.num, .int .i64 c.den] 25 (0, 0)) := by subst hW; exact ha_lt (ha_at rfl)
    have b1 : W.heap[w.heap.size + 1]? = some (.cells #[.int .u64 bo.hi, .int .u64 bo.lo] 29 (0, 0)) := by subst hW; exact ha_at (by simp)
    by_cases hq0 : q = 0
    · have hq1 : (q == 0) = true := by simpa using hq0
      have he := hlaw0'.out hq0
      rw [decide_eq_true he] at heq
      clear hq0 he hun hch
      go_enter Try.func9, Try.ntmps9
      go_wp2_with (first
        | (go_at_call 11; (with_reducible refine (haw _).mono ?_); clear haw; rintro e w1 ⟨rfl, hb1⟩; have hB1 := below_call hB hB.size hb1; have a0 := bl_own hb1 b0; have a1 := bl_own hb1 b1; obtain ⟨p0, p1, p2, p3, p4⟩ := blk5 a0; obtain ⟨p5, p6, _, _⟩ := blk2 a1)
        | (go_at_call 12; (with_reducible refine (hfew _).mono ?_); clear hfew; rintro e w2 ⟨rfl, hb2⟩; have hB2 := below_call hB1 hB1.size hb2; have d0 := bl_own hb2 a0; have d1 := bl_own hb2 a1; obtain ⟨q0, q1, q2, q3, q4⟩ := blk5 d0; obtain ⟨q5, q6, _, _⟩ := blk2 d1)
        | (go_at_call 18; (with_reducible refine (hh _ hB2).mono ?_); clear hh; rintro e w3 ⟨rfl, hb3⟩; have hB3 := below_call hB2 hB2.size hb3; have hl4 : Below w3.heap.size w3 (w3.alloc (.cells #[.int .u64 h.hi, .int .u64 h.lo] 29)) := (Below.refl _ w3).alloc (Nat.le_refl _) _; have hB4 := below_call hB3 hB3.size hl4; have f0 := bl_own hl4 (bl_own hb3 d0); have f1 := bl_own hl4 (bl_own hb3 d1); have fh := ha_at (w := w3) (o := .cells #[.int .u64 h.hi, .int .u64 h.lo] 29) (k := w3.heap.size) rfl; obtain ⟨r0, r1, r2, r3, r4⟩ := blk5 f0; obtain ⟨r5, r6, _, _⟩ := blk2 f1)
        | (go_at_call 15; (with_reducible refine (hbo _ hB4).mono ?_); clear hbo; rintro e w5 ⟨rfl, hb5⟩; have hB5 := below_call hB4 hB4.size hb5; have g0 := bl_own hb5 f0; have g1 := bl_own hb5 f1; have gh := bl_own hb5 fh; obtain ⟨s0, s1, s2, s3, s4⟩ := blk5 g0; obtain ⟨s5, s6, _, _⟩ := blk2 g1; obtain ⟨s7, s8, _, _⟩ := blk2 gh))
      go_region_held3 (fun W' => W'.cell? ⟨w.heap.size, 0, none⟩ = some (.slice A c.W.length k) ∧ W'.cell? ⟨w.heap.size, 1, none⟩ = some (.int .u64 c.seed) ∧ W'.cell? ⟨w.heap.size, 2, none⟩ = some (.int .i64 c.epoch) ∧ W'.cell? ⟨w.heap.size, 3, none⟩ = some (.int .i64 c.num) ∧ W'.cell? ⟨w.heap.size, 4, none⟩ = some (.int .i64 c.den) ∧ W'.cell? ⟨w3.heap.size, 0, none⟩ = some (.int .u64 h.hi) ∧ W'.cell? ⟨w3.heap.size, 1, none⟩ = some (.int .u64 h.lo))
        (first | exact ⟨s0, s1, s2, s3, s4, s7, s8⟩ | exact ⟨t0, t1, t2, t3, t4, t5, t6⟩ | exact ⟨u0, u1, u2, u3, u4, u5, u6⟩) ((first
        | (go_at_call 21; refine (hla _).mono ?_; rintro e w6 ⟨v, rfl, ho, hb6⟩; have hB6 := below_call hB5.drew hB5.size hb6; obtain ⟨A4, k4, hv, hR4⟩ := ho.rd encVote_len; subst hv; have i0 := bl_own hb6 g0; have ih := bl_own hb6 gh; obtain ⟨t0, t1, t2, t3, t4⟩ := blk5 i0; obtain ⟨t5, t6, _, _⟩ := blk2 ih)
        | (go_at_call 24; refine (hgh _ _ _ hB6 hR4).mono ?_; rintro e w7 ⟨rfl, hb7⟩; have hB7 := below_call hB6 hB6.size hb7; obtain ⟨u0, u1, u2, u3, u4⟩ := blk5 (bl_own hb7 i0); obtain ⟨u5, u6, _, _⟩ := blk2 (bl_own hb7 ih))))
      go_wp2
      go_ret
      exact ⟨rfl, hB7⟩
    · have hq1 : (q == 0) = false := by simpa using hq0
      cases hc : ch with
      | nil =>
        rw [hc] at hch
        clear hq0 hun hla hgh heq hc
        go_enter Try.func9, Try.ntmps9
        go_wp2_with (first
          | (go_at_call 11; (with_reducible refine (haw _).mono ?_); clear haw; rintro e w1 ⟨rfl, hb1⟩; have hB1 := below_call hB hB.size hb1; have a0 := bl_own hb1 b0; have a1 := bl_own hb1 b1; obtain ⟨p0, p1, p2, p3, p4⟩ := blk5 a0; obtain ⟨p5, p6, _, _⟩ := blk2 a1)
          | (go_at_call 12; (with_reducible refine (hfew _).mono ?_); clear hfew; rintro e w2 ⟨rfl, hb2⟩; have hB2 := below_call hB1 hB1.size hb2; have d0 := bl_own hb2 a0; have d1 := bl_own hb2 a1; obtain ⟨q0, q1, q2, q3, q4⟩ := blk5 d0; obtain ⟨q5, q6, _, _⟩ := blk2 d1)
          | (go_at_call 18; (with_reducible refine (hh _ hB2).mono ?_); clear hh; rintro e w3 ⟨rfl, hb3⟩; have hB3 := below_call hB2 hB2.size hb3; have hl4 : Below w3.heap.size w3 (w3.alloc (.cells #[.int .u64 h.hi, .int .u64 h.lo] 29)) := (Below.refl _ w3).alloc (Nat.le_refl _) _; have hB4 := below_call hB3 hB3.size hl4; have f0 := bl_own hl4 (bl_own hb3 d0); have f1 := bl_own hl4 (bl_own hb3 d1); have fh := ha_at (w := w3) (o := .cells #[.int .u64 h.hi, .int .u64 h.lo] 29) (k := w3.heap.size) rfl; obtain ⟨r0, r1, r2, r3, r4⟩ := blk5 f0; obtain ⟨r5, r6, _, _⟩ := blk2 f1)
          | (go_at_call 15; (with_reducible refine (hbo _ hB4).mono ?_); clear hbo; rintro e w5 ⟨rfl, hb5⟩; have hB5 := below_call hB4 hB4.size hb5; have g0 := bl_own hb5 f0; have g1 := bl_own hb5 f1; have gh := bl_own hb5 fh; obtain ⟨s0, s1, s2, s3, s4⟩ := blk5 g0; obtain ⟨s5, s6, _, _⟩ := blk2 g1; obtain ⟨s7, s8, _, _⟩ := blk2 gh)
          | (go_at_call 25; (with_reducible refine (hch _ hB5).mono ?_); clear hch; rintro e w6 ⟨v, rfl, ho, hb6⟩; have hB6 := below_call hB5 hB5.size hb6; obtain ⟨A5, k5, hv, hR5⟩ := ho.rd encID_len; subst hv; obtain ⟨t0, t1, _, _⟩ := blk2 (bl_own hb6 g1); obtain ⟨t2, t3, _, _⟩ := blk2 (bl_own hb6 gh)))
        go_ret
        exact ⟨rfl, hB6⟩
      | cons y ys =>
        have hux := hlaw'.out hq0 (by rw [hc]; simp)
        subst hux
        rw [hc] at hch hcl
        simp only [List.length_cons] at hcl
        have hlz : (((ys.length : Int) + 1) == 0) = false := by simp; omega
        clear hq0 hla hgh heq hc hlaw' hlaw0'
        go_enter Try.func9, Try.ntmps9
        go_wp2_with (first
          | (go_at_call 11; (with_reducible refine (haw _).mono ?_); clear haw; rintro e w1 ⟨rfl, hb1⟩; have hB1 := below_call hB hB.size hb1; have a0 := bl_own hb1 b0; have a1 := bl_own hb1 b1; obtain ⟨p0, p1, p2, p3, p4⟩ := blk5 a0; obtain ⟨p5, p6, _, _⟩ := blk2 a1)
          | (go_at_call 12; (with_reducible refine (hfew _).mono ?_); clear hfew; rintro e w2 ⟨rfl, hb2⟩; have hB2 := below_call hB1 hB1.size hb2; have d0 := bl_own hb2 a0; have d1 := bl_own hb2 a1; obtain ⟨q0, q1, q2, q3, q4⟩ := blk5 d0; obtain ⟨q5, q6, _, _⟩ := blk2 d1)
          | (go_at_call 18; (with_reducible refine (hh _ hB2).mono ?_); clear hh; rintro e w3 ⟨rfl, hb3⟩; have hB3 := below_call hB2 hB2.size hb3; have hl4 : Below w3.heap.size w3 (w3.alloc (.cells #[.int .u64 h.hi, .int .u64 h.lo] 29)) := (Below.refl _ w3).alloc (Nat.le_refl _) _; have hB4 := below_call hB3 hB3.size hl4; have f0 := bl_own hl4 (bl_own hb3 d0); have f1 := bl_own hl4 (bl_own hb3 d1); have fh := ha_at (w := w3) (o := .cells #[.int .u64 h.hi, .int .u64 h.lo] 29) (k := w3.heap.size) rfl; obtain ⟨r0, r1, r2, r3, r4⟩ := blk5 f0; obtain ⟨r5, r6, _, _⟩ := blk2 f1)
          | (go_at_call 15; (with_reducible refine (hbo _ hB4).mono ?_); clear hbo; rintro e w5 ⟨rfl, hb5⟩; have hB5 := below_call hB4 hB4.size hb5; have g0 := bl_own hb5 f0; have g1 := bl_own hb5 f1; have gh := bl_own hb5 fh; obtain ⟨s0, s1, s2, s3, s4⟩ := blk5 g0; obtain ⟨s5, s6, _, _⟩ := blk2 g1; obtain ⟨s7, s8, _, _⟩ := blk2 gh)
          | (go_at_call 25; (with_reducible refine (hch _ hB5).mono ?_); clear hch; rintro e w6 ⟨v, rfl, ho, hb6⟩; have hB6 := below_call hB5 hB5.size hb6; obtain ⟨A5, k5, hv, hR5⟩ := ho.rd encID_len; subst hv; obtain ⟨t0, t1, _, _⟩ := blk2 (bl_own hb6 g1); obtain ⟨t2, t3, _, _⟩ := blk2 (bl_own hb6 gh))
          | (go_at_call 20; (with_reducible refine (hun _ hB6).mono ?_); clear hun; rintro e w7 ⟨rfl, hb7⟩; have hB7 := below_call hB6 hB6.size hb7))
        go_ret
        exact ⟨rfl, hB7⟩
  · rw [decide_eq_false hsm] at hfew
    clear hsm
    unfold cfgv idv at *
    have hW : ∃ W, (w.alloc (.cells #[.slice A c.W.length k, .int .u64 c.seed, .int .i64 c.epoch, .int .i64 c.num, .int .i64 c.den] 25)).alloc (.cells #[.int .u64 bo.hi, .int .u64 bo.lo] 29) = W := ⟨_, rfl⟩
    obtain ⟨W, hW⟩ := hW
    have hB : Below w.heap.size w W := by subst hW; exact ((Below.refl _ w).alloc (Nat.le_refl _) _).alloc (by simp <;> omega) _
    have b0 : W.heap[w.heap.size]? = some (.cells #[.slice A c.W.length k, .int .u64 c.seed, .int .i64 c.epoch, .int .i64 c.num, .int .i64 c.den] 25 (0, 0)) := by subst hW; exact ha_lt (ha_at rfl)
    have b1 : W.heap[w.heap.size + 1]? = some (.cells #[.int .u64 bo.hi, .int .u64 bo.lo] 29 (0, 0)) := by subst hW; exact ha_at (by simp)
    go_enter Try.func9, Try.ntmps9
    go_wp2_with (first
      | (go_at_call 11; (with_reducible refine (haw _).mono ?_); clear haw; rintro e w1 ⟨rfl, hb1⟩; have hB1 := below_call hB hB.size hb1; have a0 := bl_own hb1 b0; have a1 := bl_own hb1 b1; obtain ⟨p0, p1, p2, p3, p4⟩ := blk5 a0; obtain ⟨p5, p6, _, _⟩ := blk2 a1)
      | (go_at_call 12; (with_reducible refine (hfew _).mono ?_); clear hfew; rintro e w2 ⟨rfl, hb2⟩; have hB2 := below_call hB1 hB1.size hb2; have d0 := bl_own hb2 a0; have d1 := bl_own hb2 a1; obtain ⟨q0, q1, q2, q3, q4⟩ := blk5 d0; obtain ⟨q5, q6, _, _⟩ := blk2 d1))
    go_ret
    exact ⟨rfl, hB2⟩
theorem none13_walk (A : Option Addr) (c : Cfg) (k : Nat) (A2 : Option Addr) (l : List Blk) (k2 : Nat) (u : Int) (bo : ID) (pct : Int) (w : World) (_ : c.W.length ≤ k) (_ : k ≤ maxLen) (hr : Rd 1 encI w A c.W) (_ : c.Ok) (_ : l.length ≤ k2) (_ : k2 ≤ maxLen) (hr2 : Rd 5 encBlk w A2 l) (hok : ∀ b ∈ l, b.Ok) (_ : I64 u) (_ : bo.Ok) (_ : I64 pct) :
    Calls Try.prog 9 #[cfgv A k c, .slice A2 l.length k2, .int .i64 u, idv bo, .int .i64 pct] w fun e w' => e = .returned (.bool true) ∧ Below w.heap.size w w' :=
  none13_any c l u bo pct A A2 k k2 w hr hr2
end Go.Proofs.Ytibmfpcbjopojaa
