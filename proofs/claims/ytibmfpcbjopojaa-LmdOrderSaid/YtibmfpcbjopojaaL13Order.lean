/- LmdOrder, walked. -/
import Derived.Test.YtibmfpcbjopojaaGJ
import Derived.Test.YtibmfpcbjopojaaGI
import Derived.Test.YtibmfpcbjopojaaApart
import Derived.Test.YtibmfpcbjopojaaGA
namespace Go.Proofs.Ytibmfpcbjopojaa
open Go.RowKit
set_option linter.unusedVariables false
/-- Votes in another order, some twice, and a later one, have the same last ones. -/
theorem last_later {q vs : List Vote} {x : Vote} {u : Int} (h : ∀ y, y ∈ q ↔ y ∈ vs) (hx : u < x.slot) : lastL (q ++ [x]) u = lastL vs u := by
  rw [← lastL_upto (q ++ [x]) u, ← lastL_upto vs u]
  refine lastL_congr (fun y => ?_) u
  rw [mem_uptoS, mem_uptoS, List.mem_append, List.mem_singleton, h y]
  constructor
  · rintro ⟨h1 | h1, h2⟩
    · exact ⟨h1, h2⟩
    · rw [h1] at h2; omega
  · rintro ⟨h1, h2⟩; exact ⟨.inl h1, h2⟩
set_option maxRecDepth 100000 in
set_option maxHeartbeats 8000000 in
theorem order13_any (c : Cfg) (l : List Blk) (vs : List Vote) (u : Int) (bo : ID) (pct at_ : Int) (A A2 A3 : Option Addr) (k k2 k3 : Nat) (w : World) (huI : I64 u) (hlk : vs.length ≤ k3) (hkm : k3 ≤ maxLen) (hN : A3 = none → k3 = 0) (hr : Rd 1 encI w A c.W) (hr2 : Rd 5 encBlk w A2 l) (hr3 : Rd 4 encVote w A3 vs) :
    Calls Try.prog 4 #[cfgv A k c, .slice A2 l.length k2, .slice A3 vs.length k3, .int .i64 u, idv bo, .int .i64 pct, .int .i64 at_] w fun e w' => e = .returned (.bool true) ∧ Below w.heap.size w w' := by
  have hm := hr.1
  have hm2 := hr2.1
  have hm3 := hr3.1
  have hunV := Try.underlying27
  obtain ⟨huI1, huI2⟩ := huI
  have hkm' : k3 ≤ 9223372036854775807 := by unfold maxLen at hkm; omega
  have haw := fun V => awake13_any V
  have hfew := fun V => fewN_any c l.length vs.length A A2 A3 k k2 k3 V hm hm2 hm3
  by_cases hsm : c.W.length ≤ 40 ∧ l.length ≤ 20 ∧ vs.length ≤ 30
  · rw [decide_eq_true hsm] at hfew
    obtain ⟨hsm1, hsm2, hsm3⟩ := hsm
    by_cases hgd : vs.length ≤ 15 ∧ 0 ≤ at_ ∧ at_ ≤ vs.length ∧ u ≤ 1099511627776
    · obtain ⟨h1, h2, h3, h4⟩ := hgd
      obtain ⟨n, rfl⟩ := Int.eq_ofNat_of_zero_le h2
      have hn : n ≤ vs.length := by omega
      have e1 : ¬ (15 < (vs.length : Int)) := by omega
      have e2 : ¬ ((n : Int) < 0) := by omega
      have e3 : ¬ ((vs.length : Int) < (n : Int)) := by omega
      have e4 : ¬ (1099511627776 < u) := by omega
      have hmem : ∀ x, x ∈ vs ↔ x ∈ vs.drop n ++ vs := fun x => by
        rw [List.mem_append]
        exact ⟨.inr, fun h => h.elim List.mem_of_mem_drop id⟩
      obtain ⟨q, hq⟩ : ∃ q, vs.drop n ++ vs = q := ⟨_, rfl⟩
      rw [hq] at hmem
      have hql : q.length ≤ 100 := by rw [← hq]; simp; omega
      have hlast : lastL (q ++ [⟨0, u + 1, bo⟩]) u = lastL vs u := last_later (fun x => (hmem x).symm) (by show u < u + 1; omega)
      have hhw := fun A9 k9 V (hV : Below w.heap.size w V) (h9 : Rd 4 encVote V A9 (q ++ [⟨0, u + 1, bo⟩])) => lhead_any c l (q ++ [⟨0, u + 1, bo⟩]) u bo pct A A2 A9 k k2 k9 V (hr.below hV) (hr2.below hV) h9 (by omega) (by simp; omega)
      have hh := fun V (hV : Below w.heap.size w V) => lhead_any c l vs u bo pct A A2 A3 k k2 k3 V (hr.below hV) (hr2.below hV) (hr3.below hV) (by omega) (by omega)
      have hlen9 : (q ++ [(⟨0, u + 1, bo⟩ : Vote)]).length = q.length + 1 := by simp
      rw [hlast] at hhw
      rw [hlen9] at hhw
      obtain ⟨h, hhe⟩ : ∃ h, lmdHead c l (lastL vs u) bo pct = h := ⟨_, rfl⟩
      rw [hhe] at hhw hh
      have heq := eql_idw h h
      rw [decide_eq_true (rfl : h = h)] at heq
      have hq' := Lib.hid hq
      unfold cfgv idv at *
      have hhw' := Lib.hid hhw
      have hh' := Lib.hid hh
      clear hhe hlast hmem hq hhw hh h2 h3
      have hW : ∃ W, (w.alloc (.cells #[.slice A c.W.length k, .int .u64 c.seed, .int .i64 c.epoch, .int .i64 c.num, .int .i64 c.den] 25)).alloc (.cells #[.int .u64 bo.hi, .int .u64 bo.lo] 29) = W := ⟨_, rfl⟩
      obtain ⟨W, hW⟩ := hW
      have hB : Below w.heap.size w W := by subst hW; exact ((Below.refl _ w).alloc (Nat.le_refl _) _).alloc (by simp <;> omega) _
      have b0 : W.heap[w.heap.size]? = some (.cells #[.slice A c.W.length k, .int .u64 c.seed, .int .i64 c.epoch, .int .i64 c.num, .int .i64 c.den] 25 (0, 0)) := by subst hW; exact ha_lt (ha_at rfl)
      have b1 : W.heap[w.heap.size + 1]? = some (.cells #[.int .u64 bo.hi, .int .u64 bo.lo] 29 (0, 0)) := by subst hW; exact ha_at (by simp)
      by_cases hl : vs = []
      · subst hl
        obtain rfl : n = 0 := by simpa using hn
        have hnil : ([] : List Vote).length = 0 := rfl
        have hqn := Lib.hid (show ([] : List Vote) = q by rw [← hq'.out]; rfl)
        have t1 := hh'.out
        simp only [List.length_nil] at t1 hfew
        clear hh'
        have hh' := Lib.hid t1
        clear hq' t1
        cases A3 with
        | none =>
          obtain rfl := hN rfl
          go_enter Try.func4, Try.ntmps4
          go_wp2_with (first
            | (go_at_call 11; (with_reducible refine (haw _).mono ?_); clear haw; rintro e w1 ⟨rfl, hb1⟩; have hB1 := below_call hB hB.size hb1; have a0 := bl_own hb1 b0; have a1 := bl_own hb1 b1; obtain ⟨p0, p1, p2, p3, p4⟩ := blk5 a0; obtain ⟨p5, p6, _, _⟩ := blk2 a1)
            | (go_at_call 12; (with_reducible refine (hfew _).mono ?_); clear hfew; rintro e w2 ⟨rfl, hb2⟩; have hB2 := below_call hB1 hB1.size hb2; have d0 := bl_own hb2 a0; have d1 := bl_own hb2 a1; obtain ⟨q0, q1, q2, q3, q4⟩ := blk5 d0; obtain ⟨q5, q6, _, _⟩ := blk2 d1; have hr1 := hr3.below hB2)
            | (at_builtin; (refine wp_append_all rfl rfl hunV infoV rfl (by decide) encVote_len encVote_one rfl (Own.nil w2 w2.heap.size _ _ _) (A := none) (c := 0) (ys := ([] : List Vote)) rfl (fun e => by first | rfl | cases e) (Rd_nil _ _ _ _) (by first | omega | (simp; done) | (simp; omega)) (by unfold maxLen; first | omega | (simp; done) | (simp; omega)) (Nat.le_refl _) ?_; intro v5 w5 ho5 hg5 hat5; rw [List.nil_append] at ho5; have hb5 := below_step (Below.refl w2.heap.size w2) (Nat.le_refl _) hg5 (fun _ e => by cases e); obtain ⟨A5, c5, hv5, hR5, hN5⟩ := ho5.src encVote_len; subst hv5; have hr5 := hr1.below hb5))
            | (at_builtin; (refine wp_append_all rfl rfl hunV infoV rfl (by decide) encVote_len encVote_one rfl ho5 (A := none) (c := 0) (ys := ([] : List Vote)) rfl (fun e => by first | rfl | cases e) hr5 (by first | omega | (simp; done) | (simp; omega)) (by unfold maxLen; first | omega | (simp; done) | (simp; omega)) hb5.size ?_; intro v6 w6 ho6 hg6 hat6; have hb6 := below_step hb5 hb5.size hg6 (fun k e => (ho5.base k e).1); have hq6 : Own w6 w2.heap.size 37 4 encVote v6 q := (by rw [← hqn.out]; exact ho6); have f1 := bl_own hb6 d1; obtain ⟨r5, r6, _, _⟩ := blk2 f1; have hl7 : Below w6.heap.size w6 (w6.alloc (.cells #[.int .i64 0, .int .i64 (u + 1), .int .u64 bo.hi, .int .u64 bo.lo] 37)) := (Below.refl _ w6).alloc (Nat.le_refl _) _; have hb7 := below_call hb6 hb6.size hl7))
            | (at_builtin; (refine wp_append1 rfl rfl hunV infoV rfl (by decide) encVote_len encVote_one rfl (hq6.below hl7) (g := w6.heap.size) (c := 1) rfl (y := ⟨0, u + 1, bo⟩) (ha_at rfl) rfl (by omega) (by unfold maxLen; omega) hb7.size ?_; intro v8 w8 ho8 hg8 hat8; have hb8 := below_step hb7 hb7.size hg8 (fun k e => (hq6.base k e).1))))
          obtain ⟨A9, k9, hv9, hR9⟩ := ho8.rd encVote_len
          rw [hlen9] at hv9
          subst hv9
          have g0 := bl_own hb8 d0
          have g1 := bl_own hb8 d1
          have hB8 := below_call hB2 hB2.size hb8
          obtain ⟨s0, s1, s2, s3, s4⟩ := blk5 g0
          obtain ⟨s5, s6, _, _⟩ := blk2 g1
          have hV : ∀ p, Below w.heap.size w (gr w8 p) := fun p => hB8.trans ((gr_below _ _).mono hB8.size)
          have hhw1 := fun p => hhw'.out A9 k9 (gr w8 p) (hV p) (hR9.below (gr_below _ _))
          have hh1 := hh'.out
          have ys0 := gr_cell s0
          have ys1 := gr_cell s1
          have ys2 := gr_cell s2
          have ys3 := gr_cell s3
          have ys4 := gr_cell s4
          have ys5 := gr_cell s5
          have ys6 := gr_cell s6
          go_wp2_with fail
          refine wp_region_gr (by kernel_rfl) (by kernel_rfl) ?_
          repeat (go_big_quiet_step ((first
            | (go_at_call 18; with_reducible exact Calls.gr_of (hhw1 _))
            | (go_at_call 18; with_reducible exact Calls.gr_of (hh1 _ (hV _))))))
          refine wpQuiet_nil ?_
          rintro _ ⟨pq, rfl⟩
          go_wp2
          go_ret
          exact ⟨rfl, hV _⟩
        | some ad =>
          by_cases hk : k3 = 0
          · subst hk
            go_enter Try.func4, Try.ntmps4
            go_wp2_with (first
              | (go_at_call 11; (with_reducible refine (haw _).mono ?_); clear haw; rintro e w1 ⟨rfl, hb1⟩; have hB1 := below_call hB hB.size hb1; have a0 := bl_own hb1 b0; have a1 := bl_own hb1 b1; obtain ⟨p0, p1, p2, p3, p4⟩ := blk5 a0; obtain ⟨p5, p6, _, _⟩ := blk2 a1)
              | (go_at_call 12; (with_reducible refine (hfew _).mono ?_); clear hfew; rintro e w2 ⟨rfl, hb2⟩; have hB2 := below_call hB1 hB1.size hb2; have d0 := bl_own hb2 a0; have d1 := bl_own hb2 a1; obtain ⟨q0, q1, q2, q3, q4⟩ := blk5 d0; obtain ⟨q5, q6, _, _⟩ := blk2 d1; have hr1 := hr3.below hB2)
              | (at_builtin; (refine wp_append_all rfl rfl hunV infoV rfl (by decide) encVote_len encVote_one rfl (Own.nil w2 w2.heap.size _ _ _) (A := _) (c := _) (ys := ([] : List Vote)) rfl (fun e => by first | rfl | cases e) (Rd_nil _ _ _ _) (by first | omega | (simp; done) | (simp; omega)) (by unfold maxLen; first | omega | (simp; done) | (simp; omega)) (Nat.le_refl _) ?_; intro v5 w5 ho5 hg5 hat5; rw [List.nil_append] at ho5; have hb5 := below_step (Below.refl w2.heap.size w2) (Nat.le_refl _) hg5 (fun _ e => by cases e); obtain ⟨A5, c5, hv5, hR5, hN5⟩ := ho5.src encVote_len; subst hv5; have hr5 := hr1.below hb5))
              | (at_builtin; (refine wp_append_all rfl rfl hunV infoV rfl (by decide) encVote_len encVote_one rfl ho5 (A := (some ad)) (c := 0) (ys := ([] : List Vote)) rfl (fun e => by first | rfl | cases e) hr5 (by first | omega | (simp; done) | (simp; omega)) (by unfold maxLen; first | omega | (simp; done) | (simp; omega)) hb5.size ?_; intro v6 w6 ho6 hg6 hat6; have hb6 := below_step hb5 hb5.size hg6 (fun k e => (ho5.base k e).1); have hq6 : Own w6 w2.heap.size 37 4 encVote v6 q := (by rw [← hqn.out]; exact ho6); have f1 := bl_own hb6 d1; obtain ⟨r5, r6, _, _⟩ := blk2 f1; have hl7 : Below w6.heap.size w6 (w6.alloc (.cells #[.int .i64 0, .int .i64 (u + 1), .int .u64 bo.hi, .int .u64 bo.lo] 37)) := (Below.refl _ w6).alloc (Nat.le_refl _) _; have hb7 := below_call hb6 hb6.size hl7))
              | (at_builtin; (refine wp_append1 rfl rfl hunV infoV rfl (by decide) encVote_len encVote_one rfl (hq6.below hl7) (g := w6.heap.size) (c := 1) rfl (y := ⟨0, u + 1, bo⟩) (ha_at rfl) rfl (by omega) (by unfold maxLen; omega) hb7.size ?_; intro v8 w8 ho8 hg8 hat8; have hb8 := below_step hb7 hb7.size hg8 (fun k e => (hq6.base k e).1))))
            obtain ⟨A9, k9, hv9, hR9⟩ := ho8.rd encVote_len
            rw [hlen9] at hv9
            subst hv9
            have g0 := bl_own hb8 d0
            have g1 := bl_own hb8 d1
            have hB8 := below_call hB2 hB2.size hb8
            obtain ⟨s0, s1, s2, s3, s4⟩ := blk5 g0
            obtain ⟨s5, s6, _, _⟩ := blk2 g1
            have hV : ∀ p, Below w.heap.size w (gr w8 p) := fun p => hB8.trans ((gr_below _ _).mono hB8.size)
            have hhw1 := fun p => hhw'.out A9 k9 (gr w8 p) (hV p) (hR9.below (gr_below _ _))
            have hh1 := hh'.out
            have ys0 := gr_cell s0
            have ys1 := gr_cell s1
            have ys2 := gr_cell s2
            have ys3 := gr_cell s3
            have ys4 := gr_cell s4
            have ys5 := gr_cell s5
            have ys6 := gr_cell s6
            go_wp2_with fail
            refine wp_region_gr (by kernel_rfl) (by kernel_rfl) ?_
            repeat (go_big_quiet_step ((first
              | (go_at_call 18; with_reducible exact Calls.gr_of (hhw1 _))
              | (go_at_call 18; with_reducible exact Calls.gr_of (hh1 _ (hV _))))))
            refine wpQuiet_nil ?_
            rintro _ ⟨pq, rfl⟩
            go_wp2
            go_ret
            exact ⟨rfl, hV _⟩
          · have hi1 : (0 : Int) ≤ (k3 : Int) := by omega
            go_enter Try.func4, Try.ntmps4
            go_wp2_with (first
              | (go_at_call 11; (with_reducible refine (haw _).mono ?_); clear haw; rintro e w1 ⟨rfl, hb1⟩; have hB1 := below_call hB hB.size hb1; have a0 := bl_own hb1 b0; have a1 := bl_own hb1 b1; obtain ⟨p0, p1, p2, p3, p4⟩ := blk5 a0; obtain ⟨p5, p6, _, _⟩ := blk2 a1)
              | (go_at_call 12; (with_reducible refine (hfew _).mono ?_); clear hfew; rintro e w2 ⟨rfl, hb2⟩; have hB2 := below_call hB1 hB1.size hb2; have d0 := bl_own hb2 a0; have d1 := bl_own hb2 a1; obtain ⟨q0, q1, q2, q3, q4⟩ := blk5 d0; obtain ⟨q5, q6, _, _⟩ := blk2 d1; have hr1 := hr3.below hB2)
              | (at_builtin; (refine wp_append_all rfl rfl hunV infoV rfl (by decide) encVote_len encVote_one rfl (Own.nil w2 w2.heap.size _ _ _) (A := _) (c := _) (ys := ([] : List Vote)) rfl (fun e => by first | rfl | cases e) (Rd_nil _ _ _ _) (by first | omega | (simp; done) | (simp; omega)) (by unfold maxLen; first | omega | (simp; done) | (simp; omega)) (Nat.le_refl _) ?_; intro v5 w5 ho5 hg5 hat5; rw [List.nil_append] at ho5; have hb5 := below_step (Below.refl w2.heap.size w2) (Nat.le_refl _) hg5 (fun _ e => by cases e); obtain ⟨A5, c5, hv5, hR5, hN5⟩ := ho5.src encVote_len; subst hv5; have hr5 := hr1.below hb5))
              | (at_builtin; (refine wp_append_all rfl rfl hunV infoV rfl (by decide) encVote_len encVote_one rfl ho5 (A := (some ad)) (c := k3) (ys := ([] : List Vote)) rfl (fun e => by first | rfl | cases e) hr5 (by first | omega | (simp; done) | (simp; omega)) (by unfold maxLen; first | omega | (simp; done) | (simp; omega)) hb5.size ?_; intro v6 w6 ho6 hg6 hat6; have hb6 := below_step hb5 hb5.size hg6 (fun k e => (ho5.base k e).1); have hq6 : Own w6 w2.heap.size 37 4 encVote v6 q := (by rw [← hqn.out]; exact ho6); have f1 := bl_own hb6 d1; obtain ⟨r5, r6, _, _⟩ := blk2 f1; have hl7 : Below w6.heap.size w6 (w6.alloc (.cells #[.int .i64 0, .int .i64 (u + 1), .int .u64 bo.hi, .int .u64 bo.lo] 37)) := (Below.refl _ w6).alloc (Nat.le_refl _) _; have hb7 := below_call hb6 hb6.size hl7))
              | (at_builtin; (refine wp_append1 rfl rfl hunV infoV rfl (by decide) encVote_len encVote_one rfl (hq6.below hl7) (g := w6.heap.size) (c := 1) rfl (y := ⟨0, u + 1, bo⟩) (ha_at rfl) rfl (by omega) (by unfold maxLen; omega) hb7.size ?_; intro v8 w8 ho8 hg8 hat8; have hb8 := below_step hb7 hb7.size hg8 (fun k e => (hq6.base k e).1))))
            obtain ⟨A9, k9, hv9, hR9⟩ := ho8.rd encVote_len
            rw [hlen9] at hv9
            subst hv9
            have g0 := bl_own hb8 d0
            have g1 := bl_own hb8 d1
            have hB8 := below_call hB2 hB2.size hb8
            obtain ⟨s0, s1, s2, s3, s4⟩ := blk5 g0
            obtain ⟨s5, s6, _, _⟩ := blk2 g1
            have hV : ∀ p, Below w.heap.size w (gr w8 p) := fun p => hB8.trans ((gr_below _ _).mono hB8.size)
            have hhw1 := fun p => hhw'.out A9 k9 (gr w8 p) (hV p) (hR9.below (gr_below _ _))
            have hh1 := hh'.out
            have ys0 := gr_cell s0
            have ys1 := gr_cell s1
            have ys2 := gr_cell s2
            have ys3 := gr_cell s3
            have ys4 := gr_cell s4
            have ys5 := gr_cell s5
            have ys6 := gr_cell s6
            go_wp2_with fail
            refine wp_region_gr (by kernel_rfl) (by kernel_rfl) ?_
            repeat (go_big_quiet_step ((first
              | (go_at_call 18; with_reducible exact Calls.gr_of (hhw1 _))
              | (go_at_call 18; with_reducible exact Calls.gr_of (hh1 _ (hV _))))))
            refine wpQuiet_nil ?_
            rintro _ ⟨pq, rfl⟩
            go_wp2
            go_ret
            exact ⟨rfl, hV _⟩
      · obtain ⟨b, o2, rfl, _⟩ := hr3.2 hl
        have hi0 : (0 : Int) ≤ (n : Int) := by omega
        have hi1 : (n : Int) ≤ (vs.length : Int) := by omega
        have hi2 : (vs.length : Int) ≤ (k3 : Int) := by omega
        have hi3 : (n : Int) ≤ (k3 : Int) := by omega
        obtain ⟨rest, hrest⟩ : ∃ rest, vs.drop n = rest := ⟨_, rfl⟩
        have hrl : vs.length - n = rest.length := by rw [← hrest]; simp
        have hrle : rest.length ≤ 40 := by omega
        have hqn := Lib.hid (show rest ++ vs = q by rw [← hq'.out, hrest])
        have hrest' := Lib.hid hrest
        clear hq' hrest hl
        by_cases hk : n = k3
        · subst hk
          have hrn := Lib.hid (show rest = [] from List.eq_nil_of_length_eq_zero (by omega))
          go_enter Try.func4, Try.ntmps4
          go_wp2_with (first
            | (go_at_call 11; (with_reducible refine (haw _).mono ?_); clear haw; rintro e w1 ⟨rfl, hb1⟩; have hB1 := below_call hB hB.size hb1; have a0 := bl_own hb1 b0; have a1 := bl_own hb1 b1; obtain ⟨p0, p1, p2, p3, p4⟩ := blk5 a0; obtain ⟨p5, p6, _, _⟩ := blk2 a1)
            | (go_at_call 12; (with_reducible refine (hfew _).mono ?_); clear hfew; rintro e w2 ⟨rfl, hb2⟩; have hB2 := below_call hB1 hB1.size hb2; have d0 := bl_own hb2 a0; have d1 := bl_own hb2 a1; obtain ⟨q0, q1, q2, q3, q4⟩ := blk5 d0; obtain ⟨q5, q6, _, _⟩ := blk2 d1; have hr1 := hr3.below hB2)
            | (at_builtin; (refine wp_append_all rfl rfl hunV infoV rfl (by decide) encVote_len encVote_one rfl (Own.nil w2 w2.heap.size _ _ _) (A := _) (c := _) (ys := rest) rfl (fun e => by first | rfl | cases e) (by rw [hrn.out]; exact Rd_nil _ _ _ _) (by first | omega | (simp; done) | (simp; omega)) (by unfold maxLen; first | omega | (simp; done) | (simp; omega)) (Nat.le_refl _) ?_; intro v5 w5 ho5 hg5 hat5; rw [List.nil_append] at ho5; have hb5 := below_step (Below.refl w2.heap.size w2) (Nat.le_refl _) hg5 (fun _ e => by cases e); obtain ⟨A5, c5, hv5, hR5, hN5⟩ := ho5.src encVote_len; subst hv5; have hr5 := hr1.below hb5))
            | (at_builtin; (refine wp_append_all rfl rfl hunV infoV rfl (by decide) encVote_len encVote_one rfl ho5 (A := (some ⟨b, o2, none⟩)) (c := n) (ys := vs) rfl (fun e => by first | rfl | cases e) hr5 (by first | omega | (simp; done) | (simp; omega)) (by unfold maxLen; first | omega | (simp; done) | (simp; omega)) hb5.size ?_; intro v6 w6 ho6 hg6 hat6; have hb6 := below_step hb5 hb5.size hg6 (fun k e => (ho5.base k e).1); have hq6 : Own w6 w2.heap.size 37 4 encVote v6 q := (by rw [← hqn.out]; exact ho6); have f1 := bl_own hb6 d1; obtain ⟨r5, r6, _, _⟩ := blk2 f1; have hl7 : Below w6.heap.size w6 (w6.alloc (.cells #[.int .i64 0, .int .i64 (u + 1), .int .u64 bo.hi, .int .u64 bo.lo] 37)) := (Below.refl _ w6).alloc (Nat.le_refl _) _; have hb7 := below_call hb6 hb6.size hl7))
            | (at_builtin; (refine wp_append1 rfl rfl hunV infoV rfl (by decide) encVote_len encVote_one rfl (hq6.below hl7) (g := w6.heap.size) (c := 1) rfl (y := ⟨0, u + 1, bo⟩) (ha_at rfl) rfl (by omega) (by unfold maxLen; omega) hb7.size ?_; intro v8 w8 ho8 hg8 hat8; have hb8 := below_step hb7 hb7.size hg8 (fun k e => (hq6.base k e).1))))
          obtain ⟨A9, k9, hv9, hR9⟩ := ho8.rd encVote_len
          rw [hlen9] at hv9
          subst hv9
          have g0 := bl_own hb8 d0
          have g1 := bl_own hb8 d1
          have hB8 := below_call hB2 hB2.size hb8
          obtain ⟨s0, s1, s2, s3, s4⟩ := blk5 g0
          obtain ⟨s5, s6, _, _⟩ := blk2 g1
          have hV : ∀ p, Below w.heap.size w (gr w8 p) := fun p => hB8.trans ((gr_below _ _).mono hB8.size)
          have hhw1 := fun p => hhw'.out A9 k9 (gr w8 p) (hV p) (hR9.below (gr_below _ _))
          have hh1 := hh'.out
          have ys0 := gr_cell s0
          have ys1 := gr_cell s1
          have ys2 := gr_cell s2
          have ys3 := gr_cell s3
          have ys4 := gr_cell s4
          have ys5 := gr_cell s5
          have ys6 := gr_cell s6
          go_wp2_with fail
          refine wp_region_gr (by kernel_rfl) (by kernel_rfl) ?_
          repeat (go_big_quiet_step ((first
            | (go_at_call 18; with_reducible exact Calls.gr_of (hhw1 _))
            | (go_at_call 18; with_reducible exact Calls.gr_of (hh1 _ (hV _))))))
          refine wpQuiet_nil ?_
          rintro _ ⟨pq, rfl⟩
          go_wp2
          go_ret
          exact ⟨rfl, hV _⟩
        · skip
          go_enter Try.func4, Try.ntmps4
          go_wp2_with (first
            | (go_at_call 11; (with_reducible refine (haw _).mono ?_); clear haw; rintro e w1 ⟨rfl, hb1⟩; have hB1 := below_call hB hB.size hb1; have a0 := bl_own hb1 b0; have a1 := bl_own hb1 b1; obtain ⟨p0, p1, p2, p3, p4⟩ := blk5 a0; obtain ⟨p5, p6, _, _⟩ := blk2 a1)
            | (go_at_call 12; (with_reducible refine (hfew _).mono ?_); clear hfew; rintro e w2 ⟨rfl, hb2⟩; have hB2 := below_call hB1 hB1.size hb2; have d0 := bl_own hb2 a0; have d1 := bl_own hb2 a1; obtain ⟨q0, q1, q2, q3, q4⟩ := blk5 d0; obtain ⟨q5, q6, _, _⟩ := blk2 d1; have hr1 := hr3.below hB2)
            | (at_builtin; (refine wp_append_all rfl rfl hunV infoV rfl (by decide) encVote_len encVote_one rfl (Own.nil w2 w2.heap.size _ _ _) (A := (some ⟨b, o2 + n * 4, none⟩)) (c := _) (ys := rest) rfl (fun e => by first | rfl | cases e) (by rw [← hrest'.out]; exact hr1.drop n) (by first | omega | (simp; done) | (simp; omega)) (by unfold maxLen; first | omega | (simp; done) | (simp; omega)) (Nat.le_refl _) ?_; intro v5 w5 ho5 hg5 hat5; rw [List.nil_append] at ho5; have hb5 := below_step (Below.refl w2.heap.size w2) (Nat.le_refl _) hg5 (fun _ e => by cases e); obtain ⟨A5, c5, hv5, hR5, hN5⟩ := ho5.src encVote_len; subst hv5; have hr5 := hr1.below hb5))
            | (at_builtin; (refine wp_append_all rfl rfl hunV infoV rfl (by decide) encVote_len encVote_one rfl ho5 (A := (some ⟨b, o2, none⟩)) (c := k3) (ys := vs) rfl (fun e => by first | rfl | cases e) hr5 (by first | omega | (simp; done) | (simp; omega)) (by unfold maxLen; first | omega | (simp; done) | (simp; omega)) hb5.size ?_; intro v6 w6 ho6 hg6 hat6; have hb6 := below_step hb5 hb5.size hg6 (fun k e => (ho5.base k e).1); have hq6 : Own w6 w2.heap.size 37 4 encVote v6 q := (by rw [← hqn.out]; exact ho6); have f1 := bl_own hb6 d1; obtain ⟨r5, r6, _, _⟩ := blk2 f1; have hl7 : Below w6.heap.size w6 (w6.alloc (.cells #[.int .i64 0, .int .i64 (u + 1), .int .u64 bo.hi, .int .u64 bo.lo] 37)) := (Below.refl _ w6).alloc (Nat.le_refl _) _; have hb7 := below_call hb6 hb6.size hl7))
            | (at_builtin; (refine wp_append1 rfl rfl hunV infoV rfl (by decide) encVote_len encVote_one rfl (hq6.below hl7) (g := w6.heap.size) (c := 1) rfl (y := ⟨0, u + 1, bo⟩) (ha_at rfl) rfl (by omega) (by unfold maxLen; omega) hb7.size ?_; intro v8 w8 ho8 hg8 hat8; have hb8 := below_step hb7 hb7.size hg8 (fun k e => (hq6.base k e).1))))
          obtain ⟨A9, k9, hv9, hR9⟩ := ho8.rd encVote_len
          rw [hlen9] at hv9
          subst hv9
          have g0 := bl_own hb8 d0
          have g1 := bl_own hb8 d1
          have hB8 := below_call hB2 hB2.size hb8
          obtain ⟨s0, s1, s2, s3, s4⟩ := blk5 g0
          obtain ⟨s5, s6, _, _⟩ := blk2 g1
          have hV : ∀ p, Below w.heap.size w (gr w8 p) := fun p => hB8.trans ((gr_below _ _).mono hB8.size)
          have hhw1 := fun p => hhw'.out A9 k9 (gr w8 p) (hV p) (hR9.below (gr_below _ _))
          have hh1 := hh'.out
          have ys0 := gr_cell s0
          have ys1 := gr_cell s1
          have ys2 := gr_cell s2
          have ys3 := gr_cell s3
          have ys4 := gr_cell s4
          have ys5 := gr_cell s5
          have ys6 := gr_cell s6
          go_wp2_with fail
          refine wp_region_gr (by kernel_rfl) (by kernel_rfl) ?_
          repeat (go_big_quiet_step ((first
            | (go_at_call 18; with_reducible exact Calls.gr_of (hhw1 _))
            | (go_at_call 18; with_reducible exact Calls.gr_of (hh1 _ (hV _))))))
          refine wpQuiet_nil ?_
          rintro _ ⟨pq, rfl⟩
          go_wp2
          go_ret
          exact ⟨rfl, hV _⟩
    · have hcase : 15 < vs.length ∨ (vs.length ≤ 15 ∧ at_ < 0) ∨ (vs.length ≤ 15 ∧ 0 ≤ at_ ∧ (vs.length : Int) < at_) ∨ (vs.length ≤ 15 ∧ 0 ≤ at_ ∧ at_ ≤ (vs.length : Int) ∧ 1099511627776 < u) := by omega
      clear hgd
      unfold cfgv idv at *
      have hW : ∃ W, (w.alloc (.cells #[.slice A c.W.length k, .int .u64 c.seed, .int .i64 c.epoch, .int .i64 c.num, .int .i64 c.den] 25)).alloc (.cells #[.int .u64 bo.hi, .int .u64 bo.lo] 29) = W := ⟨_, rfl⟩
      obtain ⟨W, hW⟩ := hW
      have hB : Below w.heap.size w W := by subst hW; exact ((Below.refl _ w).alloc (Nat.le_refl _) _).alloc (by simp <;> omega) _
      have b0 : W.heap[w.heap.size]? = some (.cells #[.slice A c.W.length k, .int .u64 c.seed, .int .i64 c.epoch, .int .i64 c.num, .int .i64 c.den] 25 (0, 0)) := by subst hW; exact ha_lt (ha_at rfl)
      have b1 : W.heap[w.heap.size + 1]? = some (.cells #[.int .u64 bo.hi, .int .u64 bo.lo] 29 (0, 0)) := by subst hW; exact ha_at (by simp)
      rcases hcase with h1 | ⟨h1, h2⟩ | ⟨h1, h2, h3⟩ | ⟨h1, h2, h3, h4⟩
      · have e1 : 15 < (vs.length : Int) := by omega
        go_enter Try.func4, Try.ntmps4
        go_wp2_with (first
          | (go_at_call 11; (with_reducible refine (haw _).mono ?_); clear haw; rintro e w1 ⟨rfl, hb1⟩; have hB1 := below_call hB hB.size hb1; have a0 := bl_own hb1 b0; have a1 := bl_own hb1 b1; obtain ⟨p0, p1, p2, p3, p4⟩ := blk5 a0; obtain ⟨p5, p6, _, _⟩ := blk2 a1)
          | (go_at_call 12; (with_reducible refine (hfew _).mono ?_); clear hfew; rintro e w2 ⟨rfl, hb2⟩; have hB2 := below_call hB1 hB1.size hb2; have d0 := bl_own hb2 a0; have d1 := bl_own hb2 a1; obtain ⟨q0, q1, q2, q3, q4⟩ := blk5 d0; obtain ⟨q5, q6, _, _⟩ := blk2 d1))
        go_ret
        exact ⟨rfl, hB2⟩
      · have e1 : ¬ (15 < (vs.length : Int)) := by omega
        go_enter Try.func4, Try.ntmps4
        go_wp2_with (first
          | (go_at_call 11; (with_reducible refine (haw _).mono ?_); clear haw; rintro e w1 ⟨rfl, hb1⟩; have hB1 := below_call hB hB.size hb1; have a0 := bl_own hb1 b0; have a1 := bl_own hb1 b1; obtain ⟨p0, p1, p2, p3, p4⟩ := blk5 a0; obtain ⟨p5, p6, _, _⟩ := blk2 a1)
          | (go_at_call 12; (with_reducible refine (hfew _).mono ?_); clear hfew; rintro e w2 ⟨rfl, hb2⟩; have hB2 := below_call hB1 hB1.size hb2; have d0 := bl_own hb2 a0; have d1 := bl_own hb2 a1; obtain ⟨q0, q1, q2, q3, q4⟩ := blk5 d0; obtain ⟨q5, q6, _, _⟩ := blk2 d1))
        go_ret
        exact ⟨rfl, hB2⟩
      · have e1 : ¬ (15 < (vs.length : Int)) := by omega
        have e2 : ¬ (at_ < 0) := by omega
        go_enter Try.func4, Try.ntmps4
        go_wp2_with (first
          | (go_at_call 11; (with_reducible refine (haw _).mono ?_); clear haw; rintro e w1 ⟨rfl, hb1⟩; have hB1 := below_call hB hB.size hb1; have a0 := bl_own hb1 b0; have a1 := bl_own hb1 b1; obtain ⟨p0, p1, p2, p3, p4⟩ := blk5 a0; obtain ⟨p5, p6, _, _⟩ := blk2 a1)
          | (go_at_call 12; (with_reducible refine (hfew _).mono ?_); clear hfew; rintro e w2 ⟨rfl, hb2⟩; have hB2 := below_call hB1 hB1.size hb2; have d0 := bl_own hb2 a0; have d1 := bl_own hb2 a1; obtain ⟨q0, q1, q2, q3, q4⟩ := blk5 d0; obtain ⟨q5, q6, _, _⟩ := blk2 d1))
        go_ret
        exact ⟨rfl, hB2⟩
      · have e1 : ¬ (15 < (vs.length : Int)) := by omega
        have e2 : ¬ (at_ < 0) := by omega
        have e3 : ¬ ((vs.length : Int) < at_) := by omega
        go_enter Try.func4, Try.ntmps4
        go_wp2_with (first
          | (go_at_call 11; (with_reducible refine (haw _).mono ?_); clear haw; rintro e w1 ⟨rfl, hb1⟩; have hB1 := below_call hB hB.size hb1; have a0 := bl_own hb1 b0; have a1 := bl_own hb1 b1; obtain ⟨p0, p1, p2, p3, p4⟩ := blk5 a0; obtain ⟨p5, p6, _, _⟩ := blk2 a1)
          | (go_at_call 12; (with_reducible refine (hfew _).mono ?_); clear hfew; rintro e w2 ⟨rfl, hb2⟩; have hB2 := below_call hB1 hB1.size hb2; have d0 := bl_own hb2 a0; have d1 := bl_own hb2 a1; obtain ⟨q0, q1, q2, q3, q4⟩ := blk5 d0; obtain ⟨q5, q6, _, _⟩ := blk2 d1))
        go_ret
        exact ⟨rfl, hB2⟩
  · rw [decide_eq_false hsm] at hfew
    clear hsm
    unfold cfgv idv at *
    have hW : ∃ W, (w.alloc (.cells #[.slice A c.W.length k, .int .u64 c.seed, .int .i64 c.epoch, .int .i64 c.num, .int .i64 c.den] 25)).alloc (.cells #[.int .u64 bo.hi, .int .u64 bo.lo] 29) = W := ⟨_, rfl⟩
    obtain ⟨W, hW⟩ := hW
    have hB : Below w.heap.size w W := by subst hW; exact ((Below.refl _ w).alloc (Nat.le_refl _) _).alloc (by simp <;> omega) _
    have b0 : W.heap[w.heap.size]? = some (.cells #[.slice A c.W.length k, .int .u64 c.seed, .int .i64 c.epoch, .int .i64 c.num, .int .i64 c.den] 25 (0, 0)) := by subst hW; exact ha_lt (ha_at rfl)
    have b1 : W.heap[w.heap.size + 1]? = some (.cells #[.int .u64 bo.hi, .int .u64 bo.lo] 29 (0, 0)) := by subst hW; exact ha_at (by simp)
    go_enter Try.func4, Try.ntmps4
    go_wp2_with (first
      | (go_at_call 11; (with_reducible refine (haw _).mono ?_); clear haw; rintro e w1 ⟨rfl, hb1⟩; have hB1 := below_call hB hB.size hb1; have a0 := bl_own hb1 b0; have a1 := bl_own hb1 b1; obtain ⟨p0, p1, p2, p3, p4⟩ := blk5 a0; obtain ⟨p5, p6, _, _⟩ := blk2 a1)
      | (go_at_call 12; (with_reducible refine (hfew _).mono ?_); clear hfew; rintro e w2 ⟨rfl, hb2⟩; have hB2 := below_call hB1 hB1.size hb2; have d0 := bl_own hb2 a0; have d1 := bl_own hb2 a1; obtain ⟨q0, q1, q2, q3, q4⟩ := blk5 d0; obtain ⟨q5, q6, _, _⟩ := blk2 d1))
    go_ret
    exact ⟨rfl, hB2⟩
theorem order13_walk (A : Option Addr) (c : Cfg) (k : Nat) (A2 : Option Addr) (l : List Blk) (k2 : Nat) (A3 : Option Addr) (vs : List Vote) (k3 : Nat) (u : Int) (bo : ID) (pct at_ : Int) (w : World) (_ : c.W.length ≤ k) (_ : k ≤ maxLen) (hr : Rd 1 encI w A c.W) (_ : c.Ok) (_ : l.length ≤ k2) (_ : k2 ≤ maxLen) (hr2 : Rd 5 encBlk w A2 l) (_ : ∀ b ∈ l, b.Ok) (hlk : vs.length ≤ k3) (hkm : k3 ≤ maxLen) (hr3 : Rd 4 encVote w A3 vs) (_ : ∀ b ∈ vs, b.Ok) (hN : A3 = none → k3 = 0) (huI : I64 u) (_ : bo.Ok) (_ : I64 pct) (_ : I64 at_) :
    Calls Try.prog 4 #[cfgv A k c, .slice A2 l.length k2, .slice A3 vs.length k3, .int .i64 u, idv bo, .int .i64 pct, .int .i64 at_] w fun e w' => e = .returned (.bool true) ∧ Below w.heap.size w w' :=
  order13_any c l vs u bo pct at_ A A2 A3 k k2 k3 w huI hlk hkm hN hr hr2 hr3
end Go.Proofs.Ytibmfpcbjopojaa
