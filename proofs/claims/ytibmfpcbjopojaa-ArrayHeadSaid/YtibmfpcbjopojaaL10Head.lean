/- ArrayHead, walked. -/
import Derived.Test.YtibmfpcbjopojaaGJ
import Derived.Test.YtibmfpcbjopojaaHeadA
import Derived.Test.YtibmfpcbjopojaaGF
import Derived.Test.YtibmfpcbjopojaaGD
namespace Go.Proofs.Ytibmfpcbjopojaa
open Go.RowKit
set_option linter.unusedVariables false
theorem from_len {c : Cfg} {l : List Blk} {vs : List Vote} {r : List Item} (h : FromP c l vs r) (hle : FromOk c l ∨ l.length = 0) : r.length = l.length := by
  by_cases hk : FromOk c l
  · obtain ⟨_, hsk⟩ := h.1 hk
    rw [hsk.1, (votesOf_ok hk.1.1.2.2 vs (blocksOf_sk l)).2, (blocksOf_ok l).1]
  · rw [h.2 hk]
    rcases hle with e | e
    · exact absurd e hk
    · simpa using e.symm
set_option maxRecDepth 100000 in
set_option maxHeartbeats 8000000 in
theorem head10_any (c : Cfg) (l : List Blk) (vs : List Vote) (s : Int) (A A2 A3 : Option Addr) (k k2 k3 : Nat) (w : World) (hr : Rd 1 encI w A c.W) (hr2 : Rd 5 encBlk w A2 l) (hr3 : Rd 4 encVote w A3 vs) :
    Calls Try.prog 10 #[cfgv A k c, .slice A2 l.length k2, .slice A3 vs.length k3, .int .i64 s] w fun e w' => e = .returned (.bool true) ∧ Below w.heap.size w w' := by
  have hm := hr.1
  have hm2 := hr2.1
  have hm3 := hr3.1
  have haw := fun V => awake10_any V
  have hfew := fun V => fewN_any c l.length vs.length A A2 A3 k k2 k3 V hm hm2 hm3
  by_cases hsm : c.W.length ≤ 40 ∧ l.length ≤ 20 ∧ vs.length ≤ 30
  · rw [decide_eq_true hsm] at hfew
    obtain ⟨hsm1, hsm2, hsm3⟩ := hsm
    have hmay := fun V (hV : Below w.heap.size w V) => may_any l A2 k2 V (hr2.below hV)
    by_cases ht : Tree l
    · rw [show mayB l = true by simp [mayB, ht]] at hmay
      have hfrom0 := fun V (hV : Below w.heap.size w V) => from_any c l [] A A2 none k k2 0 V (hr.below hV) (hr2.below hV) (Rd_nil _ _ _ _)
      simp only [List.length_nil] at hfrom0
      by_cases hle : FromOk c l ∨ l.length = 0
      · have hlen0 : ∀ r0, FromP c l [] r0 → r0.length = l.length := fun r0 h => from_len h hle
        have hlaw := fun m hm r0 (h0 : FromP c l [] r0) r (h : FromP c l m r) => array_head (c := c) (l := l) (m := m) (r := r) h hm h0 (from_len h0 hle)
        have hof := fun V (hV : Below w.heap.size w V) => vof_any vs s A3 k3 V (hr3.below hV) (by omega)
        have hla := fun V (hV : Below w.heap.size w V) => vlast_any vs s A3 k3 V (hr3.below hV) (by omega)
        have hfm := fun A5 k5 V (hV : Below w.heap.size w V) (h5 : Rd 4 encVote V A5 (ofL vs s)) => from_any c l (ofL vs s) A A2 A5 k k2 k5 V (hr.below hV) (hr2.below hV) h5
        have hfn := fun A5 k5 V (hV : Below w.heap.size w V) (h5 : Rd 4 encVote V A5 (lastL vs s)) => from_any c l (lastL vs s) A A2 A5 k k2 k5 V (hr.below hV) (hr2.below hV) h5
        have hgm := fun A5 k5 V (hV : Below w.heap.size w V) (h5 : Rd 4 encVote V A5 (ofL vs s)) => ghead_any c l (ofL vs s) A A2 A5 k k2 k5 V (hr.below hV) (hr2.below hV) h5 (by omega) (by have := ofL_len vs s; omega)
        have hgn := fun A5 k5 V (hV : Below w.heap.size w V) (h5 : Rd 4 encVote V A5 (lastL vs s)) => ghead_any c l (lastL vs s) A A2 A5 k k2 k5 V (hr.below hV) (hr2.below hV) h5 (by omega) (by have := lastL_len vs s; omega)
        have hlm := hlaw (ofL vs s) (ofL_is vs s).1
        have hln := hlaw (lastL vs s) (lastL_is vs s).1
        obtain ⟨h1, hh1⟩ : ∃ h, headBy l (onC c l (ofL vs s)) = h := ⟨_, rfl⟩
        obtain ⟨h2, hh2⟩ : ∃ h, headBy l (onC c l (lastL vs s)) = h := ⟨_, rfl⟩
        rw [hh1] at hgm hlm
        rw [hh2] at hgn hln
        obtain ⟨m, hme⟩ : ∃ m, ofL vs s = m := ⟨_, rfl⟩
        obtain ⟨n, hne⟩ : ∃ n, lastL vs s = n := ⟨_, rfl⟩
        rw [hme] at hof hfm hgm hlm
        rw [hne] at hla hfn hgn hln
        have htop := fun (x : List Item) B d V (hR : Rd 7 encItem V B x) => top_any x B d V hR
        have he1 := eql_idw h1 h1
        rw [decide_eq_true (rfl : h1 = h1)] at he1
        have he2 := eql_idw h2 h2
        rw [decide_eq_true (rfl : h2 = h2)] at he2
        have hlen0' := Lib.hid hlen0
        have hlm' := Lib.hid hlm
        have hln' := Lib.hid hln
        generalize FromP c l [] = FP0 at hfrom0 hlen0' hlm' hln'
        generalize FromP c l m = FPm at hfm hlm'
        generalize FromP c l n = FPn at hfn hln'
        clear hh1 hh2 hme hne hlaw hlen0 hlm hln hle ht
        have hfm' := Lib.hid hfm
        have hfn' := Lib.hid hfn
        have hgm' := Lib.hid hgm
        have hgn' := Lib.hid hgn
        have htop' := Lib.hid htop
        clear hfm hfn hgm hgn htop
        unfold cfgv idv at *
        have hW : ∃ W, w.alloc (.cells #[.slice A c.W.length k, .int .u64 c.seed, .int .i64 c.epoch, .int .i64 c.num, .int .i64 c.den] 25) = W := ⟨_, rfl⟩
        obtain ⟨W, hW⟩ := hW
        have hB : Below w.heap.size w W := by subst hW; exact (Below.refl _ w).alloc (Nat.le_refl _) _
        have b0 : W.heap[w.heap.size]? = some (.cells #[.slice A c.W.length k, .int .u64 c.seed, .int .i64 c.epoch, .int .i64 c.num, .int .i64 c.den] 25 (0, 0)) := by subst hW; exact ha_at rfl
        go_enter Try.func10, Try.ntmps10
        go_wp2_with (first
          | (go_at_call 26; (with_reducible refine (haw _).mono ?_); clear haw; rintro e w1 ⟨rfl, hb1⟩; have hB1 := below_call hB hB.size hb1; have a0 := bl_own hb1 b0; obtain ⟨p0, p1, p2, p3, p4⟩ := blk5 a0)
          | (go_at_call 12; (with_reducible refine (hfew _).mono ?_); clear hfew; rintro e w2 ⟨rfl, hb2⟩; have hB2 := below_call hB1 hB1.size hb2; have d0 := bl_own hb2 a0; obtain ⟨q0, q1, q2, q3, q4⟩ := blk5 d0)
          | (go_at_call 27; (with_reducible refine (hmay _ hB2).mono ?_); clear hmay; rintro e w3 ⟨rfl, hb3⟩; have hB3 := below_call hB2 hB2.size hb3; have f0 := bl_own hb3 d0; obtain ⟨r0', r1, r2, r3, r4⟩ := blk5 f0)
          | (go_at_call 28; (with_reducible refine (hfrom0 _ hB3).mono ?_); clear hfrom0; rintro e w4 ⟨⟨x0, v, rfl, ho4, hx0⟩, hb4⟩; have hB4 := below_call hB3 hB3.size hb4; have g0 := bl_own hb4 f0; obtain ⟨A4, k4, hv4, hR4⟩ := ho4.rd encItem_len; have hxl := hlen0'.out x0 hx0; rw [hxl] at hv4; subst hv4; obtain ⟨s0, s1, s2, s3, s4⟩ := blk5 g0)
          | (go_at_call 29; (with_reducible refine (hof _ hB4).mono ?_); clear hof; rintro e w5 ⟨v, rfl, ho5, hb5⟩; have hB5 := below_call hB4 hB4.size hb5; obtain ⟨A5, k5, hv5, hR5⟩ := ho5.rd encVote_len; subst hv5; have i0 := bl_own hb5 g0)
          | (go_at_call 21; (with_reducible refine (hla _ hB5).mono ?_); clear hla; rintro e w6 ⟨v, rfl, ho6, hb6⟩; have hB6 := below_call hB5 hB5.size hb6; obtain ⟨A6, k6, hv6, hR6⟩ := ho6.rd encVote_len; subst hv6; have hR56 := hR5.below hb6; have j0 := bl_own hb6 i0))
        go_region_held3 (fun W' => W'.cell? ⟨w.heap.size, 0, none⟩ = some (.slice A c.W.length k) ∧ W'.cell? ⟨w.heap.size, 1, none⟩ = some (.int .u64 c.seed) ∧ W'.cell? ⟨w.heap.size, 2, none⟩ = some (.int .i64 c.epoch) ∧ W'.cell? ⟨w.heap.size, 3, none⟩ = some (.int .i64 c.num) ∧ W'.cell? ⟨w.heap.size, 4, none⟩ = some (.int .i64 c.den))
          (first | exact blk5 j0 | exact blk5 t0 | exact blk5 t1 | exact blk5 t2 | exact blk5 t3 | exact blk5 t4 | exact blk5 t5) ((first
          | (go_at_call 28; (with_reducible refine (hfm'.out A5 k5 _ hB6.drew (hR56.below ((Below.refl _ w6).drew))).mono ?_); rintro e w7 ⟨⟨x1, v, rfl, ho7, hx1⟩, hb7⟩; have hB7 := below_call hB6.drew hB6.size hb7; obtain ⟨A7, k7, hv7, hR7⟩ := ho7.rd encItem_len; subst hv7; have hQ7 : Below w6.heap.size w6 w7 := below_call (Below.refl _ w6).drew (Nat.le_refl _) hb7; have t0 := bl_own hQ7 j0; have hR57 := hR56.below hQ7; have hR67 := hR6.below hQ7; have ht1 := hlm'.out x0 hx0 x1 hx1; have htp1 := htop'.out x1 A7 k7 w7 hR7; rw [ht1] at htp1)
          | (go_at_call 30; (with_reducible refine (Calls.mono htp1 ?_)); rintro e w8 ⟨rfl, hb8⟩; have hB8 := below_call hB7 hB7.size hb8; have t1 := bl_own hb8 t0; have hR58 := hR57.below hb8; have hR68 := hR67.below hb8)
          | (go_at_call 24; (with_reducible refine (hgm'.out A5 k5 w8 hB8 hR58).mono ?_); rintro e w9 ⟨rfl, hb9⟩; have hB9 := below_call hB8 hB8.size hb9; have t2 := bl_own hb9 t1; have hR69 := hR68.below hb9)
          | (go_at_call 28; (with_reducible refine (hfn'.out A6 k6 w9 hB9 hR69).mono ?_); rintro e wa ⟨⟨x2, v, rfl, hoa, hx2⟩, hba⟩; have hBa := below_call hB9 hB9.size hba; obtain ⟨Aa, ka, hva, hRa⟩ := hoa.rd encItem_len; subst hva; have t3 := bl_own hba t2; have hR6a := hR69.below hba; have ht2 := hln'.out x0 hx0 x2 hx2; have htp2 := htop'.out x2 Aa ka wa hRa; rw [ht2] at htp2)
          | (go_at_call 30; (with_reducible refine (Calls.mono htp2 ?_)); rintro e wb ⟨rfl, hbb⟩; have hBb := below_call hBa hBa.size hbb; have t4 := bl_own hbb t3; have hR6b := hR6a.below hbb)
          | (go_at_call 24; (with_reducible refine (hgn'.out A6 k6 wb hBb hR6b).mono ?_); rintro e wc ⟨rfl, hbc⟩; have hBc := below_call hBb hBb.size hbc; have t5 := bl_own hbc t4)))
        go_wp2
        go_ret
        exact ⟨rfl, hBc⟩
      · have hlen0 : ∀ r0, FromP c l [] r0 → r0.length = 0 := fun r0 h => by rw [h.2 (fun e => hle (.inl e))]; rfl
        have hl0 : ((0 : Int) != (l.length : Int)) = true := by
          have : l.length ≠ 0 := fun e => hle (.inr e)
          simp; omega
        have hlen0' := Lib.hid hlen0
        generalize FromP c l [] = FP0 at hfrom0 hlen0'
        clear hlen0 hle ht
        unfold cfgv at *
        have hW : ∃ W, w.alloc (.cells #[.slice A c.W.length k, .int .u64 c.seed, .int .i64 c.epoch, .int .i64 c.num, .int .i64 c.den] 25) = W := ⟨_, rfl⟩
        obtain ⟨W, hW⟩ := hW
        have hB : Below w.heap.size w W := by subst hW; exact (Below.refl _ w).alloc (Nat.le_refl _) _
        have b0 : W.heap[w.heap.size]? = some (.cells #[.slice A c.W.length k, .int .u64 c.seed, .int .i64 c.epoch, .int .i64 c.num, .int .i64 c.den] 25 (0, 0)) := by subst hW; exact ha_at rfl
        go_enter Try.func10, Try.ntmps10
        go_wp2_with (first
          | (go_at_call 26; (with_reducible refine (haw _).mono ?_); clear haw; rintro e w1 ⟨rfl, hb1⟩; have hB1 := below_call hB hB.size hb1; have a0 := bl_own hb1 b0; obtain ⟨p0, p1, p2, p3, p4⟩ := blk5 a0)
          | (go_at_call 12; (with_reducible refine (hfew _).mono ?_); clear hfew; rintro e w2 ⟨rfl, hb2⟩; have hB2 := below_call hB1 hB1.size hb2; have d0 := bl_own hb2 a0; obtain ⟨q0, q1, q2, q3, q4⟩ := blk5 d0)
          | (go_at_call 27; (with_reducible refine (hmay _ hB2).mono ?_); clear hmay; rintro e w3 ⟨rfl, hb3⟩; have hB3 := below_call hB2 hB2.size hb3; have f0 := bl_own hb3 d0; obtain ⟨r0', r1, r2, r3, r4⟩ := blk5 f0)
          | (go_at_call 28; (with_reducible refine (hfrom0 _ hB3).mono ?_); clear hfrom0; rintro e w4 ⟨⟨x0, v, rfl, ho4, hx0⟩, hb4⟩; have hB4 := below_call hB3 hB3.size hb4; have g0 := bl_own hb4 f0; obtain ⟨A4, k4, hv4, hR4⟩ := ho4.rd encItem_len; have hxl := hlen0'.out x0 hx0; rw [hxl] at hv4; subst hv4; obtain ⟨s0, s1, s2, s3, s4⟩ := blk5 g0))
        go_ret
        exact ⟨rfl, hB4⟩
    · rw [show mayB l = false by simp [mayB, ht]] at hmay
      clear ht
      unfold cfgv at *
      have hW : ∃ W, w.alloc (.cells #[.slice A c.W.length k, .int .u64 c.seed, .int .i64 c.epoch, .int .i64 c.num, .int .i64 c.den] 25) = W := ⟨_, rfl⟩
      obtain ⟨W, hW⟩ := hW
      have hB : Below w.heap.size w W := by subst hW; exact (Below.refl _ w).alloc (Nat.le_refl _) _
      have b0 : W.heap[w.heap.size]? = some (.cells #[.slice A c.W.length k, .int .u64 c.seed, .int .i64 c.epoch, .int .i64 c.num, .int .i64 c.den] 25 (0, 0)) := by subst hW; exact ha_at rfl
      go_enter Try.func10, Try.ntmps10
      go_wp2_with (first
        | (go_at_call 26; (with_reducible refine (haw _).mono ?_); clear haw; rintro e w1 ⟨rfl, hb1⟩; have hB1 := below_call hB hB.size hb1; have a0 := bl_own hb1 b0; obtain ⟨p0, p1, p2, p3, p4⟩ := blk5 a0)
        | (go_at_call 12; (with_reducible refine (hfew _).mono ?_); clear hfew; rintro e w2 ⟨rfl, hb2⟩; have hB2 := below_call hB1 hB1.size hb2; have d0 := bl_own hb2 a0; obtain ⟨q0, q1, q2, q3, q4⟩ := blk5 d0)
        | (go_at_call 27; (with_reducible refine (hmay _ hB2).mono ?_); clear hmay; rintro e w3 ⟨rfl, hb3⟩; have hB3 := below_call hB2 hB2.size hb3; have f0 := bl_own hb3 d0; obtain ⟨r0', r1, r2, r3, r4⟩ := blk5 f0))
      go_ret
      exact ⟨rfl, hB3⟩
  · rw [decide_eq_false hsm] at hfew
    clear hsm
    unfold cfgv at *
    have hW : ∃ W, w.alloc (.cells #[.slice A c.W.length k, .int .u64 c.seed, .int .i64 c.epoch, .int .i64 c.num, .int .i64 c.den] 25) = W := ⟨_, rfl⟩
    obtain ⟨W, hW⟩ := hW
    have hB : Below w.heap.size w W := by subst hW; exact (Below.refl _ w).alloc (Nat.le_refl _) _
    have b0 : W.heap[w.heap.size]? = some (.cells #[.slice A c.W.length k, .int .u64 c.seed, .int .i64 c.epoch, .int .i64 c.num, .int .i64 c.den] 25 (0, 0)) := by subst hW; exact ha_at rfl
    go_enter Try.func10, Try.ntmps10
    go_wp2_with (first
      | (go_at_call 26; (with_reducible refine (haw _).mono ?_); clear haw; rintro e w1 ⟨rfl, hb1⟩; have hB1 := below_call hB hB.size hb1; have a0 := bl_own hb1 b0; obtain ⟨p0, p1, p2, p3, p4⟩ := blk5 a0)
      | (go_at_call 12; (with_reducible refine (hfew _).mono ?_); clear hfew; rintro e w2 ⟨rfl, hb2⟩; have hB2 := below_call hB1 hB1.size hb2; have d0 := bl_own hb2 a0; obtain ⟨q0, q1, q2, q3, q4⟩ := blk5 d0))
    go_ret
    exact ⟨rfl, hB2⟩
theorem head10_walk (A : Option Addr) (c : Cfg) (k : Nat) (A2 : Option Addr) (l : List Blk) (k2 : Nat) (A3 : Option Addr) (vs : List Vote) (k3 : Nat) (s : Int) (w : World) (_ : c.W.length ≤ k) (_ : k ≤ maxLen) (hr : Rd 1 encI w A c.W) (_ : c.Ok) (_ : l.length ≤ k2) (_ : k2 ≤ maxLen) (hr2 : Rd 5 encBlk w A2 l) (_ : ∀ b ∈ l, b.Ok) (_ : vs.length ≤ k3) (_ : k3 ≤ maxLen) (hr3 : Rd 4 encVote w A3 vs) (_ : ∀ b ∈ vs, b.Ok) (_ : I64 s) :
    Calls Try.prog 10 #[cfgv A k c, .slice A2 l.length k2, .slice A3 vs.length k3, .int .i64 s] w fun e w' => e = .returned (.bool true) ∧ Below w.heap.size w w' :=
  head10_any c l vs s A A2 A3 k k2 k3 w hr hr2 hr3
end Go.Proofs.Ytibmfpcbjopojaa
