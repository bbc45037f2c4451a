/- WeighTells, walked. -/
import Derived.Test.YtlhndhgkoacilaaRead
namespace Go.Proofs.Ytlhndhgkoacilaa
open Go.RowKit
set_option maxRecDepth 100000 in
set_option maxHeartbeats 1000000 in
theorem tells_any (c : Cfg) (l : List Blk) (vs : List Vote) (id : ID) (A A2 A3 : Option Addr) (k k2 k3 : Nat) (w : World) (hok : ∀ b ∈ l, b.Ok) (hr : Rd 1 encI w A c.W) (hr2 : Rd 5 encBlk w A2 l) (hr3 : Rd 4 encVote w A3 vs) :
    Calls Try.prog 3 #[cfgv A k c, .slice A2 l.length k2, .slice A3 vs.length k3, idv id] w fun e w' => e = .returned (.bool true) ∧ Below w.heap.size w w' := by
  have hm := hr.1
  have hm2 := hr2.1
  have hm3 := hr3.1
  have haw := fun V => awake_any V
  have hfew := fun V => few_any c l.length vs.length A A2 A3 k k2 k3 V hm hm2 hm3
  obtain ⟨r, hrr⟩ : ∃ r, decide (c.W.length ≤ 40 ∧ l.length ≤ 30 ∧ vs.length ≤ 30) = r := ⟨_, rfl⟩
  rw [hrr] at hfew
  have hsm := Lib.hid (fun h : r = true => of_decide_eq_true (hrr.trans h))
  clear hrr
  have h1 := Lib.hid (fun V (hV : Below w.heap.size w V) (h : r = true) => on_any c l vs id A A2 A3 k k2 k3 V (hr.below hV) (hr2.below hV) (hr3.below hV) (by have := hsm.out h; omega) (by have := hsm.out h; omega))
  have h2 := Lib.hid (fun V (hV : Below w.heap.size w V) (h : r = true) => ron_any c l vs id A A2 A3 k k2 k3 V hok (hr.below hV) (hr2.below hV) (hr3.below hV) (by have := hsm.out h; omega) (by have := hsm.out h; omega))
  have h3 := Lib.hid (fun V (hV : Below w.heap.size w V) (h : r = true) => all_any c l vs A A2 A3 k k2 k3 V (hr.below hV) (hr2.below hV) (hr3.below hV) (by have := hsm.out h; omega) (by have := hsm.out h; omega))
  have h4 := Lib.hid (fun V (hV : Below w.heap.size w V) (h : r = true) => rall_any c l vs A A2 A3 k k2 k3 V hok (hr.below hV) (hr2.below hV) (hr3.below hV) (by have := hsm.out h; omega) (by have := hsm.out h; omega))
  unfold cfgv idv at *
  have hW : ∃ W, ((w.alloc (.cells #[.slice A c.W.length k, .int .u64 c.seed, .int .i64 c.epoch, .int .i64 c.num, .int .i64 c.den] 25)).alloc (.cells #[.int .u64 id.hi, .int .u64 id.lo] 29)) = W := ⟨_, rfl⟩
  obtain ⟨W, hW⟩ := hW
  have hB : Below w.heap.size w W := by subst hW; exact ((Below.refl _ w).alloc (Nat.le_refl _) _).alloc (by simp) _
  have b0 : W.heap[w.heap.size]? = some (.cells #[.slice A c.W.length k, .int .u64 c.seed, .int .i64 c.epoch, .int .i64 c.num, .int .i64 c.den] 25 (0, 0)) := by subst hW; exact ha_lt (ha_at rfl)
  have b1 : W.heap[w.heap.size + 1]? = some (.cells #[.int .u64 id.hi, .int .u64 id.lo] 29 (0, 0)) := by subst hW; exact ha_at (by simp)
  cases hrv : r with
  | false =>
    rw [hrv] at hfew
    go_enter Try.func3, Try.ntmps3
    go_wp2_with (first
      | (go_at_call 9; refine (haw _).mono ?_; clear haw; rintro e w1 ⟨rfl, hb1⟩; have hB1 := below_call hB hB.size hb1; obtain ⟨c0, c1, c2, c3, c4⟩ := blk5 (bl_own hb1 b0))
      | (go_at_call 10; refine (hfew _).mono ?_; clear hfew; rintro e w2 ⟨rfl, hb2⟩; have hB2 := below_call hB1 hB1.size hb2))
    go_ret
    exact ⟨rfl, hB2⟩
  | true =>
    rw [hrv] at hfew
    go_enter Try.func3, Try.ntmps3
    go_wp2_with (first
      | (go_at_call 9; refine (haw _).mono ?_; clear haw; rintro e w1 ⟨rfl, hb1⟩; have hB1 := below_call hB hB.size hb1; have b0' := bl_own hb1 b0; have b1' := bl_own hb1 b1; obtain ⟨c0, c1, c2, c3, c4⟩ := blk5 b0')
      | (go_at_call 10; refine (hfew _).mono ?_; clear hfew; rintro e w2 ⟨rfl, hb2⟩; have hB2 := below_call hB1 hB1.size hb2; have b0'' := bl_own hb2 b0'; have b1'' := bl_own hb2 b1'))
    obtain ⟨c0, c1, c2, c3, c4⟩ := blk5 b0''
    obtain ⟨c5, c6, _, _⟩ := blk2 b1''
    have g0 := gr_cell c0
    have g1 := gr_cell c1
    have g2 := gr_cell c2
    have g3 := gr_cell c3
    have g4 := gr_cell c4
    have g5 := gr_cell c5
    have g6 := gr_cell c6
    have hBg : ∀ p, Below w.heap.size w (gr w2 p) := fun p => hB2.trans ((gr_below _ _).mono hB2.size)
    refine wp_region_gr (by kernel_rfl) (by kernel_rfl) ?_
    repeat (go_big_quiet_step ((first
      | (go_at_call 11; exact Calls.gr_of (h1.out _ (hBg _) hrv))
      | (go_at_call 12; exact Calls.gr_of (h2.out _ (hBg _) hrv))
      | (go_at_call 13; exact Calls.gr_of (h3.out _ (hBg _) hrv))
      | (go_at_call 14; exact Calls.gr_of (h4.out _ (hBg _) hrv)))))
    refine wpQuiet_nil ?_
    rintro _ ⟨pq, rfl⟩
    go_wp2
    go_ret
    exact ⟨rfl, hBg _⟩
theorem tells_walk (A : Option Addr) (c : Cfg) (k : Nat) (A2 : Option Addr) (l : List Blk) (k2 : Nat) (A3 : Option Addr) (vs : List Vote) (k3 : Nat) (id : ID) (w : World) (_ : c.W.length ≤ k) (_ : k ≤ maxLen) (hr : Rd 1 encI w A c.W) (_ : c.Ok) (_ : l.length ≤ k2) (_ : k2 ≤ maxLen) (hr2 : Rd 5 encBlk w A2 l) (hok : ∀ b ∈ l, b.Ok) (_ : vs.length ≤ k3) (_ : k3 ≤ maxLen) (hr3 : Rd 4 encVote w A3 vs) (_ : ∀ b ∈ vs, b.Ok) (_ : id.Ok) :
    Calls Try.prog 3 #[cfgv A k c, .slice A2 l.length k2, .slice A3 vs.length k3, idv id] w fun e w' => e = .returned (.bool true) ∧ Below w.heap.size w w' :=
  tells_any c l vs id A A2 A3 k k2 k3 w hok hr hr2 hr3
end Go.Proofs.Ytlhndhgkoacilaa
