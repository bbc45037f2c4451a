/- The walk of votes.of. -/
import Derived.Test.YtkccakaaklemdaaVoteB
namespace Go.Proofs.Ytkccakaaklemdaa
open Go.RowKit
theorem mput_len {κ ν : Type} [DecidableEq κ] (m : List (κ × ν)) (x : κ) (v : ν) : (mput m x v).length ≤ m.length + 1 := by
  unfold mput
  split
  · simp
  · simp
def BookPost (l : List Vote) (w : World) (e : Ending) (w' : World) : Prop :=
  ∃ (m : List (Dty × ID)) (b : List (Dty × Bool)) (M1 M2 : Nat), e = .returned (.agg #[.map (some M1), .map (some M2)]) ∧ w.heap.size ≤ M1 ∧ w.heap.size ≤ M2 ∧ MapIs dtyv idv w' M1 m ∧ MapIs dtyv Value.bool w' M2 b ∧ Book l m b ∧ m.length ≤ l.length ∧ b.length ≤ l.length ∧ Below w.heap.size w w'
set_option maxRecDepth 100000 in
set_option maxHeartbeats 2000000 in
theorem book_any (l : List Vote) (A : Option Addr) (c : Nat) (w : World) (hr : Rd 4 encVote w A l) :
    Calls Try.prog 32 #[.slice A l.length c] w (BookPost l w) := by
  have hm := hr.1
  have hmm := @run_makeMap Try.prog
  go_enter Try.func32, Try.ntmps32
  go_wp2_with fail
  go_loopw [5, 6, 7, 8, 14] (fun u5 u6 u7 u8 i wr => ∃ (k : Nat) (m : List (Dty × ID)) (b : List (Dty × Bool)), k ≤ l.length ∧ i = .int .i64 k ∧ MapIs dtyv idv wr (w.heap.size + 1) m ∧ MapIs dtyv Value.bool wr (w.heap.size + 1 + 1) b ∧ Hid (Book (l.take k) m b) ∧ m.length ≤ k ∧ b.length ≤ k ∧
    wr.heap[w.heap.size]? = some (.cells #[.map none, .map none] 58 (0, 0)) ∧ wr.heap[w.heap.size + 1 + 1 + 1]? = some (.cells #[.map (some (w.heap.size + 1)), .map (some (w.heap.size + 1 + 1))] 58 (0, 0)) ∧ Below w.heap.size w wr) (fun _ _ _ _ i _ => l.length - (intOf i).toNat)
  case atStart =>
    exact ⟨0, [], [], Nat.zero_le _, rfl, MapIs_new _ _ (ha_lt (ha_lt (ha_at (by simp)))), MapIs_new _ _ (ha_lt (ha_at (by simp))), Lib.hid book_nil, Nat.le_refl _, Nat.le_refl _, ha_lt (ha_lt (ha_lt (ha_at rfl))), ha_at (by simp), ((((Below.refl _ w).alloc (Nat.le_refl _) _).alloc (by simp) _).alloc (by simp; omega) _).alloc (by simp; omega) _⟩
  case round =>
    obtain ⟨k, m, b, hk, rfl, hM, hN, hbk, hml, hbl, hR, hC, hB⟩ := hrel
    by_cases hlt : k < l.length
    · obtain ⟨b', o, rfl, hbo, d0, d1, d2, d3⟩ := (hr.below hB).atVote hlt
      have htk := (List.take_succ_eq_append_getElem hlt)
      obtain ⟨v, hv⟩ : ∃ v, l[k] = v := ⟨_, rfl⟩
      rw [hv] at d0 d1 d2 d3 htk
      have hsame := Lib.hid (fun h => book_same hbk.out v h)
      have hdiff := Lib.hid (fun id h1 h2 => book_diff (id := id) hbk.out v h1 h2)
      have htk' := Lib.hid htk
      clear hv htk hbk
      obtain ⟨c0, c1, _, _⟩ := blk2 hC
      have hW : ∃ W, (wr.alloc (.cells #[.int .i64 v.frm, .int .i64 v.slot, .int .u64 v.head.hi, .int .u64 v.head.lo] 38)).alloc (.cells #[.int .i64 v.frm, .int .i64 v.slot] 61) = W := ⟨_, rfl⟩
      obtain ⟨W, hW⟩ := hW
      have hBW : Below wr.heap.size wr W := by subst hW; exact ((Below.refl _ wr).alloc (Nat.le_refl _) _).alloc (by simp) _
      have x0 : W.heap[wr.heap.size]? = some (.cells #[.int .i64 v.frm, .int .i64 v.slot, .int .u64 v.head.hi, .int .u64 v.head.lo] 38 (0, 0)) := by subst hW; exact ha_lt (ha_at rfl)
      have x1 : W.heap[wr.heap.size + 1]? = some (.cells #[.int .i64 v.frm, .int .i64 v.slot] 61 (0, 0)) := by subst hW; exact ha_at (by simp)
      have hMW := MapIs_below hM hBW
      have hNW := MapIs_below hN hBW
      have hBw := below_call hB hB.size hBW
      have hC1 := bl_own hBW hC
      have hR1 := bl_own hBW hR
      obtain ⟨e0, e1, _, _⟩ := blk2 hC1
      obtain ⟨y0, y1, y2, y3⟩ := blk4 x0
      obtain ⟨z0, z1, _, _⟩ := blk2 x1
      cases hg : mget m ⟨v.frm, v.slot⟩ with
      | none =>
        have hb2 := Lib.hid (hsame.out (.inl hg))
        clear hsame hdiff
        have hB2 : Below W.heap.size W (W.alloc (.cells #[.int .u64 0, .int .u64 0] 29)) := (Below.refl _ W).alloc (Nat.le_refl _) _
        have hM2 := MapIs_below hMW hB2
        have hN2 := MapIs_below hNW hB2
        have hBw2 := below_call hBw hBw.size hB2
        have x2 : (W.alloc (.cells #[.int .u64 0, .int .u64 0] 29)).heap[W.heap.size]? = some (.cells #[.int .u64 0, .int .u64 0] 29 (0, 0)) := ha_at rfl
        have p0 := bl_own hB2 x0
        have p1 := bl_own hB2 x1
        have p2 := bl_own hB2 hC1
        have p3 := bl_own hB2 hR1
        obtain ⟨q0, q1, q2, q3⟩ := blk4 p0
        obtain ⟨q4, q5, _, _⟩ := blk2 p1
        obtain ⟨q6, q7, _, _⟩ := blk2 p2
        have hlr := hB.size
        have hne0 : some wr.heap.size ≠ some (w.heap.size + 1) := fun e => by have := MapIs_lt hM; have e' := Option.some.inj e; omega
        have hne1 : some (wr.heap.size + 1) ≠ some (w.heap.size + 1) := fun e => by have := MapIs_lt hM; have e' := Option.some.inj e; omega
        have hne2 : some W.heap.size ≠ some (w.heap.size + 1) := fun e => by have := MapIs_lt hMW; have e' := Option.some.inj e; omega
        have hne3 : some (w.heap.size + 1 + 1 + 1) ≠ some (w.heap.size + 1) := fun e => by have e' := Option.some.inj e; omega
        have hne4 : some w.heap.size ≠ some (w.heap.size + 1) := fun e => by have e' := Option.some.inj e; omega
        have hne5 : some (w.heap.size + 1 + 1) ≠ some (w.heap.size + 1) := fun e => by have e' := Option.some.inj e; omega
        have hnes := Lib.hid (And.intro hne0 (And.intro hne1 (And.intro hne2 (And.intro hne3 (And.intro hne4 hne5)))))
        clear hne0 hne1 hne2 hne3 hne4 hne5 hlr
        go_wp2_with (first
          | (at_lookup; refine wp_lookup (x := ⟨v.frm, v.slot⟩) rfl rfl KeyD Try.underlying55 (Try.zeroValue29 _) rfl rfl hMW (r := .tuple #[.agg #[.int .u64 0, .int .u64 0], .bool false]) (by rw [hg]; rfl) ?_)
          | (at_mapUpdate; refine wp_update rfl (.inl rfl) KeyD Try.underlying55 rfl (x := dty v) rfl (v := v.head) rfl hM2 ?_; intro w4 hM4 hg4 hz4; obtain ⟨s0, s1, s2, s3⟩ := blk4 (grown_own hg4 p0 hnes.out.1); obtain ⟨s4, s5, _, _⟩ := blk2 (grown_own hg4 p1 hnes.out.2.1); obtain ⟨s6, s7, _, _⟩ := blk2 (grown_own hg4 x2 hnes.out.2.2.1); have hC4 := grown_own hg4 p2 hnes.out.2.2.2.1; have hR4 := grown_own hg4 p3 hnes.out.2.2.2.2.1; have hN4 := MapIs_grown hN2 hg4 hnes.out.2.2.2.2.2; obtain ⟨s8, s9, _, _⟩ := blk2 hC4; have hB4 := below_step hBw2 hBw2.size hg4 (fun q e => by cases e; omega)))
        go_roundw
        case rel => exact ⟨k + 1, mput m (dty v) v.head, b, hlt, by go_num, hM4, hN4, by rw [htk'.out]; exact hb2, Nat.le_trans (mput_len _ _ _) (by omega), by omega, hR4, hC4, hB4⟩
        case measure => simp [intOf]; omega
      | some id =>
        have hneq := neq_idw id v.head
        by_cases hid : id = v.head
        · have hb2 := Lib.hid (hsame.out (.inr (by rw [← hid]; exact hg)))
          have hd : decide (id = v.head) = true := by simpa using hid
          rw [hd] at hneq
          clear hsame hdiff hid hd
          have hB2 : Below W.heap.size W (W.alloc (.cells #[.int .u64 id.hi, .int .u64 id.lo] 29)) := (Below.refl _ W).alloc (Nat.le_refl _) _
          have hM2 := MapIs_below hMW hB2
          have hN2 := MapIs_below hNW hB2
          have hBw2 := below_call hBw hBw.size hB2
          have x2 : (W.alloc (.cells #[.int .u64 id.hi, .int .u64 id.lo] 29)).heap[W.heap.size]? = some (.cells #[.int .u64 id.hi, .int .u64 id.lo] 29 (0, 0)) := ha_at rfl
          have p0 := bl_own hB2 x0
          have p1 := bl_own hB2 x1
          have p2 := bl_own hB2 hC1
          have p3 := bl_own hB2 hR1
          obtain ⟨q0, q1, q2, q3⟩ := blk4 p0
          obtain ⟨q4, q5, _, _⟩ := blk2 p1
          obtain ⟨q6, q7, _, _⟩ := blk2 p2
          have hlr := hB.size
          have hne0 : some wr.heap.size ≠ some (w.heap.size + 1) := fun e => by have := MapIs_lt hM; have e' := Option.some.inj e; omega
          have hne1 : some (wr.heap.size + 1) ≠ some (w.heap.size + 1) := fun e => by have := MapIs_lt hM; have e' := Option.some.inj e; omega
          have hne2 : some W.heap.size ≠ some (w.heap.size + 1) := fun e => by have := MapIs_lt hMW; have e' := Option.some.inj e; omega
          have hne3 : some (w.heap.size + 1 + 1 + 1) ≠ some (w.heap.size + 1) := fun e => by have e' := Option.some.inj e; omega
          have hne4 : some w.heap.size ≠ some (w.heap.size + 1) := fun e => by have e' := Option.some.inj e; omega
          have hne5 : some (w.heap.size + 1 + 1) ≠ some (w.heap.size + 1) := fun e => by have e' := Option.some.inj e; omega
          have hnes := Lib.hid (And.intro hne0 (And.intro hne1 (And.intro hne2 (And.intro hne3 (And.intro hne4 hne5)))))
          clear hne0 hne1 hne2 hne3 hne4 hne5 hlr
          go_wp2_with (first
            | (at_lookup; refine wp_lookup (x := ⟨v.frm, v.slot⟩) rfl rfl KeyD Try.underlying55 (Try.zeroValue29 _) rfl rfl hMW (r := .tuple #[.agg #[.int .u64 id.hi, .int .u64 id.lo], .bool true]) (by rw [hg]; rfl) ?_)
            | (at_mapUpdate; refine wp_update rfl (.inl rfl) KeyD Try.underlying55 rfl (x := dty v) rfl (v := v.head) rfl hM2 ?_; intro w4 hM4 hg4 hz4; obtain ⟨s0, s1, s2, s3⟩ := blk4 (grown_own hg4 p0 hnes.out.1); obtain ⟨s4, s5, _, _⟩ := blk2 (grown_own hg4 p1 hnes.out.2.1); obtain ⟨s6, s7, _, _⟩ := blk2 (grown_own hg4 x2 hnes.out.2.2.1); have hC4 := grown_own hg4 p2 hnes.out.2.2.2.1; have hR4 := grown_own hg4 p3 hnes.out.2.2.2.2.1; have hN4 := MapIs_grown hN2 hg4 hnes.out.2.2.2.2.2; obtain ⟨s8, s9, _, _⟩ := blk2 hC4; have hB4 := below_step hBw2 hBw2.size hg4 (fun q e => by cases e; omega)))
          go_roundw
          case rel => exact ⟨k + 1, mput m (dty v) v.head, b, hlt, by go_num, hM4, hN4, by rw [htk'.out]; exact hb2, Nat.le_trans (mput_len _ _ _) (by omega), by omega, hR4, hC4, hB4⟩
          case measure => simp [intOf]; omega
        · have hb2 := Lib.hid (hdiff.out id hg hid)
          have hd : decide (id = v.head) = false := by simpa using hid
          rw [hd] at hneq
          clear hsame hdiff hid hd
          have hB2 : Below W.heap.size W (W.alloc (.cells #[.int .u64 id.hi, .int .u64 id.lo] 29)) := (Below.refl _ W).alloc (Nat.le_refl _) _
          have hM2 := MapIs_below hMW hB2
          have hN2 := MapIs_below hNW hB2
          have hBw2 := below_call hBw hBw.size hB2
          have x2 : (W.alloc (.cells #[.int .u64 id.hi, .int .u64 id.lo] 29)).heap[W.heap.size]? = some (.cells #[.int .u64 id.hi, .int .u64 id.lo] 29 (0, 0)) := ha_at rfl
          have p0 := bl_own hB2 x0
          have p1 := bl_own hB2 x1
          have p2 := bl_own hB2 hC1
          have p3 := bl_own hB2 hR1
          obtain ⟨q0, q1, q2, q3⟩ := blk4 p0
          obtain ⟨q4, q5, _, _⟩ := blk2 p1
          obtain ⟨q6, q7, _, _⟩ := blk2 p2
          have hlr := hB.size
          have hne0 : some wr.heap.size ≠ some (w.heap.size + 1) := fun e => by have := MapIs_lt hM; have e' := Option.some.inj e; omega
          have hne1 : some (wr.heap.size + 1) ≠ some (w.heap.size + 1) := fun e => by have := MapIs_lt hM; have e' := Option.some.inj e; omega
          have hne2 : some W.heap.size ≠ some (w.heap.size + 1) := fun e => by have := MapIs_lt hMW; have e' := Option.some.inj e; omega
          have hne3 : some (w.heap.size + 1 + 1 + 1) ≠ some (w.heap.size + 1) := fun e => by have e' := Option.some.inj e; omega
          have hne4 : some w.heap.size ≠ some (w.heap.size + 1) := fun e => by have e' := Option.some.inj e; omega
          have hne5 : some (w.heap.size + 1 + 1) ≠ some (w.heap.size + 1) := fun e => by have e' := Option.some.inj e; omega
          have hnes := Lib.hid (And.intro hne0 (And.intro hne1 (And.intro hne2 (And.intro hne3 (And.intro hne4 hne5)))))
          clear hne0 hne1 hne2 hne3 hne4 hne5 hlr
          go_wp2_with (first
            | (at_lookup; refine wp_lookup (x := ⟨v.frm, v.slot⟩) rfl rfl KeyD Try.underlying55 (Try.zeroValue29 _) rfl rfl hMW (r := .tuple #[.agg #[.int .u64 id.hi, .int .u64 id.lo], .bool true]) (by rw [hg]; rfl) ?_)
            | (at_mapUpdate; refine wp_update rfl (.inl rfl) KeyD Try.underlying55 rfl (x := dty v) rfl (v := v.head) rfl hM2 ?_; intro w4 hM4 hg4 hz4; obtain ⟨s0, s1, s2, s3⟩ := blk4 (grown_own hg4 p0 hnes.out.1); obtain ⟨s4, s5, _, _⟩ := blk2 (grown_own hg4 p1 hnes.out.2.1); obtain ⟨s6, s7, _, _⟩ := blk2 (grown_own hg4 x2 hnes.out.2.2.1); have hC4 := grown_own hg4 p2 hnes.out.2.2.2.1; have hR4 := grown_own hg4 p3 hnes.out.2.2.2.2.1; have hN4 := MapIs_grown hN2 hg4 hnes.out.2.2.2.2.2; obtain ⟨s8, s9, _, _⟩ := blk2 hC4; have hB4 := below_step hBw2 hBw2.size hg4 (fun q e => by cases e; omega))
            | (at_mapUpdate; refine wp_update rfl (.inl rfl) KeyD Try.underlying56 rfl (x := dty v) rfl (v := true) rfl hN4 ?_; intro w5 hN5 hg5 hz5; have hM5 := MapIs_grown hM4 hg5 (fun e => by have e' := Option.some.inj e; omega); have hC5 := grown_own hg5 hC4 (fun e => by have e' := Option.some.inj e; omega); have hR5 := grown_own hg5 hR4 (fun e => by have e' := Option.some.inj e; omega); have hB5 := below_step hB4 hB4.size hg5 (fun q e => by cases e; omega)))
          go_roundw
          case rel => exact ⟨k + 1, mput m (dty v) v.head, mput b (dty v) true, hlt, by go_num, hM5, hN5, by rw [htk'.out]; exact hb2, Nat.le_trans (mput_len _ _ _) (by omega), Nat.le_trans (mput_len _ _ _) (by omega), hR5, hC5, hB5⟩
          case measure => simp [intOf]; omega
    · obtain rfl : k = l.length := by omega
      rw [List.take_length] at hbk
      obtain ⟨c0, c1, _, _⟩ := blk2 hC
      obtain ⟨r0, r1, r2, r3⟩ := blk2 hR
      go_wp2_with fail
      have hs := set2 hR (.map (some (w.heap.size + 1))) (.map (some (w.heap.size + 1 + 1)))
      obtain ⟨z0, z1, _, _⟩ := blk2 hs.1
      refine bodyPost_ret (v := .agg #[.map (some (w.heap.size + 1)), .map (some (w.heap.size + 1 + 1))]) ?_ rfl ⟨m, b, w.heap.size + 1, w.heap.size + 1 + 1, rfl, by omega, by omega, MapIs_grown hM hs.2 (fun e => by have e' := Option.some.inj e; omega), MapIs_grown hN hs.2 (fun e => by have e' := Option.some.inj e; omega), hbk.out, hml, hbl, below_step hB hB.size hs.2 (fun q e => by cases e; exact Nat.le_refl _)⟩
      simp [results, Try.results32, go_sem, z0, z1]
end Go.Proofs.Ytkccakaaklemdaa
