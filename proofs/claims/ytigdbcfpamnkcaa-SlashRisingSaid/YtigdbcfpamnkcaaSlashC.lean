/- Whether two votes may not both be, walked to the end. -/
import Derived.Test.YtigdbcfpamnkcaaSlashB
namespace Go.Proofs.Ytigdbcfpamnkcaa
open Go.RowKit
def fnv (k : Nat) : Value := .func (.func k) #[] #[]
/-- What one of three ways tells of two. -/
def wayP (a b : Lnk) : Value → Bool
  | .func (.func k) _ _ => if k = 20 then decide (Spans a b) else if k = 21 then decide (Spans b a) else decide (Twice a b)
  | _ => false
def ways : List Value := [fnv 20, fnv 21, fnv 22]
theorem wayP_0 (a b : Lnk) : wayP a b (fnv 20) = decide (Spans a b) := rfl
theorem wayP_1 (a b : Lnk) : wayP a b (fnv 21) = decide (Spans b a) := rfl
theorem wayP_2 (a b : Lnk) : wayP a b (fnv 22) = decide (Twice a b) := rfl
theorem ways_any (a b : Lnk) : ways.any (wayP a b) = decide (Spans a b ∨ Spans b a ∨ (a ≠ b ∧ a.tgt.epoch = b.tgt.epoch)) := by
  unfold ways
  rw [Bool.eq_iff_iff]
  simp only [List.any_cons, List.any_nil, Bool.or_false, Bool.or_eq_true, wayP_0, wayP_1, wayP_2, decide_eq_true_eq]
  exact Iff.rfl
set_option maxRecDepth 100000 in
set_option maxHeartbeats 1000000 in
theorem s0_any (a b : Lnk) (B1 B2 : Nat) (T1 T2 : TypeId) (w : World) (h1 : w.heap[B1]? = some (.cells #[.int .i64 a.frm, .int .i64 a.src.epoch, .int .u64 a.src.root.hi, .int .u64 a.src.root.lo, .int .i64 a.tgt.epoch, .int .u64 a.tgt.root.hi, .int .u64 a.tgt.root.lo] T1 (0, 0))) (h2 : w.heap[B2]? = some (.cells #[.int .i64 b.frm, .int .i64 b.src.epoch, .int .u64 b.src.root.hi, .int .u64 b.src.root.lo, .int .i64 b.tgt.epoch, .int .u64 b.tgt.root.hi, .int .u64 b.tgt.root.lo] T2 (0, 0))) :
    Calls Try.prog 27 #[fnv 20, .pointer (some ⟨B1, 0, none⟩), .pointer (some ⟨B2, 0, none⟩)] w fun e w' => e = .returned (.bool (decide (Spans a b))) ∧ Below w.heap.size w w' := by
  have hs := fun V => spans_any a b V
  unfold lnkv at hs
  unfold fnv
  obtain ⟨q, hq⟩ : ∃ q, decide (Spans a b) = q := ⟨_, rfl⟩
  rw [hq] at hs ⊢
  clear hq
  obtain ⟨c0, c1, c2, c3, c4, c5, c6⟩ := blkL h1
  obtain ⟨d0, d1, d2, d3, d4, d5, d6⟩ := blkL h2
  go_enter Try.func27, Try.ntmps27
  go_wp2_with (go_at_call 20; with_reducible refine (hs _).mono ?_; clear hs; rintro e w1 ⟨rfl, hb1⟩)
  go_ret
  exact ⟨rfl, hb1⟩
set_option maxRecDepth 100000 in
set_option maxHeartbeats 1000000 in
theorem s1_any (a b : Lnk) (B1 B2 : Nat) (T1 T2 : TypeId) (w : World) (h1 : w.heap[B1]? = some (.cells #[.int .i64 a.frm, .int .i64 a.src.epoch, .int .u64 a.src.root.hi, .int .u64 a.src.root.lo, .int .i64 a.tgt.epoch, .int .u64 a.tgt.root.hi, .int .u64 a.tgt.root.lo] T1 (0, 0))) (h2 : w.heap[B2]? = some (.cells #[.int .i64 b.frm, .int .i64 b.src.epoch, .int .u64 b.src.root.hi, .int .u64 b.src.root.lo, .int .i64 b.tgt.epoch, .int .u64 b.tgt.root.hi, .int .u64 b.tgt.root.lo] T2 (0, 0))) :
    Calls Try.prog 27 #[fnv 21, .pointer (some ⟨B1, 0, none⟩), .pointer (some ⟨B2, 0, none⟩)] w fun e w' => e = .returned (.bool (decide (Spans b a))) ∧ Below w.heap.size w w' := by
  have hs := fun V => spanned_any a b V
  unfold lnkv at hs
  unfold fnv
  obtain ⟨q, hq⟩ : ∃ q, decide (Spans b a) = q := ⟨_, rfl⟩
  rw [hq] at hs ⊢
  clear hq
  obtain ⟨c0, c1, c2, c3, c4, c5, c6⟩ := blkL h1
  obtain ⟨d0, d1, d2, d3, d4, d5, d6⟩ := blkL h2
  go_enter Try.func27, Try.ntmps27
  go_wp2_with (go_at_call 21; with_reducible refine (hs _).mono ?_; clear hs; rintro e w1 ⟨rfl, hb1⟩)
  go_ret
  exact ⟨rfl, hb1⟩
set_option maxRecDepth 100000 in
set_option maxHeartbeats 1000000 in
theorem s2_any (a b : Lnk) (B1 B2 : Nat) (T1 T2 : TypeId) (w : World) (h1 : w.heap[B1]? = some (.cells #[.int .i64 a.frm, .int .i64 a.src.epoch, .int .u64 a.src.root.hi, .int .u64 a.src.root.lo, .int .i64 a.tgt.epoch, .int .u64 a.tgt.root.hi, .int .u64 a.tgt.root.lo] T1 (0, 0))) (h2 : w.heap[B2]? = some (.cells #[.int .i64 b.frm, .int .i64 b.src.epoch, .int .u64 b.src.root.hi, .int .u64 b.src.root.lo, .int .i64 b.tgt.epoch, .int .u64 b.tgt.root.hi, .int .u64 b.tgt.root.lo] T2 (0, 0))) :
    Calls Try.prog 27 #[fnv 22, .pointer (some ⟨B1, 0, none⟩), .pointer (some ⟨B2, 0, none⟩)] w fun e w' => e = .returned (.bool (decide (Twice a b))) ∧ Below w.heap.size w w' := by
  have hs := fun V => twice_any a b V
  unfold lnkv at hs
  unfold fnv
  obtain ⟨q, hq⟩ : ∃ q, decide (Twice a b) = q := ⟨_, rfl⟩
  rw [hq] at hs ⊢
  clear hq
  obtain ⟨c0, c1, c2, c3, c4, c5, c6⟩ := blkL h1
  obtain ⟨d0, d1, d2, d3, d4, d5, d6⟩ := blkL h2
  go_enter Try.func27, Try.ntmps27
  go_wp2_with (go_at_call 22; with_reducible refine (hs _).mono ?_; clear hs; rintro e w1 ⟨rfl, hb1⟩)
  go_ret
  exact ⟨rfl, hb1⟩
theorem way_any (a b : Lnk) (B1 B2 : Nat) (T1 T2 : TypeId) (w : World) (h1 : w.heap[B1]? = some (.cells #[.int .i64 a.frm, .int .i64 a.src.epoch, .int .u64 a.src.root.hi, .int .u64 a.src.root.lo, .int .i64 a.tgt.epoch, .int .u64 a.tgt.root.hi, .int .u64 a.tgt.root.lo] T1 (0, 0))) (h2 : w.heap[B2]? = some (.cells #[.int .i64 b.frm, .int .i64 b.src.epoch, .int .u64 b.src.root.hi, .int .u64 b.src.root.lo, .int .i64 b.tgt.epoch, .int .u64 b.tgt.root.hi, .int .u64 b.tgt.root.lo] T2 (0, 0))) (f : Value) (hf : f ∈ ways) :
    Calls Try.prog 27 #[f, .pointer (some ⟨B1, 0, none⟩), .pointer (some ⟨B2, 0, none⟩)] w fun e w' => e = .returned (.bool (wayP a b f)) ∧ Below w.heap.size w w' := by
  unfold ways at hf
  simp only [List.mem_cons, List.not_mem_nil, or_false] at hf
  rcases hf with rfl | rfl | rfl
  · rw [wayP_0]; exact s0_any a b B1 B2 T1 T2 w h1 h2
  · rw [wayP_1]; exact s1_any a b B1 B2 T1 T2 w h1 h2
  · rw [wayP_2]; exact s2_any a b B1 B2 T1 T2 w h1 h2
set_option maxRecDepth 100000 in
set_option maxHeartbeats 1000000 in
theorem some_any (a b : Lnk) (A : Option Addr) (c : Nat) (w : World) (hr : Rd 1 encF w A ways) :
    Calls Try.prog 19 #[lnkv a, lnkv b, .slice A 3 c] w fun e w' => e = .returned (.bool (decide (Spans a b ∨ Spans b a ∨ (a ≠ b ∧ a.tgt.epoch = b.tgt.epoch)))) ∧ Below w.heap.size w w' := by
  unfold lnkv
  have hW : ∃ W, ((w.alloc (.cells #[.int .i64 a.frm, .int .i64 a.src.epoch, .int .u64 a.src.root.hi, .int .u64 a.src.root.lo, .int .i64 a.tgt.epoch, .int .u64 a.tgt.root.hi, .int .u64 a.tgt.root.lo] 46)).alloc (.cells #[.int .i64 b.frm, .int .i64 b.src.epoch, .int .u64 b.src.root.hi, .int .u64 b.src.root.lo, .int .i64 b.tgt.epoch, .int .u64 b.tgt.root.hi, .int .u64 b.tgt.root.lo] 46)) = W := ⟨_, rfl⟩
  obtain ⟨W, hW⟩ := hW
  have hB : Below w.heap.size w W := by subst hW; exact (((Below.refl _ w).alloc (by simp) _).alloc (by simp) _)
  have b0 : W.heap[w.heap.size]? = some (.cells #[.int .i64 a.frm, .int .i64 a.src.epoch, .int .u64 a.src.root.hi, .int .u64 a.src.root.lo, .int .i64 a.tgt.epoch, .int .u64 a.tgt.root.hi, .int .u64 a.tgt.root.lo] 46 (0, 0)) := by subst hW; exact ha_lt (ha_at (by simp))
  obtain ⟨c0, c1, c2, c3, c4, c5, c6⟩ := blkL b0
  have b1 : W.heap[w.heap.size + 1]? = some (.cells #[.int .i64 b.frm, .int .i64 b.src.epoch, .int .u64 b.src.root.hi, .int .u64 b.src.root.lo, .int .i64 b.tgt.epoch, .int .u64 b.tgt.root.hi, .int .u64 b.tgt.root.lo] 46 (0, 0)) := by subst hW; exact ha_at (by simp)
  obtain ⟨d0, d1, d2, d3, d4, d5, d6⟩ := blkL b1
  have hc := fany_any (wayP a b) ways A c (.pointer (some ⟨w.heap.size, 0, none⟩)) (.pointer (some ⟨w.heap.size + 1, 0, none⟩)) W (hr.below hB) (fun f hf V hV => way_any a b _ _ _ _ V (bl_own hV b0) (bl_own hV b1) f hf)
  rw [ways_any, show ways.length = 3 from rfl] at hc
  obtain ⟨q, hq⟩ : ∃ q, decide (Spans a b ∨ Spans b a ∨ (a ≠ b ∧ a.tgt.epoch = b.tgt.epoch)) = q := ⟨_, rfl⟩
  rw [hq] at hc ⊢
  clear hq
  go_enter Try.func19, Try.ntmps19
  go_wp2_with (go_at_call 26; with_reducible refine hc.mono ?_; clear hc; rintro e w1 ⟨rfl, hb1⟩)
  go_ret
  exact ⟨rfl, below_call hB hB.size hb1⟩
theorem pair_and {a b : Lnk} {q : Bool} (h : q = decide (Spans a b ∨ Spans b a ∨ (a ≠ b ∧ a.tgt.epoch = b.tgt.epoch))) (he : a.frm = b.frm) : q = decide (Pair a b) := by
  rw [h, Bool.eq_iff_iff, decide_eq_true_iff, decide_eq_true_iff]
  unfold Pair
  exact ⟨fun h => ⟨he, h⟩, fun h => h.2⟩
theorem pair_no {a b : Lnk} (he : ¬ a.frm = b.frm) : false = decide (Pair a b) := by
  rw [Bool.eq_iff_iff, decide_eq_true_iff]
  unfold Pair
  simp [he]
set_option maxRecDepth 100000 in
set_option maxHeartbeats 1000000 in
theorem pair_any (a b : Lnk) (w : World) : Calls Try.prog 12 #[lnkv a, lnkv b] w fun e w' => e = .returned (.bool (decide (Pair a b))) ∧ Below w.heap.size w w' := by
  have hs := fun V A c (hR : Rd 1 encF V A ways) => some_any a b A c V hR
  unfold lnkv at *
  have hW : ∃ W, ((w.alloc (.cells #[.int .i64 a.frm, .int .i64 a.src.epoch, .int .u64 a.src.root.hi, .int .u64 a.src.root.lo, .int .i64 a.tgt.epoch, .int .u64 a.tgt.root.hi, .int .u64 a.tgt.root.lo] 28)).alloc (.cells #[.int .i64 b.frm, .int .i64 b.src.epoch, .int .u64 b.src.root.hi, .int .u64 b.src.root.lo, .int .i64 b.tgt.epoch, .int .u64 b.tgt.root.hi, .int .u64 b.tgt.root.lo] 28)) = W := ⟨_, rfl⟩
  obtain ⟨W, hW⟩ := hW
  have hB : Below w.heap.size w W := by subst hW; exact (((Below.refl _ w).alloc (by simp) _).alloc (by simp) _)
  have b0 : W.heap[w.heap.size]? = some (.cells #[.int .i64 a.frm, .int .i64 a.src.epoch, .int .u64 a.src.root.hi, .int .u64 a.src.root.lo, .int .i64 a.tgt.epoch, .int .u64 a.tgt.root.hi, .int .u64 a.tgt.root.lo] 28 (0, 0)) := by subst hW; exact ha_lt (ha_at (by simp))
  obtain ⟨c0, c1, c2, c3, c4, c5, c6⟩ := blkL b0
  have b1 : W.heap[w.heap.size + 1]? = some (.cells #[.int .i64 b.frm, .int .i64 b.src.epoch, .int .u64 b.src.root.hi, .int .u64 b.src.root.lo, .int .i64 b.tgt.epoch, .int .u64 b.tgt.root.hi, .int .u64 b.tgt.root.lo] 28 (0, 0)) := by subst hW; exact ha_at (by simp)
  obtain ⟨d0, d1, d2, d3, d4, d5, d6⟩ := blkL b1
  by_cases he : a.frm = b.frm
  · obtain ⟨q, hq⟩ : ∃ q, decide (Spans a b ∨ Spans b a ∨ (a ≠ b ∧ a.tgt.epoch = b.tgt.epoch)) = q := ⟨_, rfl⟩
    simp only [hq] at hs
    have hp := Lib.hid (pair_and hq.symm he)
    have hd : (a.frm == b.frm) = true := by simpa using he
    clear hq he
    have hR : Rd 1 encF (W.alloc (.cells #[fnv 20, fnv 21, fnv 22] 47)) (some ⟨W.heap.size, 0, none⟩) ways :=
      Rd_flat (k := 1) (enc := encF) (xs := ways) (fun _ => rfl) (by decide) (ha_at rfl) rfl
    have hs' := hs _ _ 3 hR
    unfold fnv at hs'
    clear hs hR
    have hB2 := hB.alloc hB.size (.cells #[fnv 20, fnv 21, fnv 22] 47)
    unfold fnv at hB2
    go_enter Try.func12, Try.ntmps12
    go_wp2_with (go_at_call 19; with_reducible refine hs'.mono ?_; clear hs'; rintro e w1 ⟨rfl, hb1⟩)
    go_ret
    exact ⟨ret_bool hp.out, below_call hB2 hB2.size hb1⟩
  · have hd : (a.frm == b.frm) = false := by simpa using he
    have hp := Lib.hid (pair_no he)
    clear he hs
    go_enter Try.func12, Try.ntmps12
    go_wp2_with fail
    go_ret
    exact ⟨ret_bool hp.out, hB⟩
set_option maxRecDepth 100000 in
set_option maxHeartbeats 1000000 in
theorem rpair_any (a b : Lnk) (w : World) : Calls Try.prog 9 #[lnkv a, lnkv b] w fun e w' => e = .returned (.bool (decide (Pair a b))) ∧ Below w.heap.size w w' := by
  have hs := fun V => rspans_any a b V
  have hs2 := fun V => rspans_any b a V
  have hne := neq_lnkw a b
  unfold lnkv at *
  have hW : ∃ W, ((w.alloc (.cells #[.int .i64 a.frm, .int .i64 a.src.epoch, .int .u64 a.src.root.hi, .int .u64 a.src.root.lo, .int .i64 a.tgt.epoch, .int .u64 a.tgt.root.hi, .int .u64 a.tgt.root.lo] 28)).alloc (.cells #[.int .i64 b.frm, .int .i64 b.src.epoch, .int .u64 b.src.root.hi, .int .u64 b.src.root.lo, .int .i64 b.tgt.epoch, .int .u64 b.tgt.root.hi, .int .u64 b.tgt.root.lo] 28)) = W := ⟨_, rfl⟩
  obtain ⟨W, hW⟩ := hW
  have hB : Below w.heap.size w W := by subst hW; exact (((Below.refl _ w).alloc (by simp) _).alloc (by simp) _)
  have b0 : W.heap[w.heap.size]? = some (.cells #[.int .i64 a.frm, .int .i64 a.src.epoch, .int .u64 a.src.root.hi, .int .u64 a.src.root.lo, .int .i64 a.tgt.epoch, .int .u64 a.tgt.root.hi, .int .u64 a.tgt.root.lo] 28 (0, 0)) := by subst hW; exact ha_lt (ha_at (by simp))
  obtain ⟨c0, c1, c2, c3, c4, c5, c6⟩ := blkL b0
  have b1 : W.heap[w.heap.size + 1]? = some (.cells #[.int .i64 b.frm, .int .i64 b.src.epoch, .int .u64 b.src.root.hi, .int .u64 b.src.root.lo, .int .i64 b.tgt.epoch, .int .u64 b.tgt.root.hi, .int .u64 b.tgt.root.lo] 28 (0, 0)) := by subst hW; exact ha_at (by simp)
  obtain ⟨d0, d1, d2, d3, d4, d5, d6⟩ := blkL b1
  by_cases he : a.frm = b.frm
  · have hd : (a.frm == b.frm) = true := by simpa using he
    have hd2 : (a.frm != b.frm) = false := by simpa using he
    obtain ⟨q1, hq1⟩ : ∃ q, decide (Spans a b) = q := ⟨_, rfl⟩
    obtain ⟨q2, hq2⟩ : ∃ q, decide (Spans b a) = q := ⟨_, rfl⟩
    obtain ⟨q3, hq3⟩ : ∃ q, decide (a = b) = q := ⟨_, rfl⟩
    obtain ⟨q4, hq4⟩ : ∃ q, (a.tgt.epoch == b.tgt.epoch) = q := ⟨_, rfl⟩
    have hres : (q1 || (q2 || (!q3 && q4))) = decide (Pair a b) := by
      rw [← hq1, ← hq2, ← hq3, ← hq4, Bool.eq_iff_iff]
      simp [Pair, he]
    simp only [hq1] at hs
    simp only [hq2] at hs2
    simp only [hq3] at hne
    have hres' := Lib.hid hres
    clear hq1 hq2 hq3 hres he
    cases q1 <;> cases q2 <;> cases q3 <;> cases q4
    all_goals
      go_enter Try.func9, Try.ntmps9
      go_wp2_with (first
        | (go_at_call 14; with_reducible refine (hs _).mono ?_; clear hs; rintro e w1 ⟨rfl, hb1⟩; have hB1 := below_call hB hB.size hb1; obtain ⟨c0', c1', c2', c3', c4', c5', c6'⟩ := blkL (bl_own hb1 b0); obtain ⟨d0', d1', d2', d3', d4', d5', d6'⟩ := blkL (bl_own hb1 b1); have b0' := bl_own hb1 b0; have b1' := bl_own hb1 b1)
        | (go_at_call 14; with_reducible refine (hs2 _).mono ?_; clear hs2; rintro e w2 ⟨rfl, hb2⟩; have hB2 := below_call hB1 hB1.size hb2; obtain ⟨c0'', c1'', c2'', c3'', c4'', c5'', c6''⟩ := blkL (bl_own hb2 b0'); obtain ⟨d0'', d1'', d2'', d3'', d4'', d5'', d6''⟩ := blkL (bl_own hb2 b1')))
      go_ret
      exact ⟨ret_bool hres'.out, hB2⟩
  · have hd : (a.frm == b.frm) = false := by simpa using he
    have hd2 : (a.frm != b.frm) = true := by simpa using he
    have hp := Lib.hid (pair_no he)
    clear he hs hs2
    go_enter Try.func9, Try.ntmps9
    go_wp2_with fail
    go_ret
    exact ⟨ret_bool hp.out, hB⟩
end Go.Proofs.Ytigdbcfpamnkcaa
