/- HE: several texts in one. -/
import Derived.Test.YtdocgemfedohdaaHD
import Derived.Test.YtdocgemfedohdaaHA
import Derived.Test.YtdocgemfedohdaaShelf
import Derived.Lib.RowBridge
import Derived.Laws.AppendOwnNone
/-! Whether two votes may not both be, walked to the end. -/
namespace Go.Proofs.Ytdocgemfedohdaa
open Go.RowKit
def fnv (k : Nat) : Value := .func (.func k) #[] #[]
/-- What one of three ways tells of two. -/
def wayP (a b : Lnk) : Value → Bool
  | .func (.func k) _ _ => if k = 72 then decide (Spans a b) else if k = 73 then decide (Spans b a) else decide (Twice a b)
  | _ => false
def ways : List Value := [fnv 72, fnv 73, fnv 74]
theorem wayP_0 (a b : Lnk) : wayP a b (fnv 72) = decide (Spans a b) := rfl
theorem wayP_1 (a b : Lnk) : wayP a b (fnv 73) = decide (Spans b a) := rfl
theorem wayP_2 (a b : Lnk) : wayP a b (fnv 74) = decide (Twice a b) := rfl
theorem ways_any (a b : Lnk) : ways.any (wayP a b) = decide (Spans a b ∨ Spans b a ∨ (a ≠ b ∧ a.tgt.epoch = b.tgt.epoch)) := by
  unfold ways
  rw [Bool.eq_iff_iff]
  simp only [List.any_cons, List.any_nil, Bool.or_false, Bool.or_eq_true, wayP_0, wayP_1, wayP_2, decide_eq_true_eq]
  exact Iff.rfl
set_option maxRecDepth 100000 in
set_option maxHeartbeats 1000000 in
theorem s0_any (a b : Lnk) (B1 B2 : Nat) (T1 T2 : TypeId) (w : World) (h1 : w.heap[B1]? = some (.cells #[.int .i64 a.frm, .int .i64 a.src.epoch, .int .u64 a.src.root.hi, .int .u64 a.src.root.lo, .int .i64 a.tgt.epoch, .int .u64 a.tgt.root.hi, .int .u64 a.tgt.root.lo] T1 (0, 0))) (h2 : w.heap[B2]? = some (.cells #[.int .i64 b.frm, .int .i64 b.src.epoch, .int .u64 b.src.root.hi, .int .u64 b.src.root.lo, .int .i64 b.tgt.epoch, .int .u64 b.tgt.root.hi, .int .u64 b.tgt.root.lo] T2 (0, 0))) :
    Calls Try.prog 93 #[fnv 72, .pointer (some ⟨B1, 0, none⟩), .pointer (some ⟨B2, 0, none⟩)] w fun e w' => e = .returned (.bool (decide (Spans a b))) ∧ Below w.heap.size w w' := by
  have hs := fun V => spans_any a b V
  unfold lnkv at hs
  unfold fnv
  obtain ⟨q, hq⟩ : ∃ q, decide (Spans a b) = q := ⟨_, rfl⟩
  rw [hq] at hs ⊢
  clear hq
  obtain ⟨c0, c1, c2, c3, c4, c5, c6⟩ := blkL h1
  obtain ⟨d0, d1, d2, d3, d4, d5, d6⟩ := blkL h2
  go_enter Try.func93, Try.ntmps93
  go_wp2_with (go_at_call 72; with_reducible refine (hs _).mono ?_; clear hs; rintro e w1 ⟨rfl, hb1⟩)
  go_ret
  exact ⟨rfl, hb1⟩
set_option maxRecDepth 100000 in
set_option maxHeartbeats 1000000 in
theorem s1_any (a b : Lnk) (B1 B2 : Nat) (T1 T2 : TypeId) (w : World) (h1 : w.heap[B1]? = some (.cells #[.int .i64 a.frm, .int .i64 a.src.epoch, .int .u64 a.src.root.hi, .int .u64 a.src.root.lo, .int .i64 a.tgt.epoch, .int .u64 a.tgt.root.hi, .int .u64 a.tgt.root.lo] T1 (0, 0))) (h2 : w.heap[B2]? = some (.cells #[.int .i64 b.frm, .int .i64 b.src.epoch, .int .u64 b.src.root.hi, .int .u64 b.src.root.lo, .int .i64 b.tgt.epoch, .int .u64 b.tgt.root.hi, .int .u64 b.tgt.root.lo] T2 (0, 0))) :
    Calls Try.prog 93 #[fnv 73, .pointer (some ⟨B1, 0, none⟩), .pointer (some ⟨B2, 0, none⟩)] w fun e w' => e = .returned (.bool (decide (Spans b a))) ∧ Below w.heap.size w w' := by
  have hs := fun V => spanned_any a b V
  unfold lnkv at hs
  unfold fnv
  obtain ⟨q, hq⟩ : ∃ q, decide (Spans b a) = q := ⟨_, rfl⟩
  rw [hq] at hs ⊢
  clear hq
  obtain ⟨c0, c1, c2, c3, c4, c5, c6⟩ := blkL h1
  obtain ⟨d0, d1, d2, d3, d4, d5, d6⟩ := blkL h2
  go_enter Try.func93, Try.ntmps93
  go_wp2_with (go_at_call 73; with_reducible refine (hs _).mono ?_; clear hs; rintro e w1 ⟨rfl, hb1⟩)
  go_ret
  exact ⟨rfl, hb1⟩
set_option maxRecDepth 100000 in
set_option maxHeartbeats 1000000 in
theorem s2_any (a b : Lnk) (B1 B2 : Nat) (T1 T2 : TypeId) (w : World) (h1 : w.heap[B1]? = some (.cells #[.int .i64 a.frm, .int .i64 a.src.epoch, .int .u64 a.src.root.hi, .int .u64 a.src.root.lo, .int .i64 a.tgt.epoch, .int .u64 a.tgt.root.hi, .int .u64 a.tgt.root.lo] T1 (0, 0))) (h2 : w.heap[B2]? = some (.cells #[.int .i64 b.frm, .int .i64 b.src.epoch, .int .u64 b.src.root.hi, .int .u64 b.src.root.lo, .int .i64 b.tgt.epoch, .int .u64 b.tgt.root.hi, .int .u64 b.tgt.root.lo] T2 (0, 0))) :
    Calls Try.prog 93 #[fnv 74, .pointer (some ⟨B1, 0, none⟩), .pointer (some ⟨B2, 0, none⟩)] w fun e w' => e = .returned (.bool (decide (Twice a b))) ∧ Below w.heap.size w w' := by
  have hs := fun V => twice_any a b V
  unfold lnkv at hs
  unfold fnv
  obtain ⟨q, hq⟩ : ∃ q, decide (Twice a b) = q := ⟨_, rfl⟩
  rw [hq] at hs ⊢
  clear hq
  obtain ⟨c0, c1, c2, c3, c4, c5, c6⟩ := blkL h1
  obtain ⟨d0, d1, d2, d3, d4, d5, d6⟩ := blkL h2
  go_enter Try.func93, Try.ntmps93
  go_wp2_with (go_at_call 74; with_reducible refine (hs _).mono ?_; clear hs; rintro e w1 ⟨rfl, hb1⟩)
  go_ret
  exact ⟨rfl, hb1⟩
theorem way_any (a b : Lnk) (B1 B2 : Nat) (T1 T2 : TypeId) (w : World) (h1 : w.heap[B1]? = some (.cells #[.int .i64 a.frm, .int .i64 a.src.epoch, .int .u64 a.src.root.hi, .int .u64 a.src.root.lo, .int .i64 a.tgt.epoch, .int .u64 a.tgt.root.hi, .int .u64 a.tgt.root.lo] T1 (0, 0))) (h2 : w.heap[B2]? = some (.cells #[.int .i64 b.frm, .int .i64 b.src.epoch, .int .u64 b.src.root.hi, .int .u64 b.src.root.lo, .int .i64 b.tgt.epoch, .int .u64 b.tgt.root.hi, .int .u64 b.tgt.root.lo] T2 (0, 0))) (f : Value) (hf : f ∈ ways) :
    Calls Try.prog 93 #[f, .pointer (some ⟨B1, 0, none⟩), .pointer (some ⟨B2, 0, none⟩)] w fun e w' => e = .returned (.bool (wayP a b f)) ∧ Below w.heap.size w w' := by
  unfold ways at hf
  simp only [List.mem_cons, List.not_mem_nil, or_false] at hf
  rcases hf with rfl | rfl | rfl
  · rw [wayP_0]; exact s0_any a b B1 B2 T1 T2 w h1 h2
  · rw [wayP_1]; exact s1_any a b B1 B2 T1 T2 w h1 h2
  · rw [wayP_2]; exact s2_any a b B1 B2 T1 T2 w h1 h2
set_option maxRecDepth 100000 in
set_option maxHeartbeats 1000000 in
theorem some_any (a b : Lnk) (A : Option Addr) (c : Nat) (w : World) (hr : Rd 1 encWy w A ways) :
    Calls Try.prog 71 #[lnkv a, lnkv b, .slice A 3 c] w fun e w' => e = .returned (.bool (decide (Spans a b ∨ Spans b a ∨ (a ≠ b ∧ a.tgt.epoch = b.tgt.epoch)))) ∧ Below w.heap.size w w' := by
  unfold lnkv
  have hW : ∃ W, ((w.alloc (.cells #[.int .i64 a.frm, .int .i64 a.src.epoch, .int .u64 a.src.root.hi, .int .u64 a.src.root.lo, .int .i64 a.tgt.epoch, .int .u64 a.tgt.root.hi, .int .u64 a.tgt.root.lo] 100)).alloc (.cells #[.int .i64 b.frm, .int .i64 b.src.epoch, .int .u64 b.src.root.hi, .int .u64 b.src.root.lo, .int .i64 b.tgt.epoch, .int .u64 b.tgt.root.hi, .int .u64 b.tgt.root.lo] 100)) = W := ⟨_, rfl⟩
  obtain ⟨W, hW⟩ := hW
  have hB : Below w.heap.size w W := by subst hW; exact (((Below.refl _ w).alloc (by simp) _).alloc (by simp) _)
  have b0 : W.heap[w.heap.size]? = some (.cells #[.int .i64 a.frm, .int .i64 a.src.epoch, .int .u64 a.src.root.hi, .int .u64 a.src.root.lo, .int .i64 a.tgt.epoch, .int .u64 a.tgt.root.hi, .int .u64 a.tgt.root.lo] 100 (0, 0)) := by subst hW; exact ha_lt (ha_at (by simp))
  obtain ⟨c0, c1, c2, c3, c4, c5, c6⟩ := blkL b0
  have b1 : W.heap[w.heap.size + 1]? = some (.cells #[.int .i64 b.frm, .int .i64 b.src.epoch, .int .u64 b.src.root.hi, .int .u64 b.src.root.lo, .int .i64 b.tgt.epoch, .int .u64 b.tgt.root.hi, .int .u64 b.tgt.root.lo] 100 (0, 0)) := by subst hW; exact ha_at (by simp)
  obtain ⟨d0, d1, d2, d3, d4, d5, d6⟩ := blkL b1
  have hc := fany_any (wayP a b) ways A c (.pointer (some ⟨w.heap.size, 0, none⟩)) (.pointer (some ⟨w.heap.size + 1, 0, none⟩)) W (hr.below hB) (fun f hf V hV => way_any a b _ _ _ _ V (bl_own hV b0) (bl_own hV b1) f hf)
  rw [ways_any, show ways.length = 3 from rfl] at hc
  obtain ⟨q, hq⟩ : ∃ q, decide (Spans a b ∨ Spans b a ∨ (a ≠ b ∧ a.tgt.epoch = b.tgt.epoch)) = q := ⟨_, rfl⟩
  rw [hq] at hc ⊢
  clear hq
  go_enter Try.func71, Try.ntmps71
  go_wp2_with (go_at_call 92; with_reducible refine hc.mono ?_; clear hc; rintro e w1 ⟨rfl, hb1⟩)
  go_ret
  exact ⟨rfl, below_call hB hB.size hb1⟩
theorem pair_and {a b : Lnk} {q : Bool} (h : q = decide (Spans a b ∨ Spans b a ∨ (a ≠ b ∧ a.tgt.epoch = b.tgt.epoch))) (he : a.frm = b.frm) : q = decide (Pair a b) := by
  rw [h, Bool.eq_iff_iff, decide_eq_true_iff, decide_eq_true_iff]
  unfold Pair
  exact ⟨fun h => ⟨he, h⟩, fun h => h.2⟩
theorem pair_no {a b : Lnk} (he : ¬ a.frm = b.frm) : false = decide (Pair a b) := by
  rw [Bool.eq_iff_iff, decide_eq_true_iff]
  unfold Pair
  simp [he]
set_option maxRecDepth 100000 in
set_option maxHeartbeats 1000000 in
theorem pair_any (a b : Lnk) (w : World) : Calls Try.prog 49 #[lnkv a, lnkv b] w fun e w' => e = .returned (.bool (decide (Pair a b))) ∧ Below w.heap.size w w' := by
  have hs := fun V A c (hR : Rd 1 encWy V A ways) => some_any a b A c V hR
  unfold lnkv at *
  have hW : ∃ W, ((w.alloc (.cells #[.int .i64 a.frm, .int .i64 a.src.epoch, .int .u64 a.src.root.hi, .int .u64 a.src.root.lo, .int .i64 a.tgt.epoch, .int .u64 a.tgt.root.hi, .int .u64 a.tgt.root.lo] 33)).alloc (.cells #[.int .i64 b.frm, .int .i64 b.src.epoch, .int .u64 b.src.root.hi, .int .u64 b.src.root.lo, .int .i64 b.tgt.epoch, .int .u64 b.tgt.root.hi, .int .u64 b.tgt.root.lo] 33)) = W := ⟨_, rfl⟩
  obtain ⟨W, hW⟩ := hW
  have hB : Below w.heap.size w W := by subst hW; exact (((Below.refl _ w).alloc (by simp) _).alloc (by simp) _)
  have b0 : W.heap[w.heap.size]? = some (.cells #[.int .i64 a.frm, .int .i64 a.src.epoch, .int .u64 a.src.root.hi, .int .u64 a.src.root.lo, .int .i64 a.tgt.epoch, .int .u64 a.tgt.root.hi, .int .u64 a.tgt.root.lo] 33 (0, 0)) := by subst hW; exact ha_lt (ha_at (by simp))
  obtain ⟨c0, c1, c2, c3, c4, c5, c6⟩ := blkL b0
  have b1 : W.heap[w.heap.size + 1]? = some (.cells #[.int .i64 b.frm, .int .i64 b.src.epoch, .int .u64 b.src.root.hi, .int .u64 b.src.root.lo, .int .i64 b.tgt.epoch, .int .u64 b.tgt.root.hi, .int .u64 b.tgt.root.lo] 33 (0, 0)) := by subst hW; exact ha_at (by simp)
  obtain ⟨d0, d1, d2, d3, d4, d5, d6⟩ := blkL b1
  by_cases he : a.frm = b.frm
  · obtain ⟨q, hq⟩ : ∃ q, decide (Spans a b ∨ Spans b a ∨ (a ≠ b ∧ a.tgt.epoch = b.tgt.epoch)) = q := ⟨_, rfl⟩
    simp only [hq] at hs
    have hp := Lib.hid (pair_and hq.symm he)
    have hd : (a.frm == b.frm) = true := by simpa using he
    clear hq he
    have hR : Rd 1 encWy (W.alloc (.cells #[fnv 72, fnv 73, fnv 74] 101)) (some ⟨W.heap.size, 0, none⟩) ways :=
      Rd_flat (k := 1) (enc := encWy) (xs := ways) (fun _ => rfl) (by decide) (ha_at rfl) rfl
    have hs' := hs _ _ 3 hR
    unfold fnv at hs'
    clear hs hR
    have hB2 := hB.alloc hB.size (.cells #[fnv 72, fnv 73, fnv 74] 101)
    unfold fnv at hB2
    go_enter Try.func49, Try.ntmps49
    go_wp2_with (go_at_call 71; with_reducible refine hs'.mono ?_; clear hs'; rintro e w1 ⟨rfl, hb1⟩)
    go_ret
    exact ⟨ret_bool hp.out, below_call hB2 hB2.size hb1⟩
  · have hd : (a.frm == b.frm) = false := by simpa using he
    have hp := Lib.hid (pair_no he)
    clear he hs
    go_enter Try.func49, Try.ntmps49
    go_wp2_with fail
    go_ret
    exact ⟨ret_bool hp.out, hB⟩
end Go.Proofs.Ytdocgemfedohdaa
/-! Whether one of many votes is held against one, walked. -/
namespace Go.Proofs.Ytdocgemfedohdaa
open Go.RowKit
set_option maxRecDepth 100000 in
set_option maxHeartbeats 1000000 in
theorem held_any (a b : Lnk) (B : Nat) (T : TypeId) (w : World) (h1 : w.heap[B]? = some (.cells #[.int .i64 a.frm, .int .i64 a.src.epoch, .int .u64 a.src.root.hi, .int .u64 a.src.root.lo, .int .i64 a.tgt.epoch, .int .u64 a.tgt.root.hi, .int .u64 a.tgt.root.lo] T (0, 0))) :
    Calls Try.prog 51 #[lnkv b, .pointer (some ⟨B, 0, none⟩)] w fun e w' => e = .returned (.bool (decide (Pair a b))) ∧ Below w.heap.size w w' := by
  have hs := fun V => pair_any a b V
  unfold lnkv at *
  obtain ⟨q, hq⟩ : ∃ q, decide (Pair a b) = q := ⟨_, rfl⟩
  simp only [hq] at hs ⊢
  clear hq
  have hW : ∃ W, (w.alloc (.cells #[.int .i64 b.frm, .int .i64 b.src.epoch, .int .u64 b.src.root.hi, .int .u64 b.src.root.lo, .int .i64 b.tgt.epoch, .int .u64 b.tgt.root.hi, .int .u64 b.tgt.root.lo] 33)) = W := ⟨_, rfl⟩
  obtain ⟨W, hW⟩ := hW
  have hB : Below w.heap.size w W := by subst hW; exact (Below.refl _ w).alloc (by simp) _
  have b0 : W.heap[w.heap.size]? = some (.cells #[.int .i64 b.frm, .int .i64 b.src.epoch, .int .u64 b.src.root.hi, .int .u64 b.src.root.lo, .int .i64 b.tgt.epoch, .int .u64 b.tgt.root.hi, .int .u64 b.tgt.root.lo] 33 (0, 0)) := by subst hW; exact ha_at rfl
  obtain ⟨c0, c1, c2, c3, c4, c5, c6⟩ := blkL b0
  obtain ⟨d0, d1, d2, d3, d4, d5, d6⟩ := blkL (bl_own hB h1)
  go_enter Try.func51, Try.ntmps51
  go_wp2_with (go_at_call 49; with_reducible refine (hs _).mono ?_; clear hs; rintro e w1 ⟨rfl, hb1⟩)
  go_ret
  exact ⟨rfl, below_call hB hB.size hb1⟩
set_option maxRecDepth 100000 in
set_option maxHeartbeats 1000000 in
theorem lidx_any (p : Lnk → Bool) (xs : List Lnk) (A : Option Addr) (c : Nat) (p1 : Value) (w : World) (hr : Rd 7 encLnk w A xs)
    (h : ∀ x ∈ xs, ∀ V, Below w.heap.size w V → Calls Try.prog 51 #[lnkv x, p1] V fun e V' => e = .returned (.bool (p x)) ∧ Below V.heap.size V V') :
    Calls Try.prog 75 #[.slice A xs.length c, .func (.func 51) #[] #[p1]] w fun e w' =>
      e = .returned (.int .i64 (idxP p xs)) ∧ Below w.heap.size w w' := by
  have hm := hr.1
  have hh := Lib.hid h
  clear h
  go_enter Try.func75, Try.ntmps75
  go_wp2_with fail
  go_loopw [5, 8] (fun u5 i wr => ∃ k : Nat, k ≤ xs.length ∧ i = .int .i64 k ∧ Hid ((xs.take k).any p = false) ∧ Below w.heap.size w wr) (fun _ i _ => xs.length - (intOf i).toNat)
  case atStart => exact ⟨0, Nat.zero_le _, rfl, Lib.hid (by simp), Below.refl _ _⟩
  case round =>
    obtain ⟨k, hk, rfl, hno, hB⟩ := hrel
    by_cases hlt : k < xs.length
    · obtain ⟨b, o, rfl, hbo, d0, d1, d2, d3, d4, d5, d6⟩ := (hr.below hB).atL hlt
      have hst := Lib.hid (fun e => any_step hlt hno.out e)
      have hst2 := Lib.hid (fun e => idxP_at hlt hno.out e)
      have hc := Lib.hid (hh.out xs[k] (List.getElem_mem hlt))
      obtain ⟨f, hf⟩ : ∃ f, xs[k] = f := ⟨_, rfl⟩
      have hst' := Lib.hid (show p f = false → (xs.take (k + 1)).any p = false from hf ▸ hst.out)
      have hst2' := Lib.hid (show p f = true → idxP p xs = k from hf ▸ hst2.out)
      have hc' := Lib.hid (show ∀ V, Below w.heap.size w V → Calls Try.prog 51 #[lnkv f, p1] V fun e V' => e = .returned (.bool (p f)) ∧ Below V.heap.size V V' from hf ▸ hc.out)
      clear hst hst2 hc
      rw [hf] at d0 d1 d2 d3 d4 d5 d6
      clear hf
      cases hp : p f with
      | true =>
        have hx := Lib.hid (hst2'.out hp)
        have hcc := hc'.out _ hB
        rw [hp] at hcc
        unfold lnkv at hcc
        clear hp hst' hst2' hc'
        go_wp2_with (go_at_call 51; with_reducible refine hcc.mono ?_; clear hcc; rintro e w1 ⟨rfl, hb1⟩)
        go_ret
        exact ⟨ret_int hx.out.symm, below_call hB hB.size hb1⟩
      | false =>
        have hx := Lib.hid (hst'.out hp)
        have hcc := hc'.out _ hB
        rw [hp] at hcc
        unfold lnkv at hcc
        clear hp hst' hst2' hc'
        go_wp2_with (go_at_call 51; with_reducible refine hcc.mono ?_; clear hcc; rintro e w1 ⟨rfl, hb1⟩)
        go_roundw
        case rel => exact ⟨k + 1, hlt, by go_num, hx, below_call hB hB.size hb1⟩
        case measure => simp [intOf]; omega
    · obtain rfl : k = xs.length := by omega
      have hx := Lib.hid (show idxP p xs = -1 from idxP_none (by have := hno.out; rwa [List.take_length] at this))
      go_wp2_with fail
      go_ret
      exact ⟨ret_int hx.out.symm, hB⟩
set_option maxRecDepth 100000 in
set_option maxHeartbeats 1000000 in
theorem lany_any (p : Lnk → Bool) (xs : List Lnk) (A : Option Addr) (c : Nat) (p1 : Value) (w : World) (hr : Rd 7 encLnk w A xs)
    (h : ∀ x ∈ xs, ∀ V, Below w.heap.size w V → Calls Try.prog 51 #[lnkv x, p1] V fun e V' => e = .returned (.bool (p x)) ∧ Below V.heap.size V V') :
    Calls Try.prog 50 #[.slice A xs.length c, .func (.func 51) #[] #[p1]] w fun e w' =>
      e = .returned (.bool (xs.any p)) ∧ Below w.heap.size w w' := by
  have hm := hr.1
  have hc := lidx_any p xs A c p1 w hr h
  have hg := idxP_geq (p := p) xs
  clear h
  obtain ⟨r, hr'⟩ : ∃ r, idxP p xs = r := ⟨_, rfl⟩
  rw [hr'] at hc hg
  have hg' := Lib.hid hg
  clear hr' hg
  go_enter Try.func50, Try.ntmps50
  go_wp2_with (go_at_call 75; with_reducible refine hc.mono ?_; clear hc; rintro e w1 ⟨rfl, hb1⟩)
  go_ret
  exact ⟨ret_bool hg'.out, hb1⟩
end Go.Proofs.Ytdocgemfedohdaa
/-! slices.Sort and slices.Compact of ints, of a slice of the call's own. -/
namespace Go.Proofs.Ytdocgemfedohdaa
open Go.RowKit
theorem encI_flat (l : List Int) : l.flatMap encI = l.map (Value.int .i64) := by
  induction l with
  | nil => rfl
  | cons x l ih => simp [encI, ih]
theorem Own.block {α : Type} {w : World} {base : Nat} {e : TypeId} {k : Nat} {enc : α → List Value} {v : Value} {xs : List α} (h : Own w base e k enc v xs) :
    (v = .slice none 0 0 ∧ xs = []) ∨ ∃ g cap cur, v = .slice (some ⟨g, 0, none⟩) xs.length cap ∧ base ≤ g ∧ w.heap[g]? = some (.cells cur e (0, 0)) ∧ xs.length ≤ cap ∧ cap ≤ maxLen ∧ cur.size = cap * k ∧ cur.toList.take (xs.length * k) = xs.flatMap enc := by
  rcases h.2 with ⟨h1, h2⟩ | h2
  · exact .inl ⟨h1, List.eq_nil_of_length_eq_zero h2⟩
  · exact .inr h2
/-- The cells of an owned row of ints. -/
theorem Own.holdsI {w : World} {e : TypeId} {g : Nat} {cur : Array Value} {l : List Int} (hh : w.heap[g]? = some (.cells cur e (0, 0))) (ht : cur.toList.take (l.length * 1) = l.flatMap encI) :
    Sort.Holds (Value.int .i64) w g 0 l.toArray := by
  intro j hj
  have hj' : j < l.length := by simpa using hj
  refine ⟨?_, by simp [World.frozen?, hh]⟩
  rw [Nat.zero_add, blk_cell hh j]
  rw [encI_flat, Nat.mul_one] at ht
  have h1 : (cur.toList.take l.length)[j]? = some (.int .i64 l[j]) := by rw [ht]; simp [hj']
  rw [List.getElem?_take_of_lt hj'] at h1
  rw [getElem!_pos _ j hj]
  simpa using h1
theorem putRow_heap {w : World} {g : Nat} {cur : Array Value} {e : TypeId} (hh : w.heap[g]? = some (.cells cur e (0, 0))) (d : Array Int) (n : Nat) (os : Array Obj) :
    (Sort.grow (Sort.putRow (Value.int .i64) (Sort.ahead w n) g 0 d) os).heap[g]? = some (.cells (Sort.putCells (Value.int .i64) 0 d cur) e (0, 0)) := by
  have hlt := lt_of_block hh
  rw [Sort.heap_grow_old _ _ (by simpa using hlt)]
  simp [Sort.putRow, Sort.mapBlock, Array.getElem?_modify, hh, Sort.onCells]
theorem putRow_other {w : World} {g k : Nat} (hk : k < w.heap.size) (hne : k ≠ g) (d : Array Int) (n : Nat) (os : Array Obj) :
    (Sort.grow (Sort.putRow (Value.int .i64) (Sort.ahead w n) g 0 d) os).heap[k]? = w.heap[k]? := by
  rw [Sort.heap_grow_old _ _ (by simpa using hk)]
  simp [Sort.putRow, Sort.mapBlock, Array.getElem?_modify, Ne.symm hne]
theorem putCells_take {cur : Array Value} {d : List Int} (h : d.length ≤ cur.size) : (Sort.putCells (Value.int .i64) 0 d.toArray cur).toList.take d.length = d.map (Value.int .i64) := by
  apply List.ext_getElem?
  intro j
  rw [List.getElem?_take]
  by_cases hj : j < d.length
  · have hc : j < cur.size := by omega
    simp [Sort.putCells, hj, hc]
  · simp [hj]
/-- An owned row over which other ints are laid. -/
theorem Own.relaid {w : World} {base : Nat} {e : TypeId} {g cap : Nat} {cur : Array Value} (hb : base ≤ g) (hh : w.heap[g]? = some (.cells cur e (0, 0))) (hm : cap ≤ maxLen) (hs : cur.size = cap * 1) (d : List Int) (hd : d.length ≤ cap) (m : Nat) (hmd : m ≤ d.length) (n : Nat) (os : Array Obj) :
    Own (Sort.grow (Sort.putRow (Value.int .i64) (Sort.ahead w n) g 0 d.toArray) os) base e 1 encI (.slice (some ⟨g, 0, none⟩) m cap) (d.take m) := by
  have hml : (d.take m).length = m := by simp; omega
  refine ⟨by rw [encI_flat]; simp, .inr ⟨g, cap, _, by rw [hml], hb, putRow_heap hh _ n os, by omega, hm, by simp [Sort.putCells, hs], ?_⟩⟩
  have ht := putCells_take (cur := cur) (d := d) (by omega)
  rw [hml, encI_flat, Nat.mul_one, List.map_take, ← ht, List.take_take, Nat.min_eq_left hmd]
theorem grownBy_putRow {w : World} {g : Nat} (d : Array Int) (n : Nat) (os : Array Obj) : w.grownBy (Sort.grow (Sort.putRow (Value.int .i64) (Sort.ahead w n) g 0 d) os) (some g) :=
  ⟨rfl, rfl, rfl, by simp, fun k hk hne => putRow_other hk (fun e => hne (by rw [e])) d n os⟩
def isort (l : List Int) : List Int := l.mergeSort fun x y => decide (x ≤ y)
theorem isort_len (l : List Int) : (isort l).length = l.length := List.length_mergeSort _
theorem mem_isort {l : List Int} {x : Int} : x ∈ isort l ↔ x ∈ l := List.mem_mergeSort
theorem isort_le (l : List Int) : (isort l).Pairwise (· ≤ ·) := by
  have := List.pairwise_mergeSort (le := fun (x y : Int) => decide (x ≤ y)) (by intro a b c; simp; omega) (by intro a b; simp; omega) l
  exact this.imp (by simp)
theorem isort_perm (l : List Int) : (isort l).Perm l := List.mergeSort_perm _ _
theorem isort_any (l : List Int) (v : Value) (base : Nat) (w : World) (hown : Own w base 3 1 encI v l) (hl : l.length < 4611686018427387904) :
    Calls Try.prog 52 #[v] w fun e w' => e = .returned (.tuple #[]) ∧ Own w' base 3 1 encI v (isort l) ∧ w.grownBy w' v.ownBlock := by
  rcases hown.block with ⟨rfl, rfl⟩ | ⟨g, cap, cur, rfl, hb, hh, hle, hm, hs, ht⟩
  · refine (sh_slices_Sort_int_none none 0 w).mono fun e w' ⟨he, hw⟩ => ?_
    subst hw
    exact ⟨he, by rw [show isort [] = [] by simp [isort]]; exact Own.nil _ _ _ _ _, rfl, rfl, rfl, Nat.le_refl _, fun _ _ _ => rfl⟩
  · refine (sh_slices_Sort_int g 0 cap l w (Own.holdsI hh ht) (lt_of_block hh) hl).mono fun e w' ⟨he, n, os, hw⟩ => ?_
    subst hw
    refine ⟨he, ?_, grownBy_putRow _ n os⟩
    have := Own.relaid hb hh hm hs (isort l) (by rw [isort_len]; exact hle) l.length (by rw [isort_len]; exact Nat.le_refl _) n os
    rw [List.take_of_length_le (by rw [isort_len]; exact Nat.le_refl _)] at this
    exact this
open Go.Lib in
theorem icompact_any (l : List Int) (v : Value) (base : Nat) (w : World) (hown : Own w base 3 1 encI v l) (hl : l.length < 4611686018427387904) :
    Calls Try.prog 53 #[v] w fun e w' => ∃ v', e = .returned v' ∧ Own w' base 3 1 encI v' (Lib.compact l) ∧ w.grownBy w' v.ownBlock ∧ v'.ownBlock = v.ownBlock := by
  have hcl := Lib.compact_length_le l
  rcases hown.block with ⟨rfl, rfl⟩ | ⟨g, cap, cur, rfl, hb, hh, hle, hm, hs, ht⟩
  · refine (sh_slices_Compact_int_empty none 0 w).mono fun e w' ⟨he, hw⟩ => ?_
    subst hw
    exact ⟨_, he, Own.nil _ _ _ _ _, ⟨rfl, rfl, rfl, Nat.le_refl _, fun _ _ _ => rfl⟩, rfl⟩
  · refine (sh_slices_Compact_int g 0 cap l w (Own.holdsI hh ht) (by omega) hle).mono fun e w' ⟨he, n, hw⟩ => ?_
    subst hw
    refine ⟨_, he, ?_, ?_, rfl⟩
    · have := Own.relaid hb hh hm hs (Lib.compact l ++ List.replicate (l.length - (Lib.compact l).length) 0) (by simp; omega) (Lib.compact l).length (by simp) n #[]
      rw [List.take_left] at this
      simpa using this
    · have := grownBy_putRow (w := w) (g := g) (Lib.compact l ++ List.replicate (l.length - (Lib.compact l).length) 0).toArray n #[]
      rw [Sort.grow_empty] at this
      exact this
end Go.Proofs.Ytdocgemfedohdaa
/-! Who is guilty, as numbers that rise (the plain law). -/
namespace Go.Proofs.Ytdocgemfedohdaa
theorem rises_snoc {l : List Int} {x : Int} (h : Rises l) (hx : ∀ y ∈ l, y < x) : Rises (l ++ [x]) := by
  induction l with
  | nil => exact ⟨by simp, trivial⟩
  | cons y l ih =>
    refine ⟨fun z hz => ?_, ih h.2 (fun z hz => hx z (by simp [hz]))⟩
    rcases List.mem_append.1 hz with hz | hz
    · exact h.1 z hz
    · simp only [List.mem_singleton] at hz; subst hz; exact hx y (by simp)
theorem compactUpTo_rises (d : Array Int) (n : Nat) (hs : ∀ i j, i ≤ j → j < n → d[i]! ≤ d[j]!) : ∀ m, m ≤ n → Rises (Lib.compactUpTo d m) ∧ ∀ x, x ∈ Lib.compactUpTo d m ↔ ∃ j, j < m ∧ d[j]! = x
  | 0, _ => ⟨by simp [Lib.compactUpTo, Rises], by simp [Lib.compactUpTo]⟩
  | m + 1, hm => by
    obtain ⟨h1, h2⟩ := compactUpTo_rises d n hs m (by omega)
    rw [Lib.compactUpTo_succ]
    by_cases hk : m = 0 ∨ d[m]! ≠ d[m - 1]!
    · have hkeep : Lib.keeps d m = true := by simpa [Lib.keeps] using hk
      rw [if_pos hkeep]
      refine ⟨rises_snoc h1 (fun y hy => ?_), fun x => ?_⟩
      · obtain ⟨j, hj, rfl⟩ := (h2 y).1 hy
        rcases hk with hk | hk
        · omega
        · have a := hs j (m - 1) (by omega) (by omega)
          have b := hs (m - 1) m (by omega) (by omega)
          omega
      · rw [List.mem_append, List.mem_singleton, h2]
        constructor
        · rintro (⟨j, hj, rfl⟩ | rfl)
          · exact ⟨j, by omega, rfl⟩
          · exact ⟨m, by omega, rfl⟩
        · rintro ⟨j, hj, rfl⟩
          rcases Nat.lt_or_ge j m with h | h
          · exact .inl ⟨j, h, rfl⟩
          · obtain rfl : j = m := by omega
            exact .inr rfl
    · have hkeep : Lib.keeps d m = false := by
        have := hk
        simp only [not_or, Classical.not_not] at this
        exact Lib.keeps_neg (by omega) this.2
      rw [hkeep]
      simp only [Bool.false_eq_true, if_false, List.append_nil]
      refine ⟨h1, fun x => ?_⟩
      rw [h2]
      constructor
      · rintro ⟨j, hj, rfl⟩; exact ⟨j, by omega, rfl⟩
      · rintro ⟨j, hj, rfl⟩
        rcases Nat.lt_or_ge j m with h | h
        · exact ⟨j, h, rfl⟩
        · obtain rfl : j = m := by omega
          simp only [not_or, Classical.not_not] at hk
          exact ⟨j - 1, by omega, hk.2.symm⟩
/-- Sorted, and each once. -/
def setup (l : List Int) : List Int := Lib.compact (isort l)
theorem setup_rises (l : List Int) : Rises (setup l) ∧ ∀ x, x ∈ setup l ↔ x ∈ l := by
  have hp := isort_le l
  have hs : ∀ i j, i ≤ j → j < (isort l).length → (isort l).toArray[i]! ≤ (isort l).toArray[j]! := by
    intro i j hij hj
    rcases Nat.lt_or_ge i j with h | h
    · rw [getElem!_pos _ i (by simp; omega), getElem!_pos _ j (by simpa using hj)]
      have := List.pairwise_iff_getElem.1 hp i j (by omega) hj h
      simpa using this
    · obtain rfl : i = j := by omega
      exact Int.le_refl _
  obtain ⟨h1, h2⟩ := compactUpTo_rises (isort l).toArray (isort l).length hs _ (Nat.le_refl _)
  refine ⟨h1, fun x => (h2 x).trans ?_⟩
  rw [← mem_isort (l := l), List.mem_iff_getElem]
  constructor
  · rintro ⟨j, hj, rfl⟩
    exact ⟨j, hj, by rw [getElem!_pos _ j (by simpa using hj)]; simp⟩
  · rintro ⟨j, hj, rfl⟩
    exact ⟨j, hj, by rw [getElem!_pos _ j (by simpa using hj)]; simp⟩
/-- Those that are found looking back: of the first k. -/
def backs (v : List Lnk) : Nat → List Int
  | 0 => []
  | k + 1 => backs v k ++ (match v[k]? with | some a => if (v.take k).any (fun b => decide (Pair a b)) then [a.frm] else [] | none => [])
theorem mem_backs {v : List Lnk} {f : Int} : ∀ k, k ≤ v.length → (f ∈ backs v k ↔ ∃ i, ∃ h : i < v.length, i < k ∧ (∃ x ∈ v.take i, Pair v[i] x) ∧ v[i].frm = f)
  | 0, _ => by simp [backs]
  | k + 1, hk => by
    have hlt : k < v.length := hk
    rw [backs, List.mem_append, mem_backs k (by omega), List.getElem?_eq_getElem hlt]
    simp only [List.any_eq_true, decide_eq_true_eq]
    constructor
    · rintro (⟨i, h, hi, hx⟩ | h)
      · exact ⟨i, h, by omega, hx⟩
      · by_cases hx : ∃ x ∈ v.take k, Pair v[k] x
        · rw [if_pos hx] at h
          simp only [List.mem_singleton] at h
          exact ⟨k, hlt, by omega, hx, h.symm⟩
        · rw [if_neg hx] at h; cases h
    · rintro ⟨i, h, hi, hx, hf⟩
      rcases Nat.lt_or_ge i k with h' | h'
      · exact .inl ⟨i, h, h', hx, hf⟩
      · obtain rfl : i = k := by omega
        exact .inr (by rw [if_pos hx]; simp [hf])
theorem backs_len (v : List Lnk) : ∀ k, (backs v k).length ≤ k
  | 0 => by simp [backs]
  | k + 1 => by
    have := backs_len v k
    rw [backs, List.length_append]
    cases v[k]? with
    | none => simp; omega
    | some a => simp only; split <;> simp <;> omega
/-- Who is guilty. -/
def guiltyL (v : List Lnk) : List Int := setup (backs v v.length)
theorem guiltyL_is (v : List Lnk) : IsGuilty v (guiltyL v) := by
  obtain ⟨h1, h2⟩ := setup_rises (backs v v.length)
  refine ⟨h1, fun f => (h2 f).trans ?_⟩
  rw [mem_backs _ (Nat.le_refl _), guilt_back]
  constructor
  · rintro ⟨i, h, _, hx⟩; exact ⟨i, h, hx⟩
  · rintro ⟨i, h, hx⟩; exact ⟨i, h, h, hx⟩
theorem guiltyL_len (v : List Lnk) : (guiltyL v).length ≤ v.length := by
  have h1 := backs_len v v.length
  have h2 := Lib.compact_length_le (isort (backs v v.length))
  rw [isort_len] at h2
  unfold guiltyL setup
  omega
theorem guiltyL_eq {v : List Lnk} {g : List Int} (h : IsGuilty v g) : g = guiltyL v := guilty_uniq h (guiltyL_is v)
end Go.Proofs.Ytdocgemfedohdaa
/-! slash.Guilty, walked. -/
namespace Go.Proofs.Ytdocgemfedohdaa
open Go.RowKit
theorem backs_succ {v : List Lnk} {k : Nat} (hlt : k < v.length) : backs v (k + 1) = backs v k ++ (if (v.take k).any (fun b => decide (Pair v[k] b)) then [v[k].frm] else []) := by
  rw [backs, List.getElem?_eq_getElem hlt]
set_option maxRecDepth 100000 in
set_option maxHeartbeats 2000000 in
theorem guilty_any (v : List Lnk) (A : Option Addr) (c : Nat) (w : World) (hr : Rd 7 encLnk w A v) (hc : v.length ≤ c) (hcm : c ≤ maxLen) (hl : v.length ≤ 100000) :
    Calls Try.prog 27 #[.slice A v.length c] w fun e w' => ∃ u, e = .returned u ∧ Own w' w.heap.size 3 1 encI u (guiltyL v) ∧ Below w.heap.size w w' := by
  have hm := hr.1
  unfold maxLen at hcm
  have hun := Try.underlying22
  have hsort := fun V u l (ho : Own V w.heap.size 3 1 encI u l) h => isort_any l u w.heap.size V ho h
  have hcomp := fun V u l (ho : Own V w.heap.size 3 1 encI u l) h => icompact_any l u w.heap.size V ho h
  have hfin := Lib.hid (show guiltyL v = Lib.compact (isort (backs v v.length)) from rfl)
  go_enter Try.func27, Try.ntmps27
  go_wp2_with fail
  go_loopw [3, 4, 5, 8] (fun u _u4 _u5 i wr => ∃ k : Nat, k ≤ v.length ∧ i = .int .i64 k ∧ Own wr w.heap.size 3 1 encI u (backs v k) ∧ Below w.heap.size w wr) (fun _ _ _ i _ => v.length - (intOf i).toNat)
  case atStart => exact ⟨0, Nat.zero_le _, rfl, Own.nil _ _ _ _ _, Below.refl _ _⟩
  case round =>
    obtain ⟨k, hk, rfl, hown, hB⟩ := hrel
    by_cases hlt : k < v.length
    · obtain ⟨b, o, rfl, hbo, d0, d1, d2, d3, d4, d5, d6⟩ := (hr.below hB).atL hlt
      have hsn := backs_succ hlt
      have hbl := backs_len v k
      have hvb : ∀ j, u3.ownBlock = some j → w.heap.size ≤ j := fun j hj => (hown.base j hj).1
      obtain ⟨a, ha⟩ : ∃ a, v[k] = a := ⟨_, rfl⟩
      rw [ha] at d0 d1 d2 d3 d4 d5 d6 hsn
      clear ha
      have hW : ∃ W, wr.alloc (.cells #[.int .i64 a.frm, .int .i64 a.src.epoch, .int .u64 a.src.root.hi, .int .u64 a.src.root.lo, .int .i64 a.tgt.epoch, .int .u64 a.tgt.root.hi, .int .u64 a.tgt.root.lo] 33) = W := ⟨_, rfl⟩
      obtain ⟨W, hW⟩ := hW
      have hBW : Below wr.heap.size wr W := by subst hW; exact (Below.refl _ _).alloc (Nat.le_refl _) _
      have hBw := below_call hB hB.size hBW
      have hblk : W.heap[wr.heap.size]? = some (.cells #[.int .i64 a.frm, .int .i64 a.src.epoch, .int .u64 a.src.root.hi, .int .u64 a.src.root.lo, .int .i64 a.tgt.epoch, .int .u64 a.tgt.root.hi, .int .u64 a.tgt.root.lo] 33 (0, 0)) := by subst hW; exact ha_at rfl
      have hcall := lany_any (fun y => decide (Pair a y)) (v.take k) (some ⟨b, o, none⟩) c (.pointer (some ⟨wr.heap.size, 0, none⟩)) W ((hr.below hBw).take k) (fun x _ V hV => held_any a x wr.heap.size 33 V (bl_own hV hblk))
      rw [List.length_take, Nat.min_eq_left hk] at hcall
      have hcap : k ≤ c := by omega
      have hownW := hown.below hBW
      rw [← hW] at hcall
      cases hany : (v.take k).any (fun y => decide (Pair a y)) with
      | true =>
        rw [hany] at hcall
        rw [hany, if_pos rfl] at hsn
        have hsn' := Lib.hid hsn
        have hW' := Lib.hid hW
        clear hsn hany hW
        go_wp2_with (first
          | (go_at_call 50; with_reducible refine hcall.mono ?_; clear hcall; rintro e w1 ⟨rfl, hb1⟩; rw [hW'.out] at hb1; have hB1 := below_call hBw hBw.size hb1; obtain ⟨c0, c1, c2, c3, c4, c5, c6⟩ := blkL (bl_own hb1 hblk); have ho1 := hownW.below hb1; have hW2 : Below w1.heap.size w1 (w1.alloc (.cells #[.int .i64 a.frm] 3)) := (Below.refl _ w1).alloc (Nat.le_refl _) _; have ho2 := ho1.below hW2; have hB2 := below_call hB1 hB1.size hW2)
          | (at_builtin; refine wp_append1 rfl rfl hun infoI rfl (by decide) encI_len encI_one rfl ho2 (g := w1.heap.size) (c := 1) rfl (y := a.frm) (ha_at rfl) rfl (by omega) (by unfold maxLen; omega) hB2.size ?_; intro v' w5 ho5 hg5 hat5))
        go_roundw
        case rel => exact ⟨k + 1, hlt, by go_num, by rw [hsn'.out]; exact ho5, below_step hB2 hB2.size hg5 hvb⟩
        case measure => simp [intOf]; omega
      | false =>
        rw [hany] at hcall
        rw [hany, if_neg (by decide), List.append_nil] at hsn
        have hsn' := Lib.hid hsn
        have hW' := Lib.hid hW
        clear hsn hany hW
        go_wp2_with (go_at_call 50; with_reducible refine hcall.mono ?_; clear hcall; rintro e w1 ⟨rfl, hb1⟩; rw [hW'.out] at hb1; have hB1 := below_call hBw hBw.size hb1; have ho1 := hownW.below hb1)
        go_roundw
        case rel => exact ⟨k + 1, hlt, by go_num, by rw [hsn'.out]; exact ho1, hB1⟩
        case measure => simp [intOf]; omega
    · obtain rfl : k = v.length := by omega
      have hbl := backs_len v v.length
      have hs1 := hsort _ _ _ hown (by omega)
      have hvb : ∀ j, u3.ownBlock = some j → w.heap.size ≤ j := fun j hj => (hown.base j hj).1
      go_wp2_with (first
        | (go_at_call 52; with_reducible refine hs1.mono ?_; clear hs1; rintro e w1 ⟨rfl, ho1, hg1⟩; have hB1 := below_step hB hB.size hg1 hvb; have hs2 := hcomp _ _ _ ho1 (by rw [isort_len]; omega))
        | (go_at_call 53; with_reducible refine hs2.mono ?_; clear hs2; rintro e w2 ⟨v', rfl, ho2, hg2, he2⟩; have hB2 := below_step hB1 hB1.size hg2 hvb))
      go_ret
      exact ⟨_, rfl, by rw [hfin.out]; exact ho2, hB2⟩
end Go.Proofs.Ytdocgemfedohdaa
/-! append(own, s...) for a whole slice. -/
namespace Go.Proofs.Ytdocgemfedohdaa
open Go.RowKit
theorem flatMap_len {α : Type} {k : Nat} {enc : α → List Value} (hk : ∀ x, (enc x).length = k) (ys : List α) : (ys.flatMap enc).length = ys.length * k := by
  induction ys with
  | nil => simp
  | cons y ys ih => simp only [List.flatMap_cons, List.length_append, hk, ih, List.length_cons, Nat.succ_mul]; omega
theorem Rd.cellAt {α : Type} {k : Nat} {enc : α → List Value} (hk : ∀ x, (enc x).length = k) (hk0 : 0 < k) {w : World} {b o : Nat} {ys : List α} (h : Rd k enc w (some ⟨b, o, none⟩) ys) (j : Nat) (u : Value) (hu : (ys.flatMap enc)[j]? = some u) : w.cell? ⟨b, o + j, none⟩ = some u := by
  have hlt : j < ys.length * k := by rw [← flatMap_len hk]; exact (List.getElem?_eq_some_iff.1 hu).1
  have hi : j / k < ys.length := Nat.div_lt_of_lt_mul (by rwa [Nat.mul_comm])
  have hr : j % k < k := Nat.mod_lt _ hk0
  obtain ⟨b', o', he, _, hc⟩ := h.at hi
  cases he
  have hrk : j % k < (enc ys[j / k]).length := by rw [hk]; exact hr
  have hu' : (enc ys[j / k])[j % k]? = some (enc ys[j / k])[j % k] := List.getElem?_eq_getElem hrk
  have h1 := flatMap_get hk ys (j / k) _ (List.getElem?_eq_getElem hi) (j % k) _ hu'
  have hd : j / k * k + j % k = j := by rw [Nat.mul_comm]; exact Nat.div_add_mod j k
  rw [hd, hu] at h1
  have h2 := hc (j % k) _ hu'
  rw [Nat.add_assoc, hd] at h2
  rw [h2, h1]
section
variable {α : Type} {P : Program} {ops : Array Oper} {rest : List Oper} {o : Oper} {a : Act} {Q : Exit → Act → World → Prop}
theorem addr_add' (b o j : Nat) : (⟨b, o, none⟩ : Addr).add j = ⟨b, o + j, none⟩ := by unfold Addr.add; split <;> simp_all
theorem wp_append_all {enc : α → List Value} {k base : Nat} {w : World} (hgd : o.guard = none) {s x : Operand} {t e : TypeId} (ho : o.op = .call { callee := .builtin .append, args := #[s, x], argTypes := #[t, t] })
    (ht : P.underlying t = some (.slice e)) {z : Value} {bytes : Nat} (hinfo : (P.info? e).map (fun i => (i.zero, i.size, i.bytes)) = some (some z, k, bytes)) (hz : z.cells.size = k) (hk0 : 0 < k) (hk : ∀ x, (enc x).length = k) (h1 : ∀ x, ∀ u ∈ enc x, u.oneCell' = true)
    {v : Value} {xs : List α} (hs : a.eval s = v) (hown : Own w base e k enc v xs) {A : Option Addr} {c : Nat} {ys : List α} (hx : a.eval x = .slice A ys.length c) (hA : A = none → c = 0) (hR : Rd k enc w A ys)
    (hb : (xs.length + ys.length) * bytes ≤ 140737488355328) (hl : xs.length + ys.length ≤ maxLen) (hbase : base ≤ w.heap.size)
    (h : ∀ v' w', Own w' base e k enc v' (xs ++ ys) → w.grownBy w' v.ownBlock → (v'.ownBlock = v.ownBlock ∨ v'.ownBlock = some w.heap.size) → wpList P ops Q rest (a.put o.dst v') w') : wpList P ops Q (o :: rest) a w := by
  obtain ⟨i0, hi, hz0, hz1, hz2⟩ := info_parts hinfo
  cases A with
  | none =>
    have hys : ys = [] := by
      rcases Classical.em (ys = []) with e | e
      · exact e
      · obtain ⟨b, o, hA', _⟩ := hR.2 e
        cases hA'
    subst hys
    obtain rfl := hA rfl
    refine wpList_append_own_none (w := w) hgd s x t ho base e i0 k ht hi v xs.length _ hs hown hx ?_
    exact h v w (by simpa using hown) ⟨rfl, rfl, rfl, Nat.le_refl _, fun _ _ _ => rfl⟩ (.inl rfl)
  | some ad =>
    refine wpList_append_own_at (w := w) hgd s x t ho base e i0 z k bytes ht hi hz0 hz1 hz2 hz hk0 v xs.length _ hs hown ad ys.length c (ys.flatMap enc) hx (flatMap_len hk ys) (fun j u hu => ?_) (fun u hu => ?_) hl hb hbase (fun v' w' h2 h3 _ h4 => h v' w' ?_ h3 h4)
    · have hne : ys ≠ [] := fun e => by subst e; simp at hu
      obtain ⟨b, o, hA', _⟩ := hR.2 hne
      cases hA'
      rw [addr_add']
      exact hR.cellAt hk hk0 j u hu
    · obtain ⟨y, _, hy⟩ := List.mem_flatMap.1 hu
      exact h1 y u hy
    · show w'.ownsRow _ _ _ _ _ _
      rw [List.length_append, List.flatMap_append]
      exact h2
/-- The same as one step of a region that draws its order. -/
theorem step_append_all {enc : α → List Value} {k base : Nat} {w : World} {K : Act → World → Prop} {E : Prop} (hgd : o.guard = none) {s x : Operand} {t e : TypeId} (ho : o.op = .call { callee := .builtin .append, args := #[s, x], argTypes := #[t, t] })
    (ht : P.underlying t = some (.slice e)) {z : Value} {bytes : Nat} (hinfo : (P.info? e).map (fun i => (i.zero, i.size, i.bytes)) = some (some z, k, bytes)) (hz : z.cells.size = k) (hk0 : 0 < k) (hk : ∀ x, (enc x).length = k) (h1 : ∀ x, ∀ u ∈ enc x, u.oneCell' = true)
    {v : Value} {xs : List α} (hs : a.eval s = v) (hown : Own w base e k enc v xs) {A : Option Addr} {c : Nat} {ys : List α} (hx : a.eval x = .slice A ys.length c) (hA : A = none → c = 0) (hR : Rd k enc w A ys)
    (hb : (xs.length + ys.length) * bytes ≤ 140737488355328) (hl : xs.length + ys.length ≤ maxLen) (hbase : base ≤ w.heap.size)
    (h : ∀ v' w', Own w' base e k enc v' (xs ++ ys) → w.grownBy w' v.ownBlock → (v'.ownBlock = v.ownBlock ∨ v'.ownBlock = some w.heap.size) → K (a.put o.dst v') w') : if Region.wanted o (yielded ops a.tmps) = true then Oper.wp P o a w K Q else E := by
  have hw : Region.wanted o (yielded ops a.tmps) = true := by simp [Region.wanted, hgd]
  rw [if_pos hw]
  obtain ⟨i0, hi, hz0, hz1, hz2⟩ := info_parts hinfo
  cases A with
  | none =>
    have hys : ys = [] := by
      rcases Classical.em (ys = []) with e | e
      · exact e
      · obtain ⟨b, o, hA', _⟩ := hR.2 e
        cases hA'
    subst hys
    obtain rfl := hA rfl
    have hrun := run_append_owned_none (P := P) (w := w) base t o.type e i0 k ht hi v xs.length _ hown
    unfold Oper.wp
    simp only [List.length_nil] at hx
    simp [execOp, ho, resolve, invoke, builtin, hs, hx, hrun, Result.andThen]
    exact h v w (by simpa using hown) ⟨rfl, rfl, rfl, Nat.le_refl _, fun _ _ _ => rfl⟩ (.inl rfl)
  | some ad =>
    obtain ⟨v', w', hr, h2, h3, _, h5⟩ := run_append_own_at (P := P) w base t o.type e i0 z k bytes ht hi hz0 hz1 hz2 hz hk0 v xs.length _ hown ad ys.length c (ys.flatMap enc) (flatMap_len hk ys) (fun j u hu => by
      have hne : ys ≠ [] := fun e => by subst e; simp at hu
      obtain ⟨b, o, hA', _⟩ := hR.2 hne
      cases hA'
      rw [addr_add']
      exact hR.cellAt hk hk0 j u hu) (fun u hu => by
      obtain ⟨y, _, hy⟩ := List.mem_flatMap.1 hu
      exact h1 y u hy) hl hb hbase
    unfold Oper.wp execOp
    simp only [ho, resolve, invoke, builtin, Sem.run_bind, Sem.run_pure, Result.andThen_ok, List.map_toArray, List.map_cons, List.map_nil, hs, hx, hr]
    refine h v' w' ?_ h3 h5
    show w'.ownsRow _ _ _ _ _ _
    rw [List.length_append, List.flatMap_append]
    exact h2
theorem step_append1 {enc : α → List Value} {k base : Nat} {w : World} {K : Act → World → Prop} {E : Prop} (hgd : o.guard = none) {s x : Operand} {t e : TypeId} (ho : o.op = .call { callee := .builtin .append, args := #[s, x], argTypes := #[t, t] })
    (ht : P.underlying t = some (.slice e)) {z : Value} {bytes : Nat} (hinfo : (P.info? e).map (fun i => (i.zero, i.size, i.bytes)) = some (some z, k, bytes)) (hz : z.cells.size = k) (hk0 : 0 < k) (hk : ∀ x, (enc x).length = k) (h1 : ∀ x, ∀ u ∈ enc x, u.oneCell' = true)
    {v : Value} {xs : List α} (hs : a.eval s = v) (hown : Own w base e k enc v xs) {g : Nat} {c : Nat} (hx : a.eval x = .slice (some ⟨g, 0, none⟩) 1 c) {y : α} {cs : Array Value} {T : TypeId} (hg : w.heap[g]? = some (.cells cs T (0, 0))) (hcs : cs = (enc y).toArray)
    (hb : (xs.length + 1) * bytes ≤ 140737488355328) (hl : xs.length + 1 ≤ maxLen) (hbase : base ≤ w.heap.size)
    (h : ∀ v' w', Own w' base e k enc v' (xs ++ [y]) → w.grownBy w' v.ownBlock → (v'.ownBlock = v.ownBlock ∨ v'.ownBlock = some w.heap.size) → K (a.put o.dst v') w') : if Region.wanted o (yielded ops a.tmps) = true then Oper.wp P o a w K Q else E := by
  refine step_append_all (ys := [y]) (A := some ⟨g, 0, none⟩) (c := c) hgd ho ht hinfo hz hk0 hk h1 hs hown hx (fun e => by cases e) ?_ hb hl hbase h
  refine Rd_blk (by simp) hg (fun i x hx j u hu => ?_)
  subst hcs
  cases i with
  | zero => simp only [List.getElem?_cons_zero, Option.some.injEq] at hx; subst hx; simpa using hu
  | succ i => simp at hx
end
end Go.Proofs.Ytdocgemfedohdaa
/-! Slices of a slice: a beginning of an owned one, and what lies behind it. -/
namespace Go.Proofs.Ytdocgemfedohdaa
open Go.RowKit
theorem Own.cut {α : Type} {w : World} {base : Nat} {e : TypeId} {k : Nat} {enc : α → List Value} (hk : ∀ x, (enc x).length = k) {A : Option Addr} {n c : Nat} {xs : List α} (h : Own w base e k enc (.slice A n c) xs) {j : Nat} (hj : j ≤ xs.length) :
    Own w base e k enc (.slice A j c) (xs.take j) := by
  have hl : (xs.take j).length = j := by simp; omega
  refine ⟨flatMap_len hk _, ?_⟩
  rw [hl]
  rcases h.2 with ⟨h1, h2⟩ | ⟨g, cap, cur, h1, hb, hh, hle, hm, hs, ht⟩
  · cases h1
    exact .inl ⟨by congr 1; omega, by omega⟩
  · cases h1
    refine .inr ⟨g, c, cur, rfl, hb, hh, by omega, hm, hs, ?_⟩
    have : xs.flatMap enc = (xs.take j).flatMap enc ++ (xs.drop j).flatMap enc := by rw [← List.flatMap_append, List.take_append_drop]
    have h3 : (cur.toList.take (xs.length * k)).take (j * k) = ((xs.take j).flatMap enc ++ (xs.drop j).flatMap enc).take (j * k) := by rw [ht, this]
    rw [List.take_take, Nat.min_eq_left (Nat.mul_le_mul_right k hj), List.take_left' (by rw [flatMap_len hk, hl])] at h3
    exact h3
theorem Rd.drop {α : Type} {k : Nat} {enc : α → List Value} {w : World} {b o : Nat} {xs : List α} (h : Rd k enc w (some ⟨b, o, none⟩) xs) (n : Nat) : Rd k enc w (some ⟨b, o + n * k, none⟩) (xs.drop n) := by
  refine ⟨by have := h.1; simp; omega, fun hne => ?_⟩
  obtain ⟨b', o', he, hlt, hc⟩ := h.2 (fun e => hne (by rw [e]; simp))
  cases he
  refine ⟨b, _, rfl, hlt, fun i x hx j u hu => ?_⟩
  rw [List.getElem?_drop] at hx
  have := hc (n + i) x hx j u hu
  rw [Nat.add_mul, ← Nat.add_assoc] at this
  exact this
theorem Own.src {α : Type} {w : World} {base : Nat} {e : TypeId} {k : Nat} {enc : α → List Value} {v : Value} {xs : List α} (hk : ∀ x, (enc x).length = k) (h : Own w base e k enc v xs) : ∃ A c, v = .slice A xs.length c ∧ Rd k enc w A xs ∧ (A = none → c = 0) := by
  obtain ⟨A, c, hv, hr⟩ := h.rd hk
  refine ⟨A, c, hv, hr, fun e => ?_⟩
  rcases h.2 with ⟨h1, _⟩ | ⟨g, cap, cur, h1, _⟩
  · rw [hv] at h1; injection h1
  · rw [hv, e] at h1; injection h1 with h1 _ _; cases h1
theorem Own.rdm {α : Type} {w : World} {base : Nat} {e : TypeId} {k : Nat} {enc : α → List Value} {v : Value} {xs : List α} (hk : ∀ x, (enc x).length = k) (h : Own w base e k enc v xs) : ∃ A c, v = .slice A xs.length c ∧ xs.length ≤ c ∧ c ≤ maxLen ∧ Rd k enc w A xs := by
  obtain ⟨A, c, hv, hc, hr⟩ := h.rdc hk
  refine ⟨A, c, hv, hc, ?_, hr⟩
  rcases h.2 with ⟨h1, _⟩ | ⟨g, cap, cur, h1, _, _, _, hm, _⟩
  · rw [hv] at h1; injection h1 with e1 e2 e3; subst e3; decide
  · rw [hv] at h1; injection h1 with e1 e2 e3; subst e3; exact hm
theorem Own.apart {α : Type} {w w' : World} {base : Nat} {e : TypeId} {k : Nat} {enc : α → List Value} {v : Value} {xs : List α} {row : Option Nat} (h : Own w base e k enc v xs) (hg : w.grownBy w' row) {B : Nat} (h1 : ∀ q, v.ownBlock = some q → B ≤ q) (h2 : ∀ q, row = some q → q < B) : Own w' base e k enc v xs := by
  refine World.ownsRow.kept h hg ?_
  cases hq : v.ownBlock with
  | none => exact .inl rfl
  | some q =>
    refine .inr (fun e => ?_)
    have a := h1 q hq
    have b := h2 q e.symm
    omega
end Go.Proofs.Ytdocgemfedohdaa
/-! marigoldref12.Guilty: the plain parts. -/
namespace Go.Proofs.Ytdocgemfedohdaa
/-- Found among the first k. -/
def Found (v : List Lnk) (k : Nat) (f : Int) : Prop := ∃ i, ∃ h : i < v.length, i < k ∧ (∃ y ∈ v, Pair v[i] y) ∧ v[i].frm = f
theorem found_zero (v : List Lnk) (f : Int) : ¬ Found v 0 f := by rintro ⟨i, h, hi, _⟩; omega
theorem found_all (v : List Lnk) (f : Int) : Found v v.length f ↔ Guilt v f := by
  constructor
  · rintro ⟨i, h, _, ⟨y, hy, hp⟩, hf⟩; exact ⟨v[i], List.getElem_mem h, y, hy, hp, hf⟩
  · rintro ⟨x, hx, y, hy, hp, hf⟩
    obtain ⟨i, h, rfl⟩ := List.getElem_of_mem hx
    exact ⟨i, h, h, ⟨y, hy, hp⟩, hf⟩
theorem found_succ {v : List Lnk} {k : Nat} (hlt : k < v.length) (f : Int) : Found v (k + 1) f ↔ Found v k f ∨ ((∃ y ∈ v, Pair v[k] y) ∧ v[k].frm = f) := by
  constructor
  · rintro ⟨i, h, hi, hx, hf⟩
    rcases Nat.lt_or_ge i k with h' | h'
    · exact .inl ⟨i, h, h', hx, hf⟩
    · obtain rfl : i = k := by omega
      exact .inr ⟨hx, hf⟩
  · rintro (⟨i, h, hi, hx, hf⟩ | ⟨hx, hf⟩)
    · exact ⟨i, h, by omega, hx, hf⟩
    · exact ⟨k, hlt, by omega, hx, hf⟩
theorem rises_app {a b : List Int} (ha : Rises a) (hb : Rises b) (h : ∀ x ∈ a, ∀ y ∈ b, x < y) : Rises (a ++ b) := by
  induction a with
  | nil => exact hb
  | cons x a ih =>
    refine ⟨fun y hy => ?_, ih ha.2 (fun z hz => h z (by simp [hz]))⟩
    rcases List.mem_append.1 hy with hy | hy
    · exact ha.1 y hy
    · exact h x (by simp) y hy
theorem rises_take {l : List Int} (h : Rises l) (n : Nat) : Rises (l.take n) :=
  rises_of fun i hi => by
    have hi' : i + 1 < l.length := by simp at hi; omega
    simp only [List.getElem_take]
    exact rises_le h i (i + 1) (by omega) hi' (by omega)
theorem rises_drop {l : List Int} (h : Rises l) (n : Nat) : Rises (l.drop n) :=
  rises_of fun i hi => by
    have hi' : n + (i + 1) < l.length := by simp at hi; omega
    simp only [List.getElem_drop]
    exact rises_le h (n + i) (n + (i + 1)) (by omega) hi' (by omega)
theorem ins_rises {out : List Int} {x : Int} {m : Nat} (h : Rises out) (hm : m ≤ out.length) (hgt : ∀ j, m ≤ j → (hj : j < out.length) → x < out[j]) (hle : ∀ j, (hj : j < out.length) → j < m → out[j] < x) :
    Rises (out.take m ++ [x] ++ out.drop m) ∧ ∀ f, f ∈ out.take m ++ [x] ++ out.drop m ↔ f ∈ out ∨ x = f := by
  constructor
  · refine rises_app (rises_app (rises_take h m) ⟨by simp, trivial⟩ ?_) (rises_drop h m) ?_
    · intro a ha b hb
      simp only [List.mem_singleton] at hb
      subst hb
      obtain ⟨i, hi, rfl⟩ := List.mem_take_iff_getElem.1 ha
      exact hle i (by omega) (by omega)
    · intro a ha b hb
      have hb' : x < b := by
        obtain ⟨i, hi, rfl⟩ := List.mem_iff_getElem.1 hb
        simp only [List.getElem_drop]
        exact hgt _ (by omega) (by simp at hi; omega)
      rcases List.mem_append.1 ha with ha | ha
      · obtain ⟨i, hi, rfl⟩ := List.mem_take_iff_getElem.1 ha
        have := hle i (by omega) (by omega)
        omega
      · simp only [List.mem_singleton] at ha; subst ha; exact hb'
  · intro f
    rw [List.mem_append, List.mem_append, List.mem_singleton]
    have : f ∈ out ↔ f ∈ out.take m ∨ f ∈ out.drop m := by rw [← List.mem_append, List.take_append_drop]
    rw [this]
    constructor
    · rintro ((h | h) | h)
      · exact .inl (.inl h)
      · exact .inr h.symm
      · exact .inl (.inr h)
    · rintro ((h | h) | h)
      · exact .inl (.inl h)
      · exact .inr h
      · exact .inl (.inr h.symm)
/-- What is behind the place is greater, and what is ahead of it no greater. -/
def AtP (out : List Int) (x : Int) (m : Nat) : Prop := ∀ j, m ≤ j → (hj : j < out.length) → x < out[j]
theorem atP_len (out : List Int) (x : Int) : AtP out x out.length := fun j h hj => by omega
theorem atP_step {out : List Int} {x : Int} {m : Nat} (hm : m < out.length) (h : AtP out x (m + 1)) (hx : x < out[m]) : AtP out x m := fun j hj hjl => by
  rcases Nat.lt_or_ge m j with h1 | h1
  · exact h j h1 hjl
  · obtain rfl : j = m := by omega
    exact hx
theorem lt_of_prev {out : List Int} {x : Int} {m : Nat} (h : Rises out) (hm : m < out.length) (hx : out[m] < x) : ∀ j, (hj : j < out.length) → j < m + 1 → out[j] < x := fun j hj hjm => by
  rcases Nat.lt_or_ge j m with h1 | h1
  · have := rises_le h j m hj hm h1; omega
  · obtain rfl : j = m := by omega
    exact hx
/-- The relation of the reference's loop. -/
def GR (v : List Lnk) (k : Nat) (out : List Int) : Prop := Rises out ∧ (∀ f, f ∈ out ↔ Found v k f) ∧ out.length ≤ k
theorem gr_zero (v : List Lnk) : GR v 0 [] := ⟨trivial, fun f => by simp [found_zero], by simp⟩
theorem gr_end {v : List Lnk} {out : List Int} (h : GR v v.length out) : out = guiltyL v := guiltyL_eq ⟨h.1, fun f => (h.2.1 f).trans (found_all v f)⟩
theorem gr_no {v : List Lnk} {k : Nat} {out : List Int} (hlt : k < v.length) (h : GR v k out) (hn : v.any (fun y => decide (Pair v[k] y)) = false) : GR v (k + 1) out := by
  refine ⟨h.1, fun f => ?_, by have := h.2.2; omega⟩
  rw [h.2.1, found_succ hlt]
  constructor
  · exact .inl
  · rintro (h | ⟨⟨y, hy, hp⟩, _⟩)
    · exact h
    · rw [List.any_eq_false] at hn
      exact absurd (by simpa using hp) (hn y hy)
theorem gr_have {v : List Lnk} {k m : Nat} {out : List Int} (hlt : k < v.length) (h : GR v k out) (hm : m < out.length) (he : out[m] = v[k].frm) : GR v (k + 1) out := by
  refine ⟨h.1, fun f => ?_, by have := h.2.2; omega⟩
  rw [found_succ hlt, ← h.2.1]
  constructor
  · exact .inl
  · rintro (h | ⟨_, rfl⟩)
    · exact h
    · rw [← he]; exact List.getElem_mem hm
theorem gr_ins {v : List Lnk} {k m : Nat} {out : List Int} (hlt : k < v.length) (h : GR v k out) (hy : v.any (fun y => decide (Pair v[k] y)) = true) (hm : m ≤ out.length) (hgt : AtP out v[k].frm m) (hle : ∀ j, (hj : j < out.length) → j < m → out[j] < v[k].frm) :
    GR v (k + 1) (out.take m ++ [v[k].frm] ++ out.drop m) := by
  obtain ⟨h1, h2⟩ := ins_rises h.1 hm hgt hle
  refine ⟨h1, fun f => ?_, by have := h.2.2; simp; omega⟩
  rw [h2, found_succ hlt, h.2.1]
  have : ∃ y ∈ v, Pair v[k] y := by
    obtain ⟨y, hy, hp⟩ := List.any_eq_true.1 hy
    exact ⟨y, hy, by simpa using hp⟩
  constructor
  · rintro (h | h)
    · exact .inl h
    · exact .inr ⟨this, h⟩
  · rintro (h | ⟨_, h⟩)
    · exact .inl h
    · exact .inr h
end Go.Proofs.Ytdocgemfedohdaa
