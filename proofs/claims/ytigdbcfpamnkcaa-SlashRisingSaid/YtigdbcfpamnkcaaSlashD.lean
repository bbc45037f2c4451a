/- Whether one of many votes is held against one, walked. -/
import Derived.Test.YtigdbcfpamnkcaaSlashC
namespace Go.Proofs.Ytigdbcfpamnkcaa
open Go.RowKit
set_option maxRecDepth 100000 in
set_option maxHeartbeats 1000000 in
theorem held_any (a b : Lnk) (B : Nat) (T : TypeId) (w : World) (h1 : w.heap[B]? = some (.cells #[.int .i64 a.frm, .int .i64 a.src.epoch, .int .u64 a.src.root.hi, .int .u64 a.src.root.lo, .int .i64 a.tgt.epoch, .int .u64 a.tgt.root.hi, .int .u64 a.tgt.root.lo] T (0, 0))) :
    Calls Try.prog 16 #[lnkv b, .pointer (some ⟨B, 0, none⟩)] w fun e w' => e = .returned (.bool (decide (Pair a b))) ∧ Below w.heap.size w w' := by
  have hs := fun V => pair_any a b V
  unfold lnkv at *
  obtain ⟨q, hq⟩ : ∃ q, decide (Pair a b) = q := ⟨_, rfl⟩
  simp only [hq] at hs ⊢
  clear hq
  have hW : ∃ W, (w.alloc (.cells #[.int .i64 b.frm, .int .i64 b.src.epoch, .int .u64 b.src.root.hi, .int .u64 b.src.root.lo, .int .i64 b.tgt.epoch, .int .u64 b.tgt.root.hi, .int .u64 b.tgt.root.lo] 28)) = W := ⟨_, rfl⟩
  obtain ⟨W, hW⟩ := hW
  have hB : Below w.heap.size w W := by subst hW; exact (Below.refl _ w).alloc (by simp) _
  have b0 : W.heap[w.heap.size]? = some (.cells #[.int .i64 b.frm, .int .i64 b.src.epoch, .int .u64 b.src.root.hi, .int .u64 b.src.root.lo, .int .i64 b.tgt.epoch, .int .u64 b.tgt.root.hi, .int .u64 b.tgt.root.lo] 28 (0, 0)) := by subst hW; exact ha_at rfl
  obtain ⟨c0, c1, c2, c3, c4, c5, c6⟩ := blkL b0
  obtain ⟨d0, d1, d2, d3, d4, d5, d6⟩ := blkL (bl_own hB h1)
  go_enter Try.func16, Try.ntmps16
  go_wp2_with (go_at_call 12; with_reducible refine (hs _).mono ?_; clear hs; rintro e w1 ⟨rfl, hb1⟩)
  go_ret
  exact ⟨rfl, below_call hB hB.size hb1⟩
set_option maxRecDepth 100000 in
set_option maxHeartbeats 1000000 in
theorem lidx_any (p : Lnk → Bool) (xs : List Lnk) (A : Option Addr) (c : Nat) (p1 : Value) (w : World) (hr : Rd 7 encLnk w A xs)
    (h : ∀ x ∈ xs, ∀ V, Below w.heap.size w V → Calls Try.prog 16 #[lnkv x, p1] V fun e V' => e = .returned (.bool (p x)) ∧ Below V.heap.size V V') :
    Calls Try.prog 23 #[.slice A xs.length c, .func (.func 16) #[] #[p1]] w fun e w' =>
      e = .returned (.int .i64 (idxP p xs)) ∧ Below w.heap.size w w' := by
  have hm := hr.1
  have hh := Lib.hid h
  clear h
  go_enter Try.func23, Try.ntmps23
  go_wp2_with fail
  go_loopw [5, 8] (fun u5 i wr => ∃ k : Nat, k ≤ xs.length ∧ i = .int .i64 k ∧ Hid ((xs.take k).any p = false) ∧ Below w.heap.size w wr) (fun _ i _ => xs.length - (intOf i).toNat)
  case atStart => exact ⟨0, Nat.zero_le _, rfl, Lib.hid (by simp), Below.refl _ _⟩
  case round =>
    obtain ⟨k, hk, rfl, hno, hB⟩ := hrel
    by_cases hlt : k < xs.length
    · obtain ⟨b, o, rfl, hbo, d0, d1, d2, d3, d4, d5, d6⟩ := (hr.below hB).atL hlt
      have hst := Lib.hid (fun e => any_step hlt hno.out e)
      have hst2 := Lib.hid (fun e => idxP_at hlt hno.out e)
      have hc := Lib.hid (hh.out xs[k] (List.getElem_mem hlt))
      obtain ⟨f, hf⟩ : ∃ f, xs[k] = f := ⟨_, rfl⟩
      have hst' := Lib.hid (show p f = false → (xs.take (k + 1)).any p = false from hf ▸ hst.out)
      have hst2' := Lib.hid (show p f = true → idxP p xs = k from hf ▸ hst2.out)
      have hc' := Lib.hid (show ∀ V, Below w.heap.size w V → Calls Try.prog 16 #[lnkv f, p1] V fun e V' => e = .returned (.bool (p f)) ∧ Below V.heap.size V V' from hf ▸ hc.out)
      clear hst hst2 hc
      rw [hf] at d0 d1 d2 d3 d4 d5 d6
      clear hf
      cases hp : p f with
      | true =>
        have hx := Lib.hid (hst2'.out hp)
        have hcc := hc'.out _ hB
        rw [hp] at hcc
        unfold lnkv at hcc
        clear hp hst' hst2' hc'
        go_wp2_with (go_at_call 16; with_reducible refine hcc.mono ?_; clear hcc; rintro e w1 ⟨rfl, hb1⟩)
        go_ret
        exact ⟨ret_int hx.out.symm, below_call hB hB.size hb1⟩
      | false =>
        have hx := Lib.hid (hst'.out hp)
        have hcc := hc'.out _ hB
        rw [hp] at hcc
        unfold lnkv at hcc
        clear hp hst' hst2' hc'
        go_wp2_with (go_at_call 16; with_reducible refine hcc.mono ?_; clear hcc; rintro e w1 ⟨rfl, hb1⟩)
        go_roundw
        case rel => exact ⟨k + 1, hlt, by go_num, hx, below_call hB hB.size hb1⟩
        case measure => simp [intOf]; omega
    · obtain rfl : k = xs.length := by omega
      have hx := Lib.hid (show idxP p xs = -1 from idxP_none (by have := hno.out; rwa [List.take_length] at this))
      go_wp2_with fail
      go_ret
      exact ⟨ret_int hx.out.symm, hB⟩
set_option maxRecDepth 100000 in
set_option maxHeartbeats 1000000 in
theorem lany_any (p : Lnk → Bool) (xs : List Lnk) (A : Option Addr) (c : Nat) (p1 : Value) (w : World) (hr : Rd 7 encLnk w A xs)
    (h : ∀ x ∈ xs, ∀ V, Below w.heap.size w V → Calls Try.prog 16 #[lnkv x, p1] V fun e V' => e = .returned (.bool (p x)) ∧ Below V.heap.size V V') :
    Calls Try.prog 15 #[.slice A xs.length c, .func (.func 16) #[] #[p1]] w fun e w' =>
      e = .returned (.bool (xs.any p)) ∧ Below w.heap.size w w' := by
  have hm := hr.1
  have hc := lidx_any p xs A c p1 w hr h
  have hg := idxP_geq (p := p) xs
  clear h
  obtain ⟨r, hr'⟩ : ∃ r, idxP p xs = r := ⟨_, rfl⟩
  rw [hr'] at hc hg
  have hg' := Lib.hid hg
  clear hr' hg
  go_enter Try.func15, Try.ntmps15
  go_wp2_with (go_at_call 23; with_reducible refine hc.mono ?_; clear hc; rintro e w1 ⟨rfl, hb1⟩)
  go_ret
  exact ⟨ret_bool hg'.out, hb1⟩
end Go.Proofs.Ytigdbcfpamnkcaa
