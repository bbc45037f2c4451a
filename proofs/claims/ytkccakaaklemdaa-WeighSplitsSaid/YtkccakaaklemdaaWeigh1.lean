/- The walk of weigh.On's closures. -/
import Derived.Test.YtkccakaaklemdaaDuty5
import Derived.Test.YtkccakaaklemdaaEnc
import Derived.Test.YtkccakaaklemdaaTreeW
namespace Go.Proofs.Ytkccakaaklemdaa
open Go.RowKit
theorem grown_below {w w' : World} (h : Below w.heap.size w w') (row : Option Nat) : w.grownBy w' row := ⟨h.os, h.tape, h.output, h.size, fun k hk _ => h.block k hk⟩
/-- What a cache holds is true. -/
def CacheOk (l : List Blk) (id : ID) (m : List (ID × Bool)) : Prop := ∀ x r, mget m x = some r → r = decide (id ∈ chain l x)
set_option maxRecDepth 100000 in
set_option maxHeartbeats 2000000 in
theorem on1_any (l : List Blk) (id : ID) (v : Vote) (A : Option Addr) (c Bm Bl Bi M : Nat) (m : List (ID × Bool)) (w : World) (hr : Rd 5 encBlk w A l) (hl : l.length ≤ 100000)
    (hM : MapIs idv Value.bool w M m) (hm : CacheOk l id m) (h1 : w.heap[Bm]? = some (.cells #[.map (some M)] 63 (0, 0))) (h2 : w.heap[Bl]? = some (.cells #[.slice A l.length c] 26 (0, 0)))
    (h3 : w.heap[Bi]? = some (.cells #[.int .u64 id.hi, .int .u64 id.lo] 29 (0, 0))) :
    Calls Try.prog 34 #[votev v, .pointer (some ⟨Bm, 0, none⟩), .pointer (some ⟨Bl, 0, none⟩), .pointer (some ⟨Bi, 0, none⟩)] w fun e w' =>
      e = .returned (.bool (decide (id ∈ chain l v.head))) ∧ (∃ m', MapIs idv Value.bool w' M m' ∧ CacheOk l id m') ∧ w.grownBy w' (some M) := by
  have hcall := fun W (hW : Below w.heap.size w W) => chain_any l v.head A c W (hr.below hW) (fun m h => tree_ahead h) hl
  unfold idv votev at *
  have hW : ∃ W, w.alloc (.cells #[.int .i64 v.frm, .int .i64 v.slot, .int .u64 v.head.hi, .int .u64 v.head.lo] 38) = W := ⟨_, rfl⟩
  obtain ⟨W, hW⟩ := hW
  have hB : Below w.heap.size w W := by subst hW; exact (Below.refl _ w).alloc (Nat.le_refl _) _
  have hb : W.heap[w.heap.size]? = some (.cells #[.int .i64 v.frm, .int .i64 v.slot, .int .u64 v.head.hi, .int .u64 v.head.lo] 38 (0, 0)) := by subst hW; exact ha_at rfl
  have hMW := MapIs_below hM hB
  obtain ⟨c1, f1⟩ := blk1 (bl_own hB h1)
  obtain ⟨c2, f2⟩ := blk1 (bl_own hB h2)
  obtain ⟨c3, c4, f3, f4⟩ := blk2 (bl_own hB h3)
  have d2 := blk_cell hb 2
  have d3 := blk_cell hb 3
  cases hg : mget m v.head with
  | some r =>
    have hr' := Lib.hid (hm _ _ hg)
    have hm' := Lib.hid hm
    clear hm
    cases r with
    | true =>
      go_enter Try.func34, Try.ntmps34
      go_wp2_with (at_lookup; refine wp_lookup (x := v.head) rfl rfl KeyID Try.underlying63 (Try.zeroValue4 _) rfl rfl hMW (r := .tuple #[.bool true, .bool true]) (by rw [hg]; rfl) ?_)
      go_ret
      exact ⟨ret_bool hr'.out, ⟨m, hMW, hm'.out⟩, grown_below hB _⟩
    | false =>
      go_enter Try.func34, Try.ntmps34
      go_wp2_with (at_lookup; refine wp_lookup (x := v.head) rfl rfl KeyID Try.underlying63 (Try.zeroValue4 _) rfl rfl hMW (r := .tuple #[.bool false, .bool true]) (by rw [hg]; rfl) ?_)
      go_ret
      exact ⟨ret_bool hr'.out, ⟨m, hMW, hm'.out⟩, grown_below hB _⟩
  | none =>
    have hm' : Hid (CacheOk l id (mput m v.head (decide (id ∈ chain l v.head)))) := Lib.hid (fun x r hx => by
      rw [mget_mput] at hx
      split at hx
      · rename_i e; subst e; simpa using hx.symm
      · exact hm x r hx)
    clear hm
    go_enter Try.func34, Try.ntmps34
    go_wp2_with (at_lookup; refine wp_lookup (x := v.head) rfl rfl KeyID Try.underlying63 (Try.zeroValue4 _) rfl rfl hMW (r := .tuple #[.bool false, .bool false]) (by rw [hg]; rfl) ?_)
    obtain ⟨r, hrr⟩ : ∃ r, decide (id ∈ chain l v.head) = r := ⟨_, rfl⟩
    have hrr' := Lib.hid hrr
    rw [hrr] at hm'
    have hb1 := bl_own hB h1
    have hb2 := bl_own hB h2
    have hb3 := bl_own hB h3
    have hsz : W.heap.size = w.heap.size + 1 := by subst hW; simp
    have hlM := MapIs_lt hM
    clear hg hW
    go_region_held3 (fun W' => W'.cell? ⟨Bl, 0, none⟩ = some (.slice A l.length c) ∧ W'.cell? ⟨w.heap.size, 2, none⟩ = some (.int .u64 v.head.hi) ∧ W'.cell? ⟨w.heap.size, 3, none⟩ = some (.int .u64 v.head.lo) ∧ W'.cell? ⟨Bi, 0, none⟩ = some (.int .u64 id.hi) ∧ W'.cell? ⟨Bi, 1, none⟩ = some (.int .u64 id.lo)) (first | exact ⟨c2, d2, d3, c3, c4⟩ | exact ⟨e1, e2, e3, e4, e5⟩ | exact ⟨g1, g2, g3, g4, g5⟩) ((first
      | (go_at_call 17; refine (hcall _ hB.drew).mono ?_; rintro e w1 ⟨u, rfl, hown, hk1⟩; obtain ⟨A', c', rfl, hR⟩ := hown.rd encID_len; obtain ⟨e1, _⟩ := blk1 (bl_own hk1 hb2); have e2 := blk_cell (bl_own hk1 hb) 2; have e3 := blk_cell (bl_own hk1 hb) 3; obtain ⟨e4, e5, _, _⟩ := blk2 (bl_own hk1 hb3))
      | (go_at_call 35; refine (contains_any id (chain l v.head) _ _ _ hR).mono ?_; rintro e w2 ⟨rfl, hk2⟩; obtain ⟨g1, _⟩ := blk1 (bl_own hk2 (bl_own hk1 hb2)); have g2 := blk_cell (bl_own hk2 (bl_own hk1 hb)) 2; have g3 := blk_cell (bl_own hk2 (bl_own hk1 hb)) 3; obtain ⟨g4, g5, _, _⟩ := blk2 (bl_own hk2 (bl_own hk1 hb3)))))
    obtain ⟨g6, _⟩ := blk1 (bl_own hk2 (bl_own hk1 hb1))
    have hB2 := below_call (below_call hB.drew hB.size hk1) (Nat.le_trans hB.size hk1.size) hk2
    have hM2 := MapIs_below hM hB2
    clear hrr
    go_wp2_with (at_mapUpdate; refine wp_update rfl (.inl rfl) KeyID Try.underlying63 rfl (x := v.head) rfl (v := r) rfl hM2 ?_; intro w4 hM4 hg4 hz4)
    go_ret
    exact ⟨ret_bool hrr'.out.symm, ⟨_, hM4, hm'.out⟩, grown_trans (grown_below hB2 _) hg4⟩
end Go.Proofs.Ytkccakaaklemdaa
