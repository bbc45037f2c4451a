/- The walks of weigh.told, weigh.On, weigh.All. -/
import Derived.Test.YtkccakaaklemdaaWeigh1
import Derived.Test.YtkccakaaklemdaaEnc
namespace Go.Proofs.Ytkccakaaklemdaa
open Go.RowKit
set_option maxRecDepth 100000 in
theorem on2_any (v : Vote) (w : World) :
    Calls Try.prog 37 #[votev v] w fun e w' => e = .returned (.int .i64 v.frm) ∧ Below w.heap.size w w' := by
  unfold votev
  have hW : ∃ W, w.alloc (.cells #[.int .i64 v.frm, .int .i64 v.slot, .int .u64 v.head.hi, .int .u64 v.head.lo] 38) = W := ⟨_, rfl⟩
  obtain ⟨W, hW⟩ := hW
  have hB : Below w.heap.size w W := by subst hW; exact (Below.refl _ w).alloc (Nat.le_refl _) _
  have hb : W.heap[w.heap.size]? = some (.cells #[.int .i64 v.frm, .int .i64 v.slot, .int .u64 v.head.hi, .int .u64 v.head.lo] 38 (0, 0)) := by subst hW; exact ha_at rfl
  have d0 := blk_cell hb 0
  go_enter Try.func37, Try.ntmps37
  go_wp2_with fail
  go_ret
  exact ⟨rfl, hB⟩
/-- Who has a vote for id, or for what stands on it. -/
def whoOn (l : List Blk) (vs : List Vote) (id : ID) : List Int := (vs.filter fun v => decide (id ∈ chain l v.head)).map Vote.frm
theorem whoOn_snoc {l : List Blk} {vs : List Vote} {id : ID} {k : Nat} (hlt : k < vs.length) : whoOn l (vs.take (k + 1)) id = whoOn l (vs.take k) id ++ (if id ∈ chain l vs[k].head then [vs[k].frm] else []) := by
  unfold whoOn
  rw [← List.take_append_getElem hlt, List.filter_append, List.map_append]
  by_cases h : id ∈ chain l vs[k].head <;> simp [h]
theorem whoOn_len (l : List Blk) (vs : List Vote) (id : ID) : (whoOn l vs id).length ≤ vs.length := by
  unfold whoOn
  rw [List.length_map]
  exact List.length_filter_le _ _
theorem grown_row {w w1 w2 : World} {M : Nat} {r : Option Nat} (h : w.grownBy w1 (some M)) (hg : w1.grownBy w2 r) (hr : ∀ k, r = some k → w.heap.size ≤ k) : w.grownBy w2 (some M) :=
  ⟨hg.os.trans h.os, hg.tape.trans h.tape, hg.output.trans h.output, Nat.le_trans h.size hg.size, fun k hk hne => (hg.block k (Nat.lt_of_lt_of_le hk h.size) (fun e => by have := hr k e.symm; omega)).trans (h.block k hk hne)⟩
set_option maxRecDepth 100000 in
set_option maxHeartbeats 2000000 in
theorem told_any (l : List Blk) (id : ID) (vs : List Vote) (A A3 : Option Addr) (c c3 Bm Bl Bi M : Nat) (m : List (ID × Bool)) (w : World) (w0 : World) (hw0 : Below w0.heap.size w0 w) (hr : Rd 5 encBlk w0 A l) (hr3 : Rd 4 encVote w0 A3 vs) (hl : l.length ≤ 100000) (hvl : vs.length ≤ 100000)
    (hM : MapIs idv Value.bool w M m) (hm : CacheOk l id m) (h1 : w.heap[Bm]? = some (.cells #[.map (some M)] 63 (0, 0))) (h2 : w.heap[Bl]? = some (.cells #[.slice A l.length c] 26 (0, 0)))
    (h3 : w.heap[Bi]? = some (.cells #[.int .u64 id.hi, .int .u64 id.lo] 29 (0, 0))) (hM0 : w0.heap.size ≤ M) :
    Calls Try.prog 36 #[.slice A3 vs.length c3, .func (.func 34) #[] #[.pointer (some ⟨Bm, 0, none⟩), .pointer (some ⟨Bl, 0, none⟩), .pointer (some ⟨Bi, 0, none⟩)], .func (.func 37) #[] #[]] w fun e w' =>
      ∃ v, e = .returned v ∧ Own w' w.heap.size 3 1 encI v (whoOn l vs id) ∧ w.grownBy w' (some M) := by
  have hm3 := hr3.1
  have hun := Try.underlying22
  have hn1 : some Bm ≠ some M := fun e => by obtain ⟨es, clk, hk, _⟩ := hM; cases e; rw [h1] at hk; cases hk
  have hn2 : some Bl ≠ some M := fun e => by obtain ⟨es, clk, hk, _⟩ := hM; cases e; rw [h2] at hk; cases hk
  have hn3 : some Bi ≠ some M := fun e => by obtain ⟨es, clk, hk, _⟩ := hM; cases e; rw [h3] at hk; cases hk
  have hlM := MapIs_lt hM
  go_enter Try.func36, Try.ntmps36
  go_wp2_with fail
  go_loopw [7, 9, 12] (fun v _x i wr => ∃ (k : Nat) (m : List (ID × Bool)), k ≤ vs.length ∧ i = .int .i64 k ∧ Own wr w.heap.size 3 1 encI v (whoOn l (vs.take k) id) ∧ MapIs idv Value.bool wr M m ∧ CacheOk l id m ∧ w.grownBy wr (some M)) (fun _ _ i _ => vs.length - (intOf i).toNat)
  case atStart => exact ⟨0, m, Nat.zero_le _, rfl, Own.nil _ _ _ _ _, hM, hm, grown_below (Below.refl _ _) _⟩
  case round =>
    obtain ⟨k, m, hk, rfl, hown, hM', hm', hG⟩ := hrel
    have hBr := below_step hw0 hw0.size hG (fun k e => by cases e; exact hM0)
    by_cases hlt : k < vs.length
    · obtain ⟨b', o, rfl, hbo, d0, d1, d2, d3⟩ := (hr3.below hBr).atVote hlt
      have hsn := whoOn_snoc (l := l) (id := id) hlt
      have hle := whoOn_len l (vs.take k) id
      obtain ⟨x, hx⟩ : ∃ x, vs[k] = x := ⟨_, rfl⟩
      rw [hx] at d0 d1 d2 d3 hsn
      clear hx
      have hvb : ∀ j, u7.ownBlock = some j → w.heap.size ≤ j := fun j hj => (hown.base j hj).1
      have hW1 : Below wr.heap.size wr (wr.alloc (.cells #[.int .i64 x.frm, .int .i64 x.slot, .int .u64 x.head.hi, .int .u64 x.head.lo] 38)) := (Below.refl _ wr).alloc (Nat.le_refl _) _
      have hb1 : (wr.alloc (.cells #[.int .i64 x.frm, .int .i64 x.slot, .int .u64 x.head.hi, .int .u64 x.head.lo] 38)).heap[wr.heap.size]? = some (.cells #[.int .i64 x.frm, .int .i64 x.slot, .int .u64 x.head.hi, .int .u64 x.head.lo] 38 (0, 0)) := ha_at rfl
      have hG1 := grown_trans hG (grown_below hW1 _)
      have hM1 := MapIs_below hM' hW1
      have ho1 := hown.below hW1
      have hon := on1_any l id x A c Bm Bl Bi M m _ ((hr.below hBr).below hW1) hl hM1 hm' (grown_own hG1 h1 hn1) (grown_own hG1 h2 hn2) (grown_own hG1 h3 hn3)
      have hrd : Below w0.heap.size w0 (wr.alloc (.cells #[.int .i64 x.frm, .int .i64 x.slot, .int .u64 x.head.hi, .int .u64 x.head.lo] 38)) := below_call hBr hBr.size hW1
      have hW := on2_any x
      have hne : some wr.heap.size ≠ some M := fun e => by have := MapIs_lt hM'; cases e; omega
      have hlen : (whoOn l (vs.take k) id).length ≤ 100000 := by have : (vs.take k).length ≤ vs.length := by simp; omega
                                                                 omega
      clear hle
      unfold votev at hon hW
      by_cases hin : id ∈ chain l x.head
      · have hd : decide (id ∈ chain l x.head) = true := by simpa using hin
        rw [hd] at hon
        rw [if_pos hin] at hsn
        have hsn' := Lib.hid hsn
        clear hsn hd hin
        go_wp2_with (first
          | (go_at_call 34; refine hon.mono ?_; clear hon; rintro e w2 ⟨rfl, ⟨m2, hM2, hm2⟩, hg2⟩; have hb2 := grown_own hg2 hb1 hne; have d0' := blk_cell hb2 0; have d1' := blk_cell hb2 1; have d2' := blk_cell hb2 2; have d3' := blk_cell hb2 3)
          | (go_at_call 37; refine (hW _).mono ?_; clear hW; rintro e w3 ⟨rfl, hb3⟩; have hW4 : Below w3.heap.size w3 (w3.alloc (.cells #[.int .i64 x.frm] 3)) := (Below.refl _ w3).alloc (Nat.le_refl _) _; have ho4 := ((ho1.grown hg2 (.inr (fun e => by have := hvb _ e; omega))).below hb3).below hW4; have hG4 := grown_trans (grown_trans (grown_trans hG1 hg2) (grown_below hb3 (some M))) (grown_below hW4 (some M)); have hM4 := MapIs_below (MapIs_below hM2 hb3) hW4)
          | (at_builtin; refine wp_append1 rfl rfl hun infoI rfl (by decide) encI_len encI_one rfl ho4 (g := w3.heap.size) (c := 1) rfl (y := x.frm) (ha_at rfl) rfl (by omega) (by unfold maxLen; omega) hG4.size ?_; intro v' w5 ho5 hg5 hat5))
        go_roundw
        case rel => exact ⟨k + 1, m2, hlt, by go_num, by rw [hsn'.out]; exact ho5, MapIs_grown hM4 hg5 (fun e => by have := hvb _ e.symm; omega), hm2, grown_row hG4 hg5 hvb⟩
        case measure => simp [intOf]; omega
      · have hd : decide (id ∈ chain l x.head) = false := by simpa using hin
        rw [hd] at hon
        rw [if_neg hin] at hsn
        have hsn' := Lib.hid hsn
        clear hsn hd hin
        go_wp2_with (go_at_call 34; refine hon.mono ?_; clear hon; rintro e w2 ⟨rfl, ⟨m2, hM2, hm2⟩, hg2⟩)
        go_roundw
        case rel => exact ⟨k + 1, m2, hlt, by go_num, by rw [hsn'.out, List.append_nil]; exact ho1.grown hg2 (.inr (fun e => by have := hvb _ e; omega)), hM2, hm2, grown_trans hG1 hg2⟩
        case measure => simp [intOf]; omega
    · obtain rfl : k = vs.length := by omega
      rw [List.take_length] at hown
      go_wp2_with fail
      go_ret
      exact ⟨_, rfl, hown, hG⟩
def onC (c : Cfg) (l : List Blk) (vs : List Vote) (id : ID) : Int := weightC c (whoOn l vs id)
set_option maxRecDepth 100000 in
set_option maxHeartbeats 2000000 in
theorem on_any (c : Cfg) (l : List Blk) (vs : List Vote) (id : ID) (A A2 A3 : Option Addr) (k k2 k3 : Nat) (w : World) (hr : Rd 1 encI w A c.W) (hr2 : Rd 5 encBlk w A2 l) (hr3 : Rd 4 encVote w A3 vs) (hl : l.length ≤ 100000) (hvl : vs.length ≤ 100000) :
    Calls Try.prog 16 #[cfgv A k c, .slice A2 l.length k2, .slice A3 vs.length k3, idv id] w fun e w' => e = .returned (.int .i64 (onC c l vs id)) ∧ Below w.heap.size w w' := by
  have hmm := @run_makeMap Try.prog
  have hm := hr.1
  have hm2 := hr2.1
  have hm3 := hr3.1
  unfold cfgv idv
  go_enter Try.func16, Try.ntmps16
  go_wp2_with fail
  have hW : ∃ W, (((((w.alloc (.cells #[.slice A c.W.length k, .int .u64 c.seed, .int .i64 c.epoch, .int .i64 c.num, .int .i64 c.den] 25)).alloc (.cells #[.slice A2 l.length k2] 26)).alloc (.cells #[.int .u64 id.hi, .int .u64 id.lo] 29)).alloc (.map #[] 0)).alloc (.cells #[.map (some (w.heap.size + 1 + 1 + 1))] 63)) = W := ⟨_, rfl⟩
  obtain ⟨W, hW⟩ := hW
  have hB : Below w.heap.size w W := by subst hW; exact (((((Below.refl _ w).alloc (Nat.le_refl _) _).alloc (by simp) _).alloc (by simp <;> omega) _).alloc (by simp <;> omega) _).alloc (by simp <;> omega) _
  have b0 : W.heap[w.heap.size]? = some (.cells #[.slice A c.W.length k, .int .u64 c.seed, .int .i64 c.epoch, .int .i64 c.num, .int .i64 c.den] 25 (0, 0)) := by subst hW; exact ha_lt (ha_lt (ha_lt (ha_lt (ha_at rfl))))
  have b1 : W.heap[w.heap.size + 1]? = some (.cells #[.slice A2 l.length k2] 26 (0, 0)) := by subst hW; exact ha_lt (ha_lt (ha_lt (ha_at (by simp))))
  have b2 : W.heap[w.heap.size + 1 + 1]? = some (.cells #[.int .u64 id.hi, .int .u64 id.lo] 29 (0, 0)) := by subst hW; exact ha_lt (ha_lt (ha_at (by simp)))
  have b4 : W.heap[w.heap.size + 1 + 1 + 1 + 1]? = some (.cells #[.map (some (w.heap.size + 1 + 1 + 1))] 63 (0, 0)) := by subst hW; exact ha_at (by simp)
  have bM : MapIs idv Value.bool W (w.heap.size + 1 + 1 + 1) ([] : List (ID × Bool)) := by subst hW; exact MapIs_alloc (MapIs_new _ _ (ha_at (by simp))) _
  rw [hW]
  clear hW
  have htold := fun V (hV : Below W.heap.size W V) => told_any l id vs A2 A3 k2 k3 _ _ _ _ [] V w (below_call hB hB.size hV) hr2 hr3 hl hvl (MapIs_below bM hV) (fun x r h => by simp [mget] at h) (bl_own hV b4) (bl_own hV b1) (bl_own hV b2) (by omega)
  have hwei := fun V (hV : Below w.heap.size w V) (A' : Option Addr) (k' : Nat) (hR : Rd 1 encI V A' (whoOn l vs id)) => dweight_any c (whoOn l vs id) A A' k k' V (hr.below hV) hR
  unfold cfgv at hwei
  have c0 := blk_cell b0 0
  have c1 := blk_cell b0 1
  have c2 := blk_cell b0 2
  have c3 := blk_cell b0 3
  have c4 := blk_cell b0 4
  go_region_held3 (fun W' => W'.cell? ⟨w.heap.size, 0, none⟩ = some (.slice A c.W.length k) ∧ W'.cell? ⟨w.heap.size, 1, none⟩ = some (.int .u64 c.seed) ∧ W'.cell? ⟨w.heap.size, 2, none⟩ = some (.int .i64 c.epoch) ∧ W'.cell? ⟨w.heap.size, 3, none⟩ = some (.int .i64 c.num) ∧ W'.cell? ⟨w.heap.size, 4, none⟩ = some (.int .i64 c.den)) (first | exact ⟨c0, c1, c2, c3, c4⟩ | exact ⟨d0, d1, d2, d3, d4⟩ | exact ⟨e0, e1, e2, e3, e4⟩) ((first
    | (go_at_call 36; refine (htold _ ((Below.refl _ W).drew)).mono ?_; rintro e w1 ⟨u, rfl, hown, hg1⟩; have hb1 := below_step hB.drew hB.size hg1 (fun k e => by cases e; omega); obtain ⟨A', c', rfl, hR⟩ := hown.rd encI_len; have b0' := grown_own hg1 b0 (by simp <;> omega); have d0 := blk_cell b0' 0; have d1 := blk_cell b0' 1; have d2 := blk_cell b0' 2; have d3 := blk_cell b0' 3; have d4 := blk_cell b0' 4)
    | (go_at_call 18; refine (hwei _ hb1 _ _ hR).mono ?_; rintro e w2 ⟨rfl, hb2⟩; have b0'' := bl_own hb2 b0'; have e0 := blk_cell b0'' 0; have e1 := blk_cell b0'' 1; have e2 := blk_cell b0'' 2; have e3 := blk_cell b0'' 3; have e4 := blk_cell b0'' 4)))
  go_wp2
  go_ret
  exact ⟨rfl, below_call hb1 hb1.size hb2⟩
set_option maxRecDepth 100000 in
set_option maxHeartbeats 2000000 in
theorem all_any (c : Cfg) (l : List Blk) (vs : List Vote) (A A2 A3 : Option Addr) (k k2 k3 : Nat) (w : World) (hr : Rd 1 encI w A c.W) (hr2 : Rd 5 encBlk w A2 l) (hr3 : Rd 4 encVote w A3 vs) (hl : l.length ≤ 100000) (hvl : vs.length ≤ 100000) :
    Calls Try.prog 30 #[cfgv A k c, .slice A2 l.length k2, .slice A3 vs.length k3] w fun e w' => e = .returned (.int .i64 (onC c l vs zid)) ∧ Below w.heap.size w w' := by
  have hm := hr.1
  have hm2 := hr2.1
  have hm3 := hr3.1
  have hon := fun V (hV : Below w.heap.size w V) => on_any c l vs zid A A2 A3 k k2 k3 V (hr.below hV) (hr2.below hV) (hr3.below hV) hl hvl
  unfold cfgv idv at *
  have hW : ∃ W, w.alloc (.cells #[.slice A c.W.length k, .int .u64 c.seed, .int .i64 c.epoch, .int .i64 c.num, .int .i64 c.den] 25) = W := ⟨_, rfl⟩
  obtain ⟨W, hW⟩ := hW
  have hB : Below w.heap.size w W := by subst hW; exact (Below.refl _ w).alloc (Nat.le_refl _) _
  have hb : W.heap[w.heap.size]? = some (.cells #[.slice A c.W.length k, .int .u64 c.seed, .int .i64 c.epoch, .int .i64 c.num, .int .i64 c.den] 25 (0, 0)) := by subst hW; exact ha_at rfl
  have c0 := blk_cell hb 0
  have c1 := blk_cell hb 1
  have c2 := blk_cell hb 2
  have c3 := blk_cell hb 3
  have c4 := blk_cell hb 4
  go_enter Try.func30, Try.ntmps30
  go_wp2_with (go_at_call 16; refine (hon _ hB).mono ?_; clear hon; rintro e w1 ⟨rfl, hb1⟩)
  go_ret
  exact ⟨rfl, below_call hB hB.size hb1⟩
end Go.Proofs.Ytkccakaaklemdaa
