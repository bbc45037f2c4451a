/- GE: several texts in one. -/
import Derived.Test.YtdocgemfedohdaaGreatGD
import Derived.Test.YtdocgemfedohdaaGreatGA
import Derived.Test.YtdocgemfedohdaaGreatGB
/-! The walks of duty.Weight, duty.Total. -/
namespace Go.Proofs.YtdocgemfedohdaaGreat
open Go.RowKit Go.Shelf
set_option maxRecDepth 100000 in
set_option maxHeartbeats 1000000 in
theorem weight1_any (i : Int) (Bm M : Nat) (m : List (Int × Bool)) (w : World) (hM : MapIs (Value.int .i64) Value.bool w M m) (hb : w.heap[Bm]? = some (.cells #[.map (some M)] 66 (0, 0))) :
    Calls Tryz.prog 28 #[.int .i64 i, .pointer (some ⟨Bm, 0, none⟩)] w fun e w' => e = .returned (.bool ((mget m i).getD false)) ∧ w' = w := by
  have c0 := blk_cell hb 0
  go_enter Tryz.func28, Tryz.ntmps28
  go_wp2_with (at_lookup; refine wp_lookup (x := i) rfl rfl KeyI Tryz.underlying66 (Tryz.zeroValue4 _) rfl rfl hM (r := .bool ((mget m i).getD false)) (by cases mget m i <;> rfl) ?_)
  go_ret
  exact ⟨rfl, rfl⟩
theorem thoseK_wt (c : Cfg) (A : Option Addr) (k Bc Bf Bm M n₀ : Nat) (m : List (Int × Bool)) (p : Nat → Bool) (W : World) (hA : Rd 1 encI W A c.W) (hc : ConfAt W Bc A k c) (hf : W.heap[Bf]? = some (.cells #[.func (.func 28) #[] #[.pointer (some ⟨Bm, 0, none⟩)]] 65 (0, 0)))
    (hM : MapIs (Value.int .i64) Value.bool W M m) (hb : W.heap[Bm]? = some (.cells #[.map (some M)] 66 (0, 0))) (hp : ∀ i : Nat, (mget m (i : Int)).getD false = p i)
    (hn : n₀ ≤ W.heap.size) (h1 : Bc < n₀) (h2 : Bf < n₀) (h3 : Bm < n₀) (h4 : M < n₀) : ThoseK Fence.wide 2 Bc Bf n₀ c.W.length p W := by
  intro l J Jx W' hW' _ _ hY h0
  refine those1_wt Fence.wide 2 trivial trivial rfl (by decide) l Bc Bf n₀ c A k Bm p J Jx W' (hA.below hW') (hc.own hW') (bl_own hW' hf) (Nat.le_trans hn hW'.size) h1 h2 ?_ hY h0
  intro i W'' _ hb''
  refine callsIn_wide.2 ?_
  rw [← hp i]
  exact weight1_any i Bm M m W'' (MapIs_same (MapIs_below hM hW') (hb''.block M h4)) (bl_blk hb'' (bl_own hW' hb) h3)
set_option maxRecDepth 100000 in
set_option maxHeartbeats 1000000 in
theorem those_any (c : Cfg) (A : Option Addr) (k : Nat) (w : World) (pf : Nat) (cap : Array Value) :
    Calls Tryz.prog 25 #[cfgv A k c, .func (.func pf) #[] cap] w fun e w' => e = .returned (.func (.func 41) #[] #[.pointer (some ⟨w.heap.size, 0, none⟩), .pointer (some ⟨w.heap.size + 1, 0, none⟩)]) ∧
      ConfAt w' w.heap.size A k c ∧ w'.heap[w.heap.size + 1]? = some (.cells #[.func (.func pf) #[] cap] 65 (0, 0)) ∧ w'.heap.size = w.heap.size + 2 ∧ Below w.heap.size w w' := by
  unfold cfgv
  go_enter Tryz.func25, Tryz.ntmps25
  go_wp2_with fail
  go_ret
  refine ⟨rfl, ha_lt (ha_at rfl), ha_at (by simp), by simp, ((Below.refl _ w).alloc (Nat.le_refl _) _).alloc (by simp) _⟩
theorem mget_mput {κ ν : Type} [DecidableEq κ] (m : List (κ × ν)) (x y : κ) (v : ν) : mget (mput m x v) y = if x = y then some v else mget m y := by
  unfold mput
  by_cases h : (mget m x).isSome
  · rw [if_pos h]
    by_cases hxy : x = y
    · subst hxy
      rw [if_pos rfl]
      unfold mget at *
      rw [Option.isSome_map] at h
      obtain ⟨p, hp⟩ := Option.isSome_iff_exists.1 h
      have : (List.map (fun p : κ × ν => if p.1 = x then (p.1, v) else p) m).find? (fun p => decide (p.1 = x)) = some (p.1, v) := by
        rw [List.find?_map]
        have e : ((fun p : κ × ν => decide (p.1 = x)) ∘ fun p : κ × ν => if p.1 = x then (p.1, v) else p) = fun p => decide (p.1 = x) := by
          funext q; simp only [Function.comp]; split <;> rfl
        rw [e, hp]
        have := List.find?_some hp
        simp only [decide_eq_true_eq] at this
        simp [this]
      rw [this]; rfl
    · rw [if_neg hxy]
      unfold mget
      rw [List.find?_map]
      have e : ((fun p : κ × ν => decide (p.1 = y)) ∘ fun p : κ × ν => if p.1 = x then (p.1, v) else p) = fun p => decide (p.1 = y) := by
        funext q; simp only [Function.comp]; split <;> rfl
      rw [e]
      cases hp : m.find? (fun p => decide (p.1 = y)) with
      | none => rfl
      | some p =>
        have := List.find?_some hp
        simp only [decide_eq_true_eq] at this
        have hx : ¬ p.1 = x := fun e => hxy (e.symm.trans this)
        simp [hx]
  · rw [if_neg h]
    have hn : mget m x = none := by simpa using h
    by_cases hxy : x = y
    · subst hxy
      rw [if_pos rfl]
      unfold mget at *
      rw [List.find?_append]
      rw [Option.map_eq_none_iff] at hn
      simp [hn]
    · rw [if_neg hxy]
      unfold mget
      rw [List.find?_append]
      simp [hxy]
set_option maxRecDepth 100000 in
set_option maxHeartbeats 2000000 in
theorem dweight_any (c : Cfg) (who : List Int) (A A2 : Option Addr) (k k2 : Nat) (w : World) (hr : Rd 1 encI w A c.W) (hr2 : Rd 1 encI w A2 who) :
    Calls Tryz.prog 10 #[cfgv A k c, .slice A2 who.length k2] w fun e w' => e = .returned (.int .i64 (weightC c who)) ∧ Below w.heap.size w w' := by
  have hm := hr.1
  have hm2 := hr2.1
  have hmm := @run_makeMap Tryz.prog
  unfold cfgv
  go_enter Tryz.func10, Tryz.ntmps10
  go_wp2_with fail
  have hW : ∃ W, (((w.alloc (.cells #[.slice A c.W.length k, .int .u64 c.seed, .int .i64 c.epoch, .int .i64 c.num, .int .i64 c.den] 25)).alloc (.map #[] 0)).alloc (.cells #[.map (some (w.heap.size + 1))] 66)) = W := ⟨_, rfl⟩
  obtain ⟨W, hW⟩ := hW
  have hM0 : MapIs (Value.int .i64) Value.bool W (w.heap.size + 1) ([] : List (Int × Bool)) := by subst hW; exact MapIs_alloc (MapIs_new _ _ (ha_at (by simp))) _
  have hc0 : ConfAt W w.heap.size A k c := by subst hW; exact ha_lt (ha_lt (ha_at rfl))
  have hb0 : W.heap[w.heap.size + 1 + 1]? = some (.cells #[.map (some (w.heap.size + 1))] 66 (0, 0)) := by subst hW; exact ha_at (by simp)
  have hB0 : Below w.heap.size w W := by subst hW; exact (((Below.refl _ w).alloc (Nat.le_refl _) _).alloc (by simp) _).alloc (by simp <;> omega) _
  rw [hW]
  clear hW
  go_loopw [7, 11] (fun x i wr => ∃ (j : Nat) (m : List (Int × Bool)), j ≤ who.length ∧ i = .int .i64 j ∧ MapIs (Value.int .i64) Value.bool wr (w.heap.size + 1) m ∧ Hid (∀ x, mget m x = if x ∈ who.take j then some true else none) ∧ ConfAt wr w.heap.size A k c ∧ wr.heap[w.heap.size + 1 + 1]? = some (.cells #[.map (some (w.heap.size + 1))] 66 (0, 0)) ∧ Below w.heap.size w wr)
    (fun _ i _ => who.length - (intOf i).toNat)
  case atStart => exact ⟨0, [], Nat.zero_le _, rfl, hM0, Lib.hid (by simp [mget]), hc0, hb0, hB0⟩
  case round =>
    obtain ⟨j, m, hj, rfl, hM, hmm', hc, hb, hB⟩ := hrel
    obtain ⟨cb, fb⟩ := blk1 hb
    by_cases hlt : j < who.length
    · obtain ⟨b, o, rfl, hbo, d⟩ := (hr2.below hB).atI hlt
      have hst : ∀ y, mget (mput m who[j] true) y = if y ∈ who.take (j + 1) then some true else none := fun y => by
        rw [mget_mput, hmm'.out, ← List.take_append_getElem hlt]
        simp only [List.mem_append, List.mem_singleton]
        by_cases h1 : who[j] = y
        · simp [h1]
        · have : ¬ y = who[j] := fun e => h1 e.symm
          simp [h1, this]
      obtain ⟨x, hx⟩ : ∃ x, who[j] = x := ⟨_, rfl⟩
      rw [hx] at d hst
      have hst' := Lib.hid hst
      clear hst hx
      go_wp2_with (at_mapUpdate; refine wp_update rfl (.inl rfl) KeyI Tryz.underlying66 rfl (x := x) rfl (v := true) rfl hM ?_; intro w4 hM4 hg4 hz4)
      go_roundw
      case rel => exact ⟨j + 1, mput m x true, hlt, by go_num, hM4, hst', grown_own hg4 hc (by simp), grown_own hg4 hb (by simp), below_step hB hB.size hg4 (by simp)⟩
      case measure => simp [intOf]; omega
    · obtain rfl : j = who.length := by omega
      rw [List.take_length] at hmm'
      go_wp2_with fail
      have hth := fun W => those_any c A k W 28 #[.pointer (some ⟨w.heap.size + 1 + 1, 0, none⟩)]
      have hp : ∀ i : Nat, (mget m (i : Int)).getD false = decide ((i : Int) ∈ who) := fun i => by
        rw [hmm'.out]; by_cases h : (i : Int) ∈ who <;> simp [h]
      have hBk := lt_of_block hb
      have hMlt := MapIs_lt hM
      have hsum := fun W (hW : Below wr.heap.size wr W) (B : Nat) (hs : W.heap.size = B + 2) (hc : ConfAt W B A k c) (hf : W.heap[B + 1]? = some (.cells #[.func (.func 28) #[] #[.pointer (some ⟨w.heap.size + 1 + 1, 0, none⟩)]] 65 (0, 0))) =>
        sum_any c A k B (B + 1) (fun i => decide ((i : Int) ∈ who)) W ((hr.below hB).below hW) (fun W' hW' => thoseK_wt c A k B (B + 1) (w.heap.size + 1 + 1) (w.heap.size + 1) W.heap.size m _ W' (((hr.below hB).below hW).below hW') (hc.own hW') (bl_own hW' hf) (MapIs_below (MapIs_below hM hW) hW') (bl_own hW' (bl_own hW hb)) hp hW'.size (by omega) (by omega) (by have := hW.size; omega) (by have := hW.size; omega))
      unfold cfgv at hth hsum
      have hpp := hmm'
      clear hmm' hp hpp
      have c0 := blk_cell hc 0
      have c1 := blk_cell hc 1
      have c2 := blk_cell hc 2
      have c3 := blk_cell hc 3
      have c4 := blk_cell hc 4
      go_region_held3 (fun W' => W'.cell? ⟨w.heap.size, 0, none⟩ = some (.slice A c.W.length k) ∧ W'.cell? ⟨w.heap.size, 1, none⟩ = some (.int .u64 c.seed) ∧ W'.cell? ⟨w.heap.size, 2, none⟩ = some (.int .i64 c.epoch) ∧ W'.cell? ⟨w.heap.size, 3, none⟩ = some (.int .i64 c.num) ∧ W'.cell? ⟨w.heap.size, 4, none⟩ = some (.int .i64 c.den)) (first | exact ⟨c0, c1, c2, c3, c4⟩ | exact ⟨d0, d1, d2, d3, d4⟩ | exact ⟨e0, e1, e2, e3, e4⟩) ((first
        | (go_at_call 25; refine (hth _).mono ?_; rintro e w1 ⟨rfl, k1, k2, k3, hb1⟩; have hb1' := bl_own hb1 hc; have d0 := blk_cell hb1' 0; have d1 := blk_cell hb1' 1; have d2 := blk_cell hb1' 2; have d3 := blk_cell hb1' 3; have d4 := blk_cell hb1' 4; have hBw := below_call ((Below.refl wr.heap.size wr).drew) (Nat.le_refl _) hb1)
        | (go_at_call 27; refine (hsum _ hBw _ k3 k1 k2).mono ?_; rintro e w2 ⟨rfl, hb2⟩; have hb2' := bl_own hb2 hb1'; have e0 := blk_cell hb2' 0; have e1 := blk_cell hb2' 1; have e2 := blk_cell hb2' 2; have e3 := blk_cell hb2' 3; have e4 := blk_cell hb2' 4)))
      go_wp2
      go_ret
      exact ⟨rfl, below_call (below_call hB hB.size hBw) (Nat.le_trans hB.size hBw.size) hb2⟩
end Go.Proofs.YtdocgemfedohdaaGreat
/-! The walk of weigh.On's closures. -/
namespace Go.Proofs.YtdocgemfedohdaaGreat
open Go.RowKit
theorem grown_below {w w' : World} (h : Below w.heap.size w w') (row : Option Nat) : w.grownBy w' row := ⟨h.os, h.tape, h.output, h.size, fun k hk _ => h.block k hk⟩
/-- What a cache holds is true. -/
def CacheOk (l : List Blk) (id : ID) (m : List (ID × Bool)) : Prop := ∀ x r, mget m x = some r → r = decide (id ∈ chain l x)
set_option maxRecDepth 100000 in
set_option maxHeartbeats 2000000 in
theorem on1_any (l : List Blk) (id : ID) (v : Vote) (A : Option Addr) (c Bm Bl Bi M : Nat) (m : List (ID × Bool)) (w : World) (hr : Rd 5 encBlk w A l) (hl : l.length ≤ 100000)
    (hM : MapIs idv Value.bool w M m) (hm : CacheOk l id m) (h1 : w.heap[Bm]? = some (.cells #[.map (some M)] 124 (0, 0))) (h2 : w.heap[Bl]? = some (.cells #[.slice A l.length c] 26 (0, 0)))
    (h3 : w.heap[Bi]? = some (.cells #[.int .u64 id.hi, .int .u64 id.lo] 28 (0, 0))) :
    Calls Tryz.prog 54 #[votev v, .pointer (some ⟨Bm, 0, none⟩), .pointer (some ⟨Bl, 0, none⟩), .pointer (some ⟨Bi, 0, none⟩)] w fun e w' =>
      e = .returned (.bool (decide (id ∈ chain l v.head))) ∧ (∃ m', MapIs idv Value.bool w' M m' ∧ CacheOk l id m') ∧ w.grownBy w' (some M) := by
  have hcall := fun W (hW : Below w.heap.size w W) => chain_any l v.head A c W (hr.below hW) (fun m h => tree_ahead h) hl
  unfold idv votev at *
  have hW : ∃ W, w.alloc (.cells #[.int .i64 v.frm, .int .i64 v.slot, .int .u64 v.head.hi, .int .u64 v.head.lo] 37) = W := ⟨_, rfl⟩
  obtain ⟨W, hW⟩ := hW
  have hB : Below w.heap.size w W := by subst hW; exact (Below.refl _ w).alloc (Nat.le_refl _) _
  have hb : W.heap[w.heap.size]? = some (.cells #[.int .i64 v.frm, .int .i64 v.slot, .int .u64 v.head.hi, .int .u64 v.head.lo] 37 (0, 0)) := by subst hW; exact ha_at rfl
  have hMW := MapIs_below hM hB
  obtain ⟨c1, f1⟩ := blk1 (bl_own hB h1)
  obtain ⟨c2, f2⟩ := blk1 (bl_own hB h2)
  obtain ⟨c3, c4, f3, f4⟩ := blk2 (bl_own hB h3)
  have d2 := blk_cell hb 2
  have d3 := blk_cell hb 3
  cases hg : mget m v.head with
  | some r =>
    have hr' := Lib.hid (hm _ _ hg)
    have hm' := Lib.hid hm
    clear hm
    cases r with
    | true =>
      go_enter Tryz.func54, Tryz.ntmps54
      go_wp2_with (at_lookup; refine wp_lookup (x := v.head) rfl rfl KeyID Tryz.underlying124 (Tryz.zeroValue4 _) rfl rfl hMW (r := .tuple #[.bool true, .bool true]) (by rw [hg]; rfl) ?_)
      go_ret
      exact ⟨ret_bool hr'.out, ⟨m, hMW, hm'.out⟩, grown_below hB _⟩
    | false =>
      go_enter Tryz.func54, Tryz.ntmps54
      go_wp2_with (at_lookup; refine wp_lookup (x := v.head) rfl rfl KeyID Tryz.underlying124 (Tryz.zeroValue4 _) rfl rfl hMW (r := .tuple #[.bool false, .bool true]) (by rw [hg]; rfl) ?_)
      go_ret
      exact ⟨ret_bool hr'.out, ⟨m, hMW, hm'.out⟩, grown_below hB _⟩
  | none =>
    have hm' : Hid (CacheOk l id (mput m v.head (decide (id ∈ chain l v.head)))) := Lib.hid (fun x r hx => by
      rw [mget_mput] at hx
      split at hx
      · rename_i e; subst e; simpa using hx.symm
      · exact hm x r hx)
    clear hm
    go_enter Tryz.func54, Tryz.ntmps54
    go_wp2_with (at_lookup; refine wp_lookup (x := v.head) rfl rfl KeyID Tryz.underlying124 (Tryz.zeroValue4 _) rfl rfl hMW (r := .tuple #[.bool false, .bool false]) (by rw [hg]; rfl) ?_)
    obtain ⟨r, hrr⟩ : ∃ r, decide (id ∈ chain l v.head) = r := ⟨_, rfl⟩
    have hrr' := Lib.hid hrr
    rw [hrr] at hm'
    have hb1 := bl_own hB h1
    have hb2 := bl_own hB h2
    have hb3 := bl_own hB h3
    have hsz : W.heap.size = w.heap.size + 1 := by subst hW; simp
    have hlM := MapIs_lt hM
    clear hg hW
    go_region_held3 (fun W' => W'.cell? ⟨Bl, 0, none⟩ = some (.slice A l.length c) ∧ W'.cell? ⟨w.heap.size, 2, none⟩ = some (.int .u64 v.head.hi) ∧ W'.cell? ⟨w.heap.size, 3, none⟩ = some (.int .u64 v.head.lo) ∧ W'.cell? ⟨Bi, 0, none⟩ = some (.int .u64 id.hi) ∧ W'.cell? ⟨Bi, 1, none⟩ = some (.int .u64 id.lo)) (first | exact ⟨c2, d2, d3, c3, c4⟩ | exact ⟨e1, e2, e3, e4, e5⟩ | exact ⟨g1, g2, g3, g4, g5⟩) ((first
      | (go_at_call 8; refine (hcall _ hB.drew).mono ?_; rintro e w1 ⟨u, rfl, hown, hk1⟩; obtain ⟨A', c', rfl, hR⟩ := hown.rd encID_len; obtain ⟨e1, _⟩ := blk1 (bl_own hk1 hb2); have e2 := blk_cell (bl_own hk1 hb) 2; have e3 := blk_cell (bl_own hk1 hb) 3; obtain ⟨e4, e5, _, _⟩ := blk2 (bl_own hk1 hb3))
      | (go_at_call 33; refine (contains_any id (chain l v.head) _ _ _ hR).mono ?_; rintro e w2 ⟨rfl, hk2⟩; obtain ⟨g1, _⟩ := blk1 (bl_own hk2 (bl_own hk1 hb2)); have g2 := blk_cell (bl_own hk2 (bl_own hk1 hb)) 2; have g3 := blk_cell (bl_own hk2 (bl_own hk1 hb)) 3; obtain ⟨g4, g5, _, _⟩ := blk2 (bl_own hk2 (bl_own hk1 hb3)))))
    obtain ⟨g6, _⟩ := blk1 (bl_own hk2 (bl_own hk1 hb1))
    have hB2 := below_call (below_call hB.drew hB.size hk1) (Nat.le_trans hB.size hk1.size) hk2
    have hM2 := MapIs_below hM hB2
    clear hrr
    go_wp2_with (at_mapUpdate; refine wp_update rfl (.inl rfl) KeyID Tryz.underlying124 rfl (x := v.head) rfl (v := r) rfl hM2 ?_; intro w4 hM4 hg4 hz4)
    go_ret
    exact ⟨ret_bool hrr'.out.symm, ⟨_, hM4, hm'.out⟩, grown_trans (grown_below hB2 _) hg4⟩
end Go.Proofs.YtdocgemfedohdaaGreat
/-! The walks of weigh.told, weigh.On, weigh.All. -/
namespace Go.Proofs.YtdocgemfedohdaaGreat
open Go.RowKit
set_option maxRecDepth 100000 in
theorem on2_any (v : Vote) (w : World) :
    Calls Tryz.prog 56 #[votev v] w fun e w' => e = .returned (.int .i64 v.frm) ∧ Below w.heap.size w w' := by
  unfold votev
  have hW : ∃ W, w.alloc (.cells #[.int .i64 v.frm, .int .i64 v.slot, .int .u64 v.head.hi, .int .u64 v.head.lo] 37) = W := ⟨_, rfl⟩
  obtain ⟨W, hW⟩ := hW
  have hB : Below w.heap.size w W := by subst hW; exact (Below.refl _ w).alloc (Nat.le_refl _) _
  have hb : W.heap[w.heap.size]? = some (.cells #[.int .i64 v.frm, .int .i64 v.slot, .int .u64 v.head.hi, .int .u64 v.head.lo] 37 (0, 0)) := by subst hW; exact ha_at rfl
  have d0 := blk_cell hb 0
  go_enter Tryz.func56, Tryz.ntmps56
  go_wp2_with fail
  go_ret
  exact ⟨rfl, hB⟩
/-- Who has a vote for id, or for what stands on it. -/
def whoOn (l : List Blk) (vs : List Vote) (id : ID) : List Int := (vs.filter fun v => decide (id ∈ chain l v.head)).map Vote.frm
theorem whoOn_snoc {l : List Blk} {vs : List Vote} {id : ID} {k : Nat} (hlt : k < vs.length) : whoOn l (vs.take (k + 1)) id = whoOn l (vs.take k) id ++ (if id ∈ chain l vs[k].head then [vs[k].frm] else []) := by
  unfold whoOn
  rw [← List.take_append_getElem hlt, List.filter_append, List.map_append]
  by_cases h : id ∈ chain l vs[k].head <;> simp [h]
theorem whoOn_len (l : List Blk) (vs : List Vote) (id : ID) : (whoOn l vs id).length ≤ vs.length := by
  unfold whoOn
  rw [List.length_map]
  exact List.length_filter_le _ _
theorem grown_row {w w1 w2 : World} {M : Nat} {r : Option Nat} (h : w.grownBy w1 (some M)) (hg : w1.grownBy w2 r) (hr : ∀ k, r = some k → w.heap.size ≤ k) : w.grownBy w2 (some M) :=
  ⟨hg.os.trans h.os, hg.tape.trans h.tape, hg.output.trans h.output, Nat.le_trans h.size hg.size, fun k hk hne => (hg.block k (Nat.lt_of_lt_of_le hk h.size) (fun e => by have := hr k e.symm; omega)).trans (h.block k hk hne)⟩
set_option maxRecDepth 100000 in
set_option maxHeartbeats 2000000 in
theorem told_any (l : List Blk) (id : ID) (vs : List Vote) (A A3 : Option Addr) (c c3 Bm Bl Bi M : Nat) (m : List (ID × Bool)) (w : World) (w0 : World) (hw0 : Below w0.heap.size w0 w) (hr : Rd 5 encBlk w0 A l) (hr3 : Rd 4 encVote w0 A3 vs) (hl : l.length ≤ 100000) (hvl : vs.length ≤ 100000)
    (hM : MapIs idv Value.bool w M m) (hm : CacheOk l id m) (h1 : w.heap[Bm]? = some (.cells #[.map (some M)] 124 (0, 0))) (h2 : w.heap[Bl]? = some (.cells #[.slice A l.length c] 26 (0, 0)))
    (h3 : w.heap[Bi]? = some (.cells #[.int .u64 id.hi, .int .u64 id.lo] 28 (0, 0))) (hM0 : w0.heap.size ≤ M) :
    Calls Tryz.prog 55 #[.slice A3 vs.length c3, .func (.func 54) #[] #[.pointer (some ⟨Bm, 0, none⟩), .pointer (some ⟨Bl, 0, none⟩), .pointer (some ⟨Bi, 0, none⟩)], .func (.func 56) #[] #[]] w fun e w' =>
      ∃ v, e = .returned v ∧ Own w' w.heap.size 3 1 encI v (whoOn l vs id) ∧ w.grownBy w' (some M) := by
  have hm3 := hr3.1
  have hun := Tryz.underlying22
  have hn1 : some Bm ≠ some M := fun e => by obtain ⟨es, clk, hk, _⟩ := hM; cases e; rw [h1] at hk; cases hk
  have hn2 : some Bl ≠ some M := fun e => by obtain ⟨es, clk, hk, _⟩ := hM; cases e; rw [h2] at hk; cases hk
  have hn3 : some Bi ≠ some M := fun e => by obtain ⟨es, clk, hk, _⟩ := hM; cases e; rw [h3] at hk; cases hk
  have hlM := MapIs_lt hM
  go_enter Tryz.func55, Tryz.ntmps55
  go_wp2_with fail
  go_loopw [7, 9, 12] (fun v _x i wr => ∃ (k : Nat) (m : List (ID × Bool)), k ≤ vs.length ∧ i = .int .i64 k ∧ Own wr w.heap.size 3 1 encI v (whoOn l (vs.take k) id) ∧ MapIs idv Value.bool wr M m ∧ CacheOk l id m ∧ w.grownBy wr (some M)) (fun _ _ i _ => vs.length - (intOf i).toNat)
  case atStart => exact ⟨0, m, Nat.zero_le _, rfl, Own.nil _ _ _ _ _, hM, hm, grown_below (Below.refl _ _) _⟩
  case round =>
    obtain ⟨k, m, hk, rfl, hown, hM', hm', hG⟩ := hrel
    have hBr := below_step hw0 hw0.size hG (fun k e => by cases e; exact hM0)
    by_cases hlt : k < vs.length
    · obtain ⟨b', o, rfl, hbo, d0, d1, d2, d3⟩ := (hr3.below hBr).atVote hlt
      have hsn := whoOn_snoc (l := l) (id := id) hlt
      have hle := whoOn_len l (vs.take k) id
      obtain ⟨x, hx⟩ : ∃ x, vs[k] = x := ⟨_, rfl⟩
      rw [hx] at d0 d1 d2 d3 hsn
      clear hx
      have hvb : ∀ j, u7.ownBlock = some j → w.heap.size ≤ j := fun j hj => (hown.base j hj).1
      have hW1 : Below wr.heap.size wr (wr.alloc (.cells #[.int .i64 x.frm, .int .i64 x.slot, .int .u64 x.head.hi, .int .u64 x.head.lo] 37)) := (Below.refl _ wr).alloc (Nat.le_refl _) _
      have hb1 : (wr.alloc (.cells #[.int .i64 x.frm, .int .i64 x.slot, .int .u64 x.head.hi, .int .u64 x.head.lo] 37)).heap[wr.heap.size]? = some (.cells #[.int .i64 x.frm, .int .i64 x.slot, .int .u64 x.head.hi, .int .u64 x.head.lo] 37 (0, 0)) := ha_at rfl
      have hG1 := grown_trans hG (grown_below hW1 _)
      have hM1 := MapIs_below hM' hW1
      have ho1 := hown.below hW1
      have hon := on1_any l id x A c Bm Bl Bi M m _ ((hr.below hBr).below hW1) hl hM1 hm' (grown_own hG1 h1 hn1) (grown_own hG1 h2 hn2) (grown_own hG1 h3 hn3)
      have hrd : Below w0.heap.size w0 (wr.alloc (.cells #[.int .i64 x.frm, .int .i64 x.slot, .int .u64 x.head.hi, .int .u64 x.head.lo] 37)) := below_call hBr hBr.size hW1
      have hW := on2_any x
      have hne : some wr.heap.size ≠ some M := fun e => by have := MapIs_lt hM'; cases e; omega
      have hlen : (whoOn l (vs.take k) id).length ≤ 100000 := by have : (vs.take k).length ≤ vs.length := by simp; omega
                                                                 omega
      clear hle
      unfold votev at hon hW
      by_cases hin : id ∈ chain l x.head
      · have hd : decide (id ∈ chain l x.head) = true := by simpa using hin
        rw [hd] at hon
        rw [if_pos hin] at hsn
        have hsn' := Lib.hid hsn
        clear hsn hd hin
        go_wp2_with (first
          | (go_at_call 54; refine hon.mono ?_; clear hon; rintro e w2 ⟨rfl, ⟨m2, hM2, hm2⟩, hg2⟩; have hb2 := grown_own hg2 hb1 hne; have d0' := blk_cell hb2 0; have d1' := blk_cell hb2 1; have d2' := blk_cell hb2 2; have d3' := blk_cell hb2 3)
          | (go_at_call 56; refine (hW _).mono ?_; clear hW; rintro e w3 ⟨rfl, hb3⟩; have hW4 : Below w3.heap.size w3 (w3.alloc (.cells #[.int .i64 x.frm] 3)) := (Below.refl _ w3).alloc (Nat.le_refl _) _; have ho4 := ((ho1.grown hg2 (.inr (fun e => by have := hvb _ e; omega))).below hb3).below hW4; have hG4 := grown_trans (grown_trans (grown_trans hG1 hg2) (grown_below hb3 (some M))) (grown_below hW4 (some M)); have hM4 := MapIs_below (MapIs_below hM2 hb3) hW4)
          | (at_builtin; refine wp_append1 rfl rfl hun infoI rfl (by decide) encI_len encI_one rfl ho4 (g := w3.heap.size) (c := 1) rfl (y := x.frm) (ha_at rfl) rfl (by omega) (by unfold maxLen; omega) hG4.size ?_; intro v' w5 ho5 hg5 hat5))
        go_roundw
        case rel => exact ⟨k + 1, m2, hlt, by go_num, by rw [hsn'.out]; exact ho5, MapIs_grown hM4 hg5 (fun e => by have := hvb _ e.symm; omega), hm2, grown_row hG4 hg5 hvb⟩
        case measure => simp [intOf]; omega
      · have hd : decide (id ∈ chain l x.head) = false := by simpa using hin
        rw [hd] at hon
        rw [if_neg hin] at hsn
        have hsn' := Lib.hid hsn
        clear hsn hd hin
        go_wp2_with (go_at_call 54; refine hon.mono ?_; clear hon; rintro e w2 ⟨rfl, ⟨m2, hM2, hm2⟩, hg2⟩)
        go_roundw
        case rel => exact ⟨k + 1, m2, hlt, by go_num, by rw [hsn'.out, List.append_nil]; exact ho1.grown hg2 (.inr (fun e => by have := hvb _ e; omega)), hM2, hm2, grown_trans hG1 hg2⟩
        case measure => simp [intOf]; omega
    · obtain rfl : k = vs.length := by omega
      rw [List.take_length] at hown
      go_wp2_with fail
      go_ret
      exact ⟨_, rfl, hown, hG⟩
def onC (c : Cfg) (l : List Blk) (vs : List Vote) (id : ID) : Int := weightC c (whoOn l vs id)
set_option maxRecDepth 100000 in
set_option maxHeartbeats 2000000 in
theorem on_any (c : Cfg) (l : List Blk) (vs : List Vote) (id : ID) (A A2 A3 : Option Addr) (k k2 k3 : Nat) (w : World) (hr : Rd 1 encI w A c.W) (hr2 : Rd 5 encBlk w A2 l) (hr3 : Rd 4 encVote w A3 vs) (hl : l.length ≤ 100000) (hvl : vs.length ≤ 100000) :
    Calls Tryz.prog 43 #[cfgv A k c, .slice A2 l.length k2, .slice A3 vs.length k3, idv id] w fun e w' => e = .returned (.int .i64 (onC c l vs id)) ∧ Below w.heap.size w w' := by
  have hmm := @run_makeMap Tryz.prog
  have hm := hr.1
  have hm2 := hr2.1
  have hm3 := hr3.1
  unfold cfgv idv
  go_enter Tryz.func43, Tryz.ntmps43
  go_wp2_with fail
  have hW : ∃ W, (((((w.alloc (.cells #[.slice A c.W.length k, .int .u64 c.seed, .int .i64 c.epoch, .int .i64 c.num, .int .i64 c.den] 25)).alloc (.cells #[.slice A2 l.length k2] 26)).alloc (.cells #[.int .u64 id.hi, .int .u64 id.lo] 28)).alloc (.map #[] 0)).alloc (.cells #[.map (some (w.heap.size + 1 + 1 + 1))] 124)) = W := ⟨_, rfl⟩
  obtain ⟨W, hW⟩ := hW
  have hB : Below w.heap.size w W := by subst hW; exact (((((Below.refl _ w).alloc (Nat.le_refl _) _).alloc (by simp) _).alloc (by simp <;> omega) _).alloc (by simp <;> omega) _).alloc (by simp <;> omega) _
  have b0 : W.heap[w.heap.size]? = some (.cells #[.slice A c.W.length k, .int .u64 c.seed, .int .i64 c.epoch, .int .i64 c.num, .int .i64 c.den] 25 (0, 0)) := by subst hW; exact ha_lt (ha_lt (ha_lt (ha_lt (ha_at rfl))))
  have b1 : W.heap[w.heap.size + 1]? = some (.cells #[.slice A2 l.length k2] 26 (0, 0)) := by subst hW; exact ha_lt (ha_lt (ha_lt (ha_at (by simp))))
  have b2 : W.heap[w.heap.size + 1 + 1]? = some (.cells #[.int .u64 id.hi, .int .u64 id.lo] 28 (0, 0)) := by subst hW; exact ha_lt (ha_lt (ha_at (by simp)))
  have b4 : W.heap[w.heap.size + 1 + 1 + 1 + 1]? = some (.cells #[.map (some (w.heap.size + 1 + 1 + 1))] 124 (0, 0)) := by subst hW; exact ha_at (by simp)
  have bM : MapIs idv Value.bool W (w.heap.size + 1 + 1 + 1) ([] : List (ID × Bool)) := by subst hW; exact MapIs_alloc (MapIs_new _ _ (ha_at (by simp))) _
  rw [hW]
  clear hW
  have htold := fun V (hV : Below W.heap.size W V) => told_any l id vs A2 A3 k2 k3 _ _ _ _ [] V w (below_call hB hB.size hV) hr2 hr3 hl hvl (MapIs_below bM hV) (fun x r h => by simp [mget] at h) (bl_own hV b4) (bl_own hV b1) (bl_own hV b2) (by omega)
  have hwei := fun V (hV : Below w.heap.size w V) (A' : Option Addr) (k' : Nat) (hR : Rd 1 encI V A' (whoOn l vs id)) => dweight_any c (whoOn l vs id) A A' k k' V (hr.below hV) hR
  unfold cfgv at hwei
  have c0 := blk_cell b0 0
  have c1 := blk_cell b0 1
  have c2 := blk_cell b0 2
  have c3 := blk_cell b0 3
  have c4 := blk_cell b0 4
  go_region_held3 (fun W' => W'.cell? ⟨w.heap.size, 0, none⟩ = some (.slice A c.W.length k) ∧ W'.cell? ⟨w.heap.size, 1, none⟩ = some (.int .u64 c.seed) ∧ W'.cell? ⟨w.heap.size, 2, none⟩ = some (.int .i64 c.epoch) ∧ W'.cell? ⟨w.heap.size, 3, none⟩ = some (.int .i64 c.num) ∧ W'.cell? ⟨w.heap.size, 4, none⟩ = some (.int .i64 c.den)) (first | exact ⟨c0, c1, c2, c3, c4⟩ | exact ⟨d0, d1, d2, d3, d4⟩ | exact ⟨e0, e1, e2, e3, e4⟩) ((first
    | (go_at_call 55; refine (htold _ ((Below.refl _ W).drew)).mono ?_; rintro e w1 ⟨u, rfl, hown, hg1⟩; have hb1 := below_step hB.drew hB.size hg1 (fun k e => by cases e; omega); obtain ⟨A', c', rfl, hR⟩ := hown.rd encI_len; have b0' := grown_own hg1 b0 (by simp <;> omega); have d0 := blk_cell b0' 0; have d1 := blk_cell b0' 1; have d2 := blk_cell b0' 2; have d3 := blk_cell b0' 3; have d4 := blk_cell b0' 4)
    | (go_at_call 10; refine (hwei _ hb1 _ _ hR).mono ?_; rintro e w2 ⟨rfl, hb2⟩; have b0'' := bl_own hb2 b0'; have e0 := blk_cell b0'' 0; have e1 := blk_cell b0'' 1; have e2 := blk_cell b0'' 2; have e3 := blk_cell b0'' 3; have e4 := blk_cell b0'' 4)))
  go_wp2
  go_ret
  exact ⟨rfl, below_call hb1 hb1.size hb2⟩
end Go.Proofs.YtdocgemfedohdaaGreat
/-! The walks of marigoldref08's OnIn, On, All. -/
namespace Go.Proofs.YtdocgemfedohdaaGreat
open Go.RowKit
theorem wsumTo_false (W : List Int) (k : Nat) : wsumTo W (fun _ => false) k = 0 := by
  induction k with
  | zero => rfl
  | succ k ih => simp [wsumTo, ih]
theorem weightC_nil (c : Cfg) : weightC c [] = 0 := by
  unfold weightC
  split
  · have : (fun i : Nat => decide ((i : Int) ∈ ([] : List Int))) = fun _ => false := by funext i; simp
    rw [this, wsumTo_false]
  · rfl
theorem onC_notree {l : List Blk} (h : ¬ Tree l) (c : Cfg) (vs : List Vote) (id : ID) : onC c l vs id = 0 := by
  have : whoOn l vs id = [] := by
    unfold whoOn
    simp [chain_notree h]
  unfold onC
  rw [this, weightC_nil]
end Go.Proofs.YtdocgemfedohdaaGreat
/-! More on chains and on what some weigh: plain laws. -/
namespace Go.Proofs.YtdocgemfedohdaaGreat
theorem tree_ind {l : List Blk} (ht : Tree l) {P : ID → Prop} (h0 : P zid) (hs : ∀ n (hn : n < l.length), P l[n].par → P (nameOf l[n])) : ∀ n (hn : n < l.length), P (nameOf l[n]) := by
  intro n
  induction n using Nat.strongRecOn with
  | ind n ih =>
    intro hn
    apply hs n hn
    rcases (ht n hn).2.2 with h | ⟨_, c, hc, h, _⟩
    · rw [h.1]; exact h0
    · obtain ⟨j, hj, rfl⟩ := List.getElem_of_mem hc
      simp only [List.length_take] at hj
      rw [← h]
      simp only [List.getElem_take]
      exact ih j (by omega) (by omega)
theorem known_or {l : List Blk} (x : ID) : x = zid ∨ (∃ (n : Nat) (hn : n < l.length), nameOf l[n] = x) ∨ (chain l x = [] ∧ x ≠ zid ∧ ∀ b ∈ l, nameOf b ≠ x) := by
  by_cases hx : x = zid
  · exact .inl hx
  · by_cases hb : ∃ b ∈ l, nameOf b = x
    · obtain ⟨b, hb, e⟩ := hb
      obtain ⟨n, hn, rfl⟩ := List.getElem_of_mem hb
      exact .inr (.inl ⟨n, hn, e⟩)
    · have hb' : ∀ b ∈ l, nameOf b ≠ x := fun b h e => hb ⟨b, h, e⟩
      exact .inr (.inr ⟨chain_unknown hx hb', hx, hb'⟩)
theorem chain_ind {l : List Blk} (ht : Tree l) {P : ID → List ID → Prop} (hn : ∀ x, P x []) (h0 : P zid [zid]) (hs : ∀ n (hn : n < l.length), P l[n].par (chain l l[n].par) → P (nameOf l[n]) (nameOf l[n] :: chain l l[n].par)) (x : ID) : P x (chain l x) := by
  rcases known_or (l := l) x with rfl | ⟨n, hlt, rfl⟩ | ⟨h, _⟩
  · rw [chain_zid ht]; exact h0
  · refine tree_ind ht (P := fun x => P x (chain l x)) (by rw [chain_zid ht]; exact h0) (fun n hlt ih => ?_) n hlt
    rw [chain_cons ht hlt]
    exact hs n hlt ih
  · rw [h]; exact hn x
theorem chain_trans {l : List Blk} {x id y : ID} (h1 : id ∈ chain l x) (h2 : y ∈ chain l id) : y ∈ chain l x := by
  by_cases ht : Tree l
  · revert h1 h2
    refine chain_ind ht (P := fun _ ch => id ∈ ch → y ∈ chain l id → y ∈ ch) (fun _ h => by simp at h) ?_ ?_ x
    · intro h1 h2
      simp only [List.mem_singleton] at h1
      subst h1
      rwa [chain_zid ht] at h2
    · intro n hn ih h1 h2
      rcases List.mem_cons.1 h1 with rfl | h1
      · rwa [chain_cons ht hn] at h2
      · exact List.mem_cons_of_mem _ (ih h1 h2)
  · rw [chain_notree ht] at h1; simp at h1
theorem chain_zmem {l : List Blk} {x : ID} (h : chain l x ≠ []) : zid ∈ chain l x := by
  by_cases ht : Tree l
  · revert h
    refine chain_ind ht (P := fun _ ch => ch ≠ [] → zid ∈ ch) (fun _ h => absurd rfl h) (by simp) ?_ x
    intro n hn ih _
    apply List.mem_cons_of_mem
    apply ih
    obtain ⟨r, hr⟩ := chain_head ht (par_mem ht hn)
    rw [hr]; simp
  · rw [chain_notree ht] at h; exact absurd rfl h
theorem chain_self {l : List Blk} {x : ID} (h : chain l x ≠ []) : x ∈ chain l x := by
  by_cases ht : Tree l
  · rcases known_or (l := l) x with rfl | ⟨n, hlt, rfl⟩ | ⟨h', _⟩
    · rw [chain_zid ht]; simp
    · rw [chain_cons ht hlt]; simp
    · exact absurd h' h
  · rw [chain_notree ht] at h; exact absurd rfl h
theorem chain_mem {l : List Blk} {x y : ID} (h : y ∈ chain l x) : chain l y ≠ [] := by
  by_cases ht : Tree l
  · revert h
    refine chain_ind ht (P := fun _ ch => y ∈ ch → chain l y ≠ []) (fun _ h => by simp at h) ?_ ?_ x
    · intro h; simp only [List.mem_singleton] at h; subst h; rw [chain_zid ht]; simp
    · intro n hn ih h
      rcases List.mem_cons.1 h with rfl | h
      · rw [chain_cons ht hn]; simp
      · exact ih h
  · rw [chain_notree ht] at h; simp at h
theorem chain_known {l : List Blk} {x : ID} (h : chain l x ≠ []) : x = zid ∨ ∃ b ∈ l, nameOf b = x := by
  rcases known_or (l := l) x with rfl | ⟨n, hlt, rfl⟩ | ⟨h', _⟩
  · exact .inl rfl
  · exact .inr ⟨_, List.getElem_mem hlt, rfl⟩
  · exact absurd h' h
theorem tree_app {l : List Blk} {b : Blk} (h : Tree (l ++ [b])) : Tree l ∧ Okb l b := by
  have hk : l.length < (l ++ [b]).length := by simp
  have h' : Tree ((l ++ [b]).take (l.length + 1)) := by rw [List.take_of_length_le (by simp)]; exact h
  obtain ⟨h1, h2⟩ := (tree_snoc hk).1 h'
  rw [List.take_left] at h1 h2
  rw [List.getElem_concat_length rfl] at h2
  exact ⟨h1, h2⟩
/-- One block more turns no other chain. -/
theorem chain_snoc {l : List Blk} {b : Blk} (ht : Tree (l ++ [b])) {x : ID} (hx : x ≠ nameOf b) : chain (l ++ [b]) x = chain l x := by
  obtain ⟨htl, hb⟩ := tree_app ht
  have hk : ∀ n (hn : n < l.length), chain (l ++ [b]) (nameOf l[n]) = chain l (nameOf l[n]) := by
    refine tree_ind htl (P := fun x => chain (l ++ [b]) x = chain l x) (by rw [chain_zid ht, chain_zid htl]) (fun n hn ih => ?_)
    have hn' : n < (l ++ [b]).length := by simp; omega
    have e : (l ++ [b])[n] = l[n] := List.getElem_append_left hn
    have := chain_cons ht hn'
    rw [e] at this
    rw [this, chain_cons htl hn, ih]
  rcases known_or (l := l) x with rfl | ⟨n, hlt, rfl⟩ | ⟨h', h0, hn⟩
  · rw [chain_zid ht, chain_zid htl]
  · exact hk n hlt
  · rw [h']
    refine chain_unknown h0 (fun c hc => ?_)
    rcases List.mem_append.1 hc with hc | hc
    · exact hn c hc
    · simp only [List.mem_singleton] at hc; subst hc; exact fun e => hx e.symm
theorem chain_new {l : List Blk} {b : Blk} (ht : Tree (l ++ [b])) (x : ID) : nameOf b ∉ chain l x := by
  obtain ⟨htl, hb⟩ := tree_app ht
  intro h
  rcases chain_known (chain_mem h) with e | ⟨c, hc, e⟩
  · exact hb.1 e
  · exact hb.2.1 c hc e
/-! What some weigh. -/
theorem wsumTo_mono {W : List Int} (h : ∀ x ∈ W, 0 ≤ x ∧ x ≤ 1099511627776) {p q : Nat → Bool} (hpq : ∀ i, p i = true → q i = true) (k : Nat) : wsumTo W p k ≤ wsumTo W q k := by
  induction k with
  | zero => simp [wsumTo]
  | succ k ih =>
    simp only [wsumTo]
    have hx : 0 ≤ W[k]?.getD 0 := by
      cases hk : W[k]? with
      | none => simp
      | some x => exact (h x (List.mem_of_getElem? hk)).1
    have := hpq k
    cases hp : p k <;> cases hq : q k <;> simp_all <;> omega
theorem weightC_mono (c : Cfg) {a b : List Int} (h : ∀ x ∈ a, x ∈ b) : weightC c a ≤ weightC c b := by
  unfold weightC
  split
  · rename_i hm
    exact wsumTo_mono hm.W (fun i hi => by simp only [decide_eq_true_eq] at hi ⊢; exact h _ hi) _
  · omega
theorem weightC_total (c : Cfg) (a : List Int) : weightC c a ≤ totalC c := by
  unfold weightC totalC
  split
  · rename_i hm
    exact wsumTo_mono hm.W (fun _ _ => rfl) _
  · omega
theorem weightC_bd (c : Cfg) (a : List Int) : 0 ≤ weightC c a ∧ weightC c a ≤ 13194139533312 := by
  unfold weightC
  split
  · rename_i hm
    have := wsumTo_bd hm.W (fun i => decide ((i : Int) ∈ a)) c.W.length
    have := hm.len
    omega
  · omega
theorem whoOn_sub {l : List Blk} {vs vs' : List Vote} {id id' : ID} (h : ∀ v ∈ vs, id ∈ chain l v.head → v ∈ vs' ∧ id' ∈ chain l v.head) : ∀ x ∈ whoOn l vs id, x ∈ whoOn l vs' id' := by
  intro x hx
  unfold whoOn at *
  obtain ⟨v, hv, rfl⟩ := List.mem_map.1 hx
  rw [List.mem_filter] at hv
  obtain ⟨h1, h2⟩ := hv
  simp only [decide_eq_true_eq] at h2
  obtain ⟨h3, h4⟩ := h v h1 h2
  exact List.mem_map.2 ⟨v, List.mem_filter.2 ⟨h3, by simpa using h4⟩, rfl⟩
theorem onC_more (c : Cfg) (l : List Blk) (vs : List Vote) (x : Vote) (id : ID) : onC c l vs id ≤ onC c l (vs ++ [x]) id :=
  weightC_mono c (whoOn_sub fun _ hv h => ⟨List.mem_append_left _ hv, h⟩)
theorem onC_all (c : Cfg) (l : List Blk) (vs : List Vote) (id : ID) : onC c l vs id ≤ onC c l vs zid :=
  weightC_mono c (whoOn_sub fun _ hv h => ⟨hv, chain_zmem (fun e => by rw [e] at h; simp at h)⟩)
theorem onC_low (c : Cfg) (l : List Blk) (vs : List Vote) {low id : ID} (h : low ∈ chain l id) : onC c l vs id ≤ onC c l vs low :=
  weightC_mono c (whoOn_sub fun _ hv h' => ⟨hv, chain_trans h' h⟩)
theorem onC_snoc (c : Cfg) {l : List Blk} {b : Blk} (vs : List Vote) (id : ID) (ht : Tree (l ++ [b])) (hv : ∀ v ∈ vs, v.head ≠ nameOf b) : onC c (l ++ [b]) vs id = onC c l vs id := by
  unfold onC
  congr 1
  unfold whoOn
  congr 1
  apply List.filter_congr
  intro v hm
  rw [chain_snoc ht (hv v hm)]
theorem onC_new (c : Cfg) {l : List Blk} {b : Blk} (vs : List Vote) (ht : Tree (l ++ [b])) (hv : ∀ v ∈ vs, v.head ≠ nameOf b) : onC c (l ++ [b]) vs (nameOf b) = 0 := by
  have : whoOn (l ++ [b]) vs (nameOf b) = [] := by
    unfold whoOn
    rw [List.map_eq_nil_iff, List.filter_eq_nil_iff]
    intro v hm
    rw [chain_snoc ht (hv v hm)]
    simpa using chain_new ht v.head
  unfold onC
  rw [this, weightC_nil]
/-! All weigh twice as much. -/
def dbl (c : Cfg) : Cfg := { c with W := c.W.map (2 * ·) }
theorem wsumTo_dbl (W : List Int) (p : Nat → Bool) (k : Nat) : wsumTo (W.map (2 * ·)) p k = 2 * wsumTo W p k := by
  induction k with
  | zero => simp [wsumTo]
  | succ k ih =>
    simp only [wsumTo, ih, List.getElem?_map]
    cases hW : W[k]? <;> cases hp : p k <;> simp <;> omega
theorem onC_dbl {c : Cfg} (hm : MayC c) (hs : ∀ x ∈ c.W, x ≤ 549755813888) (l : List Blk) (vs : List Vote) (id : ID) : onC (dbl c) l vs id = 2 * onC c l vs id := by
  have hd : MayC (dbl c) := by
    obtain ⟨⟨h1, h2, h3⟩, h4⟩ := hm
    refine ⟨⟨by simpa [dbl] using h1, by simpa [dbl] using h2, fun x hx => ?_⟩, h4⟩
    obtain ⟨y, hy, rfl⟩ := List.mem_map.1 hx
    have := h3 y hy
    have := hs y hy
    omega
  unfold onC weightC
  rw [if_pos hd, if_pos hm]
  simp only [dbl, List.length_map]
  exact wsumTo_dbl _ _ _
end Go.Proofs.YtdocgemfedohdaaGreat
