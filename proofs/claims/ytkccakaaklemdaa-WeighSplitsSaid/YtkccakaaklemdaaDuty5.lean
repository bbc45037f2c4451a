/- The walks of duty.Weight, duty.Total. -/
import Derived.Test.YtkccakaaklemdaaDuty4
namespace Go.Proofs.Ytkccakaaklemdaa
open Go.RowKit Go.Shelf
set_option maxRecDepth 100000 in
set_option maxHeartbeats 1000000 in
theorem weight1_any (i : Int) (Bm M : Nat) (m : List (Int × Bool)) (w : World) (hM : MapIs (Value.int .i64) Value.bool w M m) (hb : w.heap[Bm]? = some (.cells #[.map (some M)] 70 (0, 0))) :
    Calls Try.prog 40 #[.int .i64 i, .pointer (some ⟨Bm, 0, none⟩)] w fun e w' => e = .returned (.bool ((mget m i).getD false)) ∧ w' = w := by
  have c0 := blk_cell hb 0
  go_enter Try.func40, Try.ntmps40
  go_wp2_with (at_lookup; refine wp_lookup (x := i) rfl rfl KeyI Try.underlying70 (Try.zeroValue4 _) rfl rfl hM (r := .bool ((mget m i).getD false)) (by cases mget m i <;> rfl) ?_)
  go_ret
  exact ⟨rfl, rfl⟩
theorem thoseK_wt (c : Cfg) (A : Option Addr) (k Bc Bf Bm M n₀ : Nat) (m : List (Int × Bool)) (p : Nat → Bool) (W : World) (hA : Rd 1 encI W A c.W) (hc : ConfAt W Bc A k c) (hf : W.heap[Bf]? = some (.cells #[.func (.func 40) #[] #[.pointer (some ⟨Bm, 0, none⟩)]] 75 (0, 0)))
    (hM : MapIs (Value.int .i64) Value.bool W M m) (hb : W.heap[Bm]? = some (.cells #[.map (some M)] 70 (0, 0))) (hp : ∀ i : Nat, (mget m (i : Int)).getD false = p i)
    (hn : n₀ ≤ W.heap.size) (h1 : Bc < n₀) (h2 : Bf < n₀) (h3 : Bm < n₀) (h4 : M < n₀) : ThoseK Fence.wide 2 Bc Bf n₀ c.W.length p W := by
  intro l J Jx W' hW' _ _ hY h0
  refine those1_wt Fence.wide 2 trivial trivial rfl (by decide) l Bc Bf n₀ c A k Bm p J Jx W' (hA.below hW') (hc.own hW') (bl_own hW' hf) (Nat.le_trans hn hW'.size) h1 h2 ?_ hY h0
  intro i W'' _ hb''
  refine callsIn_wide.2 ?_
  rw [← hp i]
  exact weight1_any i Bm M m W'' (MapIs_same (MapIs_below hM hW') (hb''.block M h4)) (bl_blk hb'' (bl_own hW' hb) h3)
set_option maxRecDepth 100000 in
set_option maxHeartbeats 1000000 in
theorem those_any (c : Cfg) (A : Option Addr) (k : Nat) (w : World) (pf : Nat) (cap : Array Value) :
    Calls Try.prog 39 #[cfgv A k c, .func (.func pf) #[] cap] w fun e w' => e = .returned (.func (.func 53) #[] #[.pointer (some ⟨w.heap.size, 0, none⟩), .pointer (some ⟨w.heap.size + 1, 0, none⟩)]) ∧
      ConfAt w' w.heap.size A k c ∧ w'.heap[w.heap.size + 1]? = some (.cells #[.func (.func pf) #[] cap] 75 (0, 0)) ∧ w'.heap.size = w.heap.size + 2 ∧ Below w.heap.size w w' := by
  unfold cfgv
  go_enter Try.func39, Try.ntmps39
  go_wp2_with fail
  go_ret
  refine ⟨rfl, ha_lt (ha_at rfl), ha_at (by simp), by simp, ((Below.refl _ w).alloc (Nat.le_refl _) _).alloc (by simp) _⟩
theorem mget_mput {κ ν : Type} [DecidableEq κ] (m : List (κ × ν)) (x y : κ) (v : ν) : mget (mput m x v) y = if x = y then some v else mget m y := by
  unfold mput
  by_cases h : (mget m x).isSome
  · rw [if_pos h]
    by_cases hxy : x = y
    · subst hxy
      rw [if_pos rfl]
      unfold mget at *
      rw [Option.isSome_map] at h
      obtain ⟨p, hp⟩ := Option.isSome_iff_exists.1 h
      have : (List.map (fun p : κ × ν => if p.1 = x then (p.1, v) else p) m).find? (fun p => decide (p.1 = x)) = some (p.1, v) := by
        rw [List.find?_map]
        have e : ((fun p : κ × ν => decide (p.1 = x)) ∘ fun p : κ × ν => if p.1 = x then (p.1, v) else p) = fun p => decide (p.1 = x) := by
          funext q; simp only [Function.comp]; split <;> rfl
        rw [e, hp]
        have := List.find?_some hp
        simp only [decide_eq_true_eq] at this
        simp [this]
      rw [this]; rfl
    · rw [if_neg hxy]
      unfold mget
      rw [List.find?_map]
      have e : ((fun p : κ × ν => decide (p.1 = y)) ∘ fun p : κ × ν => if p.1 = x then (p.1, v) else p) = fun p => decide (p.1 = y) := by
        funext q; simp only [Function.comp]; split <;> rfl
      rw [e]
      cases hp : m.find? (fun p => decide (p.1 = y)) with
      | none => rfl
      | some p =>
        have := List.find?_some hp
        simp only [decide_eq_true_eq] at this
        have hx : ¬ p.1 = x := fun e => hxy (e.symm.trans this)
        simp [hx]
  · rw [if_neg h]
    have hn : mget m x = none := by simpa using h
    by_cases hxy : x = y
    · subst hxy
      rw [if_pos rfl]
      unfold mget at *
      rw [List.find?_append]
      rw [Option.map_eq_none_iff] at hn
      simp [hn]
    · rw [if_neg hxy]
      unfold mget
      rw [List.find?_append]
      simp [hxy]
set_option maxRecDepth 100000 in
set_option maxHeartbeats 2000000 in
theorem dweight_any (c : Cfg) (who : List Int) (A A2 : Option Addr) (k k2 : Nat) (w : World) (hr : Rd 1 encI w A c.W) (hr2 : Rd 1 encI w A2 who) :
    Calls Try.prog 18 #[cfgv A k c, .slice A2 who.length k2] w fun e w' => e = .returned (.int .i64 (weightC c who)) ∧ Below w.heap.size w w' := by
  have hm := hr.1
  have hm2 := hr2.1
  have hmm := @run_makeMap Try.prog
  unfold cfgv
  go_enter Try.func18, Try.ntmps18
  go_wp2_with fail
  have hW : ∃ W, (((w.alloc (.cells #[.slice A c.W.length k, .int .u64 c.seed, .int .i64 c.epoch, .int .i64 c.num, .int .i64 c.den] 25)).alloc (.map #[] 0)).alloc (.cells #[.map (some (w.heap.size + 1))] 70)) = W := ⟨_, rfl⟩
  obtain ⟨W, hW⟩ := hW
  have hM0 : MapIs (Value.int .i64) Value.bool W (w.heap.size + 1) ([] : List (Int × Bool)) := by subst hW; exact MapIs_alloc (MapIs_new _ _ (ha_at (by simp))) _
  have hc0 : ConfAt W w.heap.size A k c := by subst hW; exact ha_lt (ha_lt (ha_at rfl))
  have hb0 : W.heap[w.heap.size + 1 + 1]? = some (.cells #[.map (some (w.heap.size + 1))] 70 (0, 0)) := by subst hW; exact ha_at (by simp)
  have hB0 : Below w.heap.size w W := by subst hW; exact (((Below.refl _ w).alloc (Nat.le_refl _) _).alloc (by simp) _).alloc (by simp <;> omega) _
  rw [hW]
  clear hW
  go_loopw [7, 11] (fun x i wr => ∃ (j : Nat) (m : List (Int × Bool)), j ≤ who.length ∧ i = .int .i64 j ∧ MapIs (Value.int .i64) Value.bool wr (w.heap.size + 1) m ∧ Hid (∀ x, mget m x = if x ∈ who.take j then some true else none) ∧ ConfAt wr w.heap.size A k c ∧ wr.heap[w.heap.size + 1 + 1]? = some (.cells #[.map (some (w.heap.size + 1))] 70 (0, 0)) ∧ Below w.heap.size w wr)
    (fun _ i _ => who.length - (intOf i).toNat)
  case atStart => exact ⟨0, [], Nat.zero_le _, rfl, hM0, Lib.hid (by simp [mget]), hc0, hb0, hB0⟩
  case round =>
    obtain ⟨j, m, hj, rfl, hM, hmm', hc, hb, hB⟩ := hrel
    obtain ⟨cb, fb⟩ := blk1 hb
    by_cases hlt : j < who.length
    · obtain ⟨b, o, rfl, hbo, d⟩ := (hr2.below hB).atI hlt
      have hst : ∀ y, mget (mput m who[j] true) y = if y ∈ who.take (j + 1) then some true else none := fun y => by
        rw [mget_mput, hmm'.out, ← List.take_append_getElem hlt]
        simp only [List.mem_append, List.mem_singleton]
        by_cases h1 : who[j] = y
        · simp [h1]
        · have : ¬ y = who[j] := fun e => h1 e.symm
          simp [h1, this]
      obtain ⟨x, hx⟩ : ∃ x, who[j] = x := ⟨_, rfl⟩
      rw [hx] at d hst
      have hst' := Lib.hid hst
      clear hst hx
      go_wp2_with (at_mapUpdate; refine wp_update rfl (.inl rfl) KeyI Try.underlying70 rfl (x := x) rfl (v := true) rfl hM ?_; intro w4 hM4 hg4 hz4)
      go_roundw
      case rel => exact ⟨j + 1, mput m x true, hlt, by go_num, hM4, hst', grown_own hg4 hc (by simp), grown_own hg4 hb (by simp), below_step hB hB.size hg4 (by simp)⟩
      case measure => simp [intOf]; omega
    · obtain rfl : j = who.length := by omega
      rw [List.take_length] at hmm'
      go_wp2_with fail
      have hth := fun W => those_any c A k W 40 #[.pointer (some ⟨w.heap.size + 1 + 1, 0, none⟩)]
      have hp : ∀ i : Nat, (mget m (i : Int)).getD false = decide ((i : Int) ∈ who) := fun i => by
        rw [hmm'.out]; by_cases h : (i : Int) ∈ who <;> simp [h]
      have hBk := lt_of_block hb
      have hMlt := MapIs_lt hM
      have hsum := fun W (hW : Below wr.heap.size wr W) (B : Nat) (hs : W.heap.size = B + 2) (hc : ConfAt W B A k c) (hf : W.heap[B + 1]? = some (.cells #[.func (.func 40) #[] #[.pointer (some ⟨w.heap.size + 1 + 1, 0, none⟩)]] 75 (0, 0))) =>
        sum_any c A k B (B + 1) (fun i => decide ((i : Int) ∈ who)) W ((hr.below hB).below hW) (fun W' hW' => thoseK_wt c A k B (B + 1) (w.heap.size + 1 + 1) (w.heap.size + 1) W.heap.size m _ W' (((hr.below hB).below hW).below hW') (hc.own hW') (bl_own hW' hf) (MapIs_below (MapIs_below hM hW) hW') (bl_own hW' (bl_own hW hb)) hp hW'.size (by omega) (by omega) (by have := hW.size; omega) (by have := hW.size; omega))
      unfold cfgv at hth hsum
      have hpp := hmm'
      clear hmm' hp hpp
      have c0 := blk_cell hc 0
      have c1 := blk_cell hc 1
      have c2 := blk_cell hc 2
      have c3 := blk_cell hc 3
      have c4 := blk_cell hc 4
      go_region_held3 (fun W' => W'.cell? ⟨w.heap.size, 0, none⟩ = some (.slice A c.W.length k) ∧ W'.cell? ⟨w.heap.size, 1, none⟩ = some (.int .u64 c.seed) ∧ W'.cell? ⟨w.heap.size, 2, none⟩ = some (.int .i64 c.epoch) ∧ W'.cell? ⟨w.heap.size, 3, none⟩ = some (.int .i64 c.num) ∧ W'.cell? ⟨w.heap.size, 4, none⟩ = some (.int .i64 c.den)) (first | exact ⟨c0, c1, c2, c3, c4⟩ | exact ⟨d0, d1, d2, d3, d4⟩ | exact ⟨e0, e1, e2, e3, e4⟩) ((first
        | (go_at_call 39; refine (hth _).mono ?_; rintro e w1 ⟨rfl, k1, k2, k3, hb1⟩; have hb1' := bl_own hb1 hc; have d0 := blk_cell hb1' 0; have d1 := blk_cell hb1' 1; have d2 := blk_cell hb1' 2; have d3 := blk_cell hb1' 3; have d4 := blk_cell hb1' 4; have hBw := below_call ((Below.refl wr.heap.size wr).drew) (Nat.le_refl _) hb1)
        | (go_at_call 38; refine (hsum _ hBw _ k3 k1 k2).mono ?_; rintro e w2 ⟨rfl, hb2⟩; have hb2' := bl_own hb2 hb1'; have e0 := blk_cell hb2' 0; have e1 := blk_cell hb2' 1; have e2 := blk_cell hb2' 2; have e3 := blk_cell hb2' 3; have e4 := blk_cell hb2' 4)))
      go_wp2
      go_ret
      exact ⟨rfl, below_call (below_call hB hB.size hBw) (Nat.le_trans hB.size hBw.size) hb2⟩
end Go.Proofs.Ytkccakaaklemdaa
