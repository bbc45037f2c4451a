/- The walk of tree.Chain. -/
import Derived.Test.YtkccakaaklemdaaPlaces
import Derived.KernelRfl
namespace Go.Proofs.Ytkccakaaklemdaa
open Go.RowKit
theorem infoID : (Try.prog.info? 29).map (fun i => (i.zero, i.size, i.bytes)) = some (some (.agg #[.int .u64 0, .int .u64 0]), 2, 16) := by kernel_rfl
theorem encID_len (x : ID) : (encID x).length = 2 := rfl
theorem encID_one (x : ID) : ∀ u ∈ encID x, u.oneCell' = true := by intro u hu; simp [encID] at hu; rcases hu with rfl | rfl <;> rfl
def parAt (l : List Blk) (i : Int) : ID := (l[i.toNat]?.map (·.par)).getD ⟨0, 0⟩
def chGo (l : List Blk) (m : List (ID × Int)) : Nat → ID → List ID
  | 0, _ => []
  | f + 1, id => id :: (match mget m id with
    | some i => if i = -1 then [] else chGo l m f (parAt l i)
    | none => [])
def chain (l : List Blk) (id : ID) : List ID :=
  match plc l with
  | none => []
  | some m => if (mget m id).isSome then chGo l m (l.length + 1) id else []
/-- What the walk leans on: a block's parent stands ahead of it. -/
def Ahead (l : List Blk) (m : List (ID × Int)) : Prop :=
  ∀ x i, mget m x = some i → i = -1 ∨ (0 ≤ i ∧ i < l.length ∧ ∃ j, mget m (parAt l i) = some j ∧ j < i ∧ -1 ≤ j)
theorem chain_zero {l : List Blk} {id : ID} (h : plc l = none ∨ ∃ m, plc l = some m ∧ mget m id = none) : chain l id = [] := by
  unfold chain
  rcases h with h | ⟨m, h, hn⟩
  · rw [h]
  · rw [h]; simp [hn]
set_option maxRecDepth 100000 in
set_option maxHeartbeats 1000000 in
theorem chain_none (l : List Blk) (id : ID) (A : Option Addr) (c : Nat) (w : World) (hr : Rd 5 encBlk w A l) (h : plc l = none) :
    Calls Try.prog 17 #[.slice A l.length c, idv id] w fun e w' => ∃ v, e = .returned v ∧ Own w' w.heap.size 29 2 encID v (chain l id) ∧ Below w.heap.size w w' := by
  have hm := hr.1
  have hc := Lib.hid (chain_zero (id := id) (.inl h))
  have hcall := fun W (hW : Below w.heap.size w W) => places_none h A c W (hr.below hW)
  unfold idv
  go_enter Try.func17, Try.ntmps17
  go_wp2_with fail
  go_step3
  go_wp2_with (first | (go_at_call 31; refine (hcall _ ((Below.refl _ w).alloc (Nat.le_refl _) _)).mono ?_; rintro e w1 ⟨rfl, hb⟩; obtain ⟨c0, c1, _, _⟩ := blk2 (bl_own hb (ha_at rfl))) | (at_lookup; refine wp_lookup_nil (x := id) rfl rfl KeyID Try.underlying52 (Try.zeroValue3 _) rfl rfl (r := .tuple #[.int .i64 0, .bool false]) rfl ?_))
  rw [Exit.noGoto_ret]
  go_ret
  refine ⟨_, rfl, ?_, below_call ((Below.refl _ w).alloc (Nat.le_refl _) _) (by simp) hb⟩
  rw [hc.out]
  exact Own.nil _ _ _ _ _
set_option maxRecDepth 100000 in
set_option maxHeartbeats 1000000 in
theorem chain_miss (l : List Blk) (id : ID) (m : List (ID × Int)) (A : Option Addr) (c : Nat) (w : World) (hr : Rd 5 encBlk w A l) (h : plc l = some m) (hn : mget m id = none) :
    Calls Try.prog 17 #[.slice A l.length c, idv id] w fun e w' => ∃ v, e = .returned v ∧ Own w' w.heap.size 29 2 encID v (chain l id) ∧ Below w.heap.size w w' := by
  have hm := hr.1
  have hc := Lib.hid (chain_zero (id := id) (.inr ⟨m, h, hn⟩))
  have hcall := fun W (hW : Below w.heap.size w W) => places_some h A c W (hr.below hW)
  unfold idv
  go_enter Try.func17, Try.ntmps17
  go_wp2_with fail
  go_step3
  go_wp2_with (first | (go_at_call 31; refine (hcall _ ((Below.refl _ w).alloc (Nat.le_refl _) _)).mono ?_; rintro e w1 ⟨M, rfl, hMl, hM, hb⟩; obtain ⟨c0, c1, _, _⟩ := blk2 (bl_own hb (ha_at rfl))) | (at_lookup; refine wp_lookup (x := id) rfl rfl KeyID Try.underlying52 (Try.zeroValue3 _) rfl rfl hM (r := .tuple #[.int .i64 0, .bool false]) (by rw [hn]; rfl) ?_))
  rw [Exit.noGoto_ret]
  go_ret
  refine ⟨_, rfl, ?_, below_call ((Below.refl _ w).alloc (Nat.le_refl _) _) (by simp) hb⟩
  rw [hc.out]
  exact Own.nil _ _ _ _ _
/-- What holds at the label 'down'. -/
def ChainAt (l : List Blk) (id : ID) (m : List (ID × Int)) (i : Int) (A : Option Addr) (c : Nat) (w : World) (a : Act) (W : World) : Prop :=
  ∃ (M : Nat) (v u10 u24 u25 u26 u27 u28 u29 u30 u31 u32 u33 u34 u35 u36 u37 : Value) (acc : List ID) (x : ID) (j : Int) (f : Nat), a = { tmps := #[.slice A l.length c, .agg #[.int .u64 id.hi, .int .u64 id.lo], undef, .pointer (some ⟨w.heap.size, 0, none⟩), .slice none 0 0, .map (some M), .bool true, .int .i64 i, .bool true, v, u10, .tuple #[.map (some M), .bool true], .slice A l.length c, .tuple #[.map (some M), .bool true], .map (some M), .bool true, .tuple #[.int .i64 i, .bool true], .map (some M), .agg #[.int .u64 id.hi, .int .u64 id.lo], .tuple #[.int .i64 i, .bool true], .int .i64 i, .bool true, .bool true, .bool false, u24, u25, u26, u27, u28, u29, u30, u31, u32, u33, u34, u35, u36, u37, undef], defers := [] } ∧
    MapIs idv (Value.int .i64) W M m ∧ w.heap.size + 1 ≤ M ∧ W.heap[w.heap.size]? = some (.cells #[.int .u64 x.hi, .int .u64 x.lo] 29 (0, 0)) ∧ Own W (w.heap.size + 1) 29 2 encID v acc ∧ Below w.heap.size w W ∧
    mget m x = some j ∧ -1 ≤ j ∧ j + 2 ≤ f ∧ acc ++ chGo l m f x = chain l id ∧ acc.length + j + 1 ≤ l.length
theorem lenV_own {α : Type} {w : World} {base : Nat} {e : TypeId} {k : Nat} {enc : α → List Value} {v : Value} {xs : List α} (h : Own w base e k enc v xs) : lenV v = xs.length := by
  obtain ⟨_, h2⟩ := h
  rcases h2 with ⟨rfl, h0⟩ | ⟨g, cap, cur, rfl, _⟩
  · simp [lenV, h0]
  · rfl
set_option maxRecDepth 100000 in
set_option maxHeartbeats 1000000 in
theorem chain_hit (l : List Blk) (id : ID) (m : List (ID × Int)) (i : Int) (A : Option Addr) (c : Nat) (w : World) (hr : Rd 5 encBlk w A l) (h : plc l = some m) (hn : mget m id = some i) (hA : Ahead l m) (hi : -1 ≤ i) (hl : l.length ≤ 100000) :
    Calls Try.prog 17 #[.slice A l.length c, idv id] w fun e w' => ∃ v, e = .returned v ∧ Own w' w.heap.size 29 2 encID v (chain l id) ∧ Below w.heap.size w w' := by
  have hm := hr.1
  have hcall := fun W (hW : Below w.heap.size w W) => places_some h A c W (hr.below hW)
  have hres : chGo l m (l.length + 1) id = chain l id := by unfold chain; rw [h]; simp [hn]
  have hil : i + 1 ≤ l.length := by
    rcases hA id i hn with e | ⟨_, e, _⟩ <;> omega
  unfold idv
  go_enter Try.func17, Try.ntmps17
  go_wp2_with fail
  refine wp_scope_loop 0 (ChainAt l id m i A c w) (fun a' _ => l.length + 2 - lenV (a'.tmps.getD 9 undef)) rfl ?pass ?first
  case first =>
    intro hpass
    go_wp2_with (first | (go_at_call 31; refine (hcall _ ((Below.refl _ w).alloc (Nat.le_refl _) _)).mono ?_; rintro e w1 ⟨M, rfl, hMl, hM, hb⟩; obtain ⟨c0, c1, _, _⟩ := blk2 (bl_own hb (ha_at rfl))) | (at_lookup; refine wp_lookup (x := id) rfl rfl KeyID Try.underlying52 (Try.zeroValue3 _) rfl rfl hM (r := .tuple #[.int .i64 i, .bool true]) (by rw [hn]; rfl) ?_))
    go_step3
    simp only [Exit.then]
    rename_i hk
    refine hk _ _ (hpass _ _ ?_)
    exact ⟨M, .slice none 0 0, undef, undef, undef, undef, undef, undef, undef, undef, undef, undef, undef, undef, undef, undef, undef, [], id, i, l.length + 1, rfl, hM, by simpa using hMl, bl_own hb (ha_at rfl), Own.nil _ _ _ _ _, below_call ((Below.refl _ w).alloc (Nat.le_refl _) _) (by simp) hb, hn, hi, by omega, hres, by simpa using hil⟩
  case pass =>
    rintro a W ⟨M, v, u10, u24, u25, u26, u27, u28, u29, u30, u31, u32, u33, u34, u35, u36, u37, acc, x, j, f, rfl, hM, hMl, hb, hown, hB, hx, hj, hf, hacc, hlen⟩
    obtain ⟨c0, c1, f0, f1⟩ := blk2 hb
    clear hn hres hil hi
    have hW1 : Below W.heap.size W (W.alloc (.cells #[.int .u64 x.hi, .int .u64 x.lo] 29)) := (Below.refl _ W).alloc (Nat.le_refl _) _
    have ho1 := hown.below hW1
    have hB1 : Below w.heap.size w (W.alloc (.cells #[.int .u64 x.hi, .int .u64 x.lo] 29)) := hB.alloc hB.size _
    have hM1 := MapIs_below hM hW1
    have hb1 := bl_own hW1 hb
    have hsz := hB.size
    have hlt := lt_of_block hb
    have hun := Try.underlying34
    have hle : acc.length ≤ 100000 := by omega
    have hvb : ∀ k, v.ownBlock = some k → w.heap.size + 1 ≤ k := fun k hk => (ho1.base k hk).1
    have hne1 : some w.heap.size ≠ v.ownBlock := fun e => by have := hvb _ e.symm; omega
    have hne2 : some M ≠ v.ownBlock := fun e => own_ne_map ho1 hM1 e.symm
    obtain ⟨f', rfl⟩ : ∃ f', f = f' + 1 := ⟨f - 1, by omega⟩
    have hgo : chGo l m (f' + 1) x = x :: (if j = -1 then [] else chGo l m f' (parAt l j)) := by simp [chGo, hx]
    rw [hgo] at hacc
    have hmu := Lib.hid (lenV_own hown)
    have hmx := Lib.hid hx
    clear hgo hx
    by_cases hj1 : j = -1
    · have hres : acc ++ [x] = chain l id := by rw [← hacc, if_pos hj1]
      have hres := Lib.hid hres
      subst hj1
      clear hacc
      go_wp2_with (first | (at_builtin; refine wp_append1 rfl rfl hun infoID rfl (by decide) encID_len encID_one rfl ho1 (g := W.heap.size) (c := 1) rfl (y := x) (ha_at rfl) rfl (by omega) (by unfold maxLen; omega) (by simp <;> omega) ?_; intro v' w2 ho2 hg2 hat2; have hb2 := grown_own hg2 hb1 hne1; have hM2 := MapIs_grown hM1 hg2 hne2; obtain ⟨e0, e1, _, _⟩ := blk2 hb2) | (at_lookup; refine wp_lookup (x := x) rfl rfl KeyID Try.underlying52 (Try.zeroValue3 _) rfl rfl hM2 (r := .int .i64 (-1)) (by rw [hmx.out]; rfl) ?_))
      simp only [Exit.jump]
      go_ret
      refine ⟨v', rfl, ?_, below_step hB1 hB1.size hg2 (fun k hk => by have := hvb k hk; omega)⟩
      rw [← hres.out]
      exact ho2.mono (by omega)
    · have hj0 : 0 ≤ j := by omega
      obtain ⟨n, rfl⟩ : ∃ n : Nat, j = n := ⟨j.toNat, by omega⟩
      rw [if_neg hj1] at hacc
      have hjl : n < l.length := by omega
      have hj2 : ((n : Int) == -1) = false := by simp
      obtain ⟨b', o, rfl, hbo, _⟩ := hr.atBlk hjl
      clear hj1
      go_wp2_with (first | (at_builtin; refine wp_append1 rfl rfl hun infoID rfl (by decide) encID_len encID_one rfl ho1 (g := W.heap.size) (c := 1) rfl (y := x) (ha_at rfl) rfl (by omega) (by unfold maxLen; omega) (by simp <;> omega) ?_; intro v' w2 ho2 hg2 hat2; have hb2 := grown_own hg2 hb1 hne1; have hM2 := MapIs_grown hM1 hg2 hne2; obtain ⟨e0, e1, g0, g1⟩ := blk2 hb2; have hB2 := below_step hB1 hB1.size hg2 (fun k hk => by have := hvb k hk; omega); obtain ⟨b2, o2, he, _, d0, d1, d2, d3, d4⟩ := (hr.below hB2).atBlk hjl; cases he) | (at_lookup; refine wp_lookup (x := x) rfl rfl KeyID Try.underlying52 (Try.zeroValue3 _) rfl rfl hM2 (r := .int .i64 n) (by rw [hmx.out]; rfl) ?_))
      obtain ⟨hs1, hs2⟩ := set2 hb2 (.int .u64 l[n].par.hi) (.int .u64 l[n].par.lo)
      obtain ⟨j', hj', hjn, hj1⟩ : ∃ j', mget m (parAt l n) = some j' ∧ j' < n ∧ -1 ≤ j' := by
        rcases hA x n hmx.out with e | ⟨_, _, j', h1, h2, h3⟩
        · omega
        · exact ⟨j', h1, h2, h3⟩
      have hpar : parAt l (n : Int) = l[n].par := by unfold parAt; simp [hjl]
      rw [hpar] at hj' hacc
      have hv2 : v'.ownBlock ≠ some w.heap.size := fun e => by have := (ho2.base _ e).1; omega
      go_step3
      simp only [Exit.then]
      refine ⟨rfl, ⟨M, v', _, _, _, _, _, _, _, _, _, _, _, _, _, _, _, acc ++ [x], l[n].par, j', f', rfl, MapIs_grown hM2 hs2 (by simp; omega), hMl, hs1, ho2.grown hs2 (.inr hv2), below_step hB2 hB2.size hs2 (by simp), hj', hj1, by omega, by simpa using hacc, by simp; omega⟩, ?_⟩
      show l.length + 2 - lenV v' < l.length + 2 - lenV v
      rw [hmu.out, lenV_own ho2]
      simp
      omega
/-- What Chain hands back. -/
theorem chain_any (l : List Blk) (id : ID) (A : Option Addr) (c : Nat) (w : World) (hr : Rd 5 encBlk w A l) (hA : ∀ m, plc l = some m → Ahead l m ∧ ∀ x i, mget m x = some i → -1 ≤ i) (hl : l.length ≤ 100000) :
    Calls Try.prog 17 #[.slice A l.length c, idv id] w fun e w' => ∃ v, e = .returned v ∧ Own w' w.heap.size 29 2 encID v (chain l id) ∧ Below w.heap.size w w' := by
  cases h : plc l with
  | none => exact chain_none l id A c w hr h
  | some m =>
    cases hn : mget m id with
    | none => exact chain_miss l id m A c w hr h hn
    | some i => exact chain_hit l id m i A c w hr h hn (hA m h).1 ((hA m h).2 id i hn) hl
end Go.Proofs.Ytkccakaaklemdaa
