/- marigoldref10.Insert and Move, walked. (Printed by gen_rins.py.) -/
import Derived.Test.YtionkkjdaghakaaArrR
namespace Go.Proofs.Ytionkkjdaghakaa
open Go.RowKit
theorem SameSk.trans {a b c : List Item} (h1 : SameSk a b) (h2 : SameSk b c) : SameSk a c := ⟨h1.1.trans h2.1, fun i hi => by
  obtain ⟨x1, x2, x3⟩ := h1.2 i hi
  obtain ⟨y1, y2, y3⟩ := h2.2 i (by rw [← h1.1]; exact hi)
  exact ⟨x1.trans y1, x2.trans y2, x3.trans y3⟩⟩
def bareItem (id : ID) (par : Int) : Item := ⟨id, par, 0, 0, 0, 0⟩
theorem bare_sk (a : List Item) (id : ID) (par : Int) : SameSk (a ++ [bareItem id par]) (a ++ [newItem id par a.length]) := ⟨by simp, fun i hi => by
  simp at hi
  by_cases e : i < a.length
  · rw [itm_app _ _ _ e, itm_app _ _ _ e]; exact ⟨rfl, rfl, rfl⟩
  · obtain rfl : i = a.length := by omega
    rw [itm_new, itm_new]; exact ⟨rfl, rfl, rfl⟩⟩
theorem bare_ok {a : List Item} (hM : MayA a) (id : ID) {par : Int} (h1 : -1 ≤ par) (h2 : par < a.length) : ParOk (a ++ [bareItem id par]) ∧ ∀ i, i < (a ++ [bareItem id par]).length → 0 ≤ (itm (a ++ [bareItem id par]) i).own ∧ (itm (a ++ [bareItem id par]) i).own ≤ 1125899906842624 := by
  constructor
  · intro i hi
    simp at hi
    by_cases e : i < a.length
    · rw [itm_app _ _ _ e]; exact hM.2.1.parOk i e
    · obtain rfl : i = a.length := by omega
      rw [itm_new]; exact ⟨h1, h2⟩
  · intro i hi
    simp at hi
    by_cases e : i < a.length
    · rw [itm_app _ _ _ e]; exact (hM.2.1 i e).2.2.2.2
    · obtain rfl : i = a.length := by omega
      rw [itm_new]; unfold bareItem; simp
theorem moved_ok {a : List Item} (hM : MayA a) {k : Nat} (hk : k < a.length) {y : Int} (h1 : 0 ≤ (itm a k).own + y) (h2 : (itm a k).own + y ≤ 1125899906842624) : ParOk (moved a k y) ∧ ∀ i, i < (moved a k y).length → 0 ≤ (itm (moved a k y) i).own ∧ (itm (moved a k y) i).own ≤ 1125899906842624 := by
  have hl : (moved a k y).length = a.length := by simp [moved]
  have hit : ∀ i, itm (moved a k y) i = if i = k then { itm a k with own := (itm a k).own + y } else itm a i := fun i => itm_set a k i _ hk
  constructor
  · intro i hi
    rw [hl] at hi
    rw [hit]
    by_cases e : i = k
    · subst e; rw [if_pos rfl]; exact hM.2.1.parOk i hi
    · rw [if_neg e]; exact hM.2.1.parOk i hi
  · intro i hi
    rw [hl] at hi
    rw [hit]
    by_cases e : i = k
    · subst e; rw [if_pos rfl]; exact ⟨h1, h2⟩
    · rw [if_neg e]; exact (hM.2.1 i hi).2.2.2.2
set_option maxRecDepth 100000 in
set_option maxHeartbeats 2000000 in
theorem rinsert_any (a : List Item) (id par : ID) (A : Option Addr) (c : Nat) (w : World) (hr : Rd 7 encItem w A a) (hN : A = none → c = 0) :
    Calls Try.prog 12 #[.slice A a.length c, idv id, idv par] w fun e w' => (∃ l v, e = .returned (.tuple #[v, .int .i64 (insE a id par)]) ∧ Own w' w.heap.size 43 7 encItem v l ∧ InsP a id par l) ∧ Below w.heap.size w w' := by
  have hm := hr.1
  have hun := Try.underlying22
  have hWs : ∃ W, (w.alloc (.cells #[.int .u64 id.hi, .int .u64 id.lo] 25)).alloc (.cells #[.int .u64 par.hi, .int .u64 par.lo] 25) = W := ⟨_, rfl⟩
  obtain ⟨W, hW⟩ := hWs
  have hB : Below w.heap.size w W := by subst hW; exact ((Below.refl _ w).alloc (Nat.le_refl _) _).alloc (by simp) _
  have b0 : W.heap[w.heap.size]? = some (.cells #[.int .u64 id.hi, .int .u64 id.lo] 25 (0, 0)) := by subst hW; exact ha_lt (ha_at rfl)
  have b1 : W.heap[w.heap.size + 1]? = some (.cells #[.int .u64 par.hi, .int .u64 par.lo] 25 (0, 0)) := by subst hW; exact ha_at (by simp)
  have hf1 := fun V (hV : Below w.heap.size w V) => rfind_any a id A c V (hr.below hV)
  have hf2 := fun V (hV : Below w.heap.size w V) => rfind_any a par A c V (hr.below hV)
  have hmay := rmay10_any a A c W (hr.below hB) hN
  have hanew := fun (hM : MayA a) (hs : a.length ≠ 60) B d V (hR : Rd 7 encItem V B (a ++ [bareItem id (findI a par)])) (hBN : B = none → d = 0) => anew_any (a ++ [bareItem id (findI a par)]) (by have := hM.1; simp; omega) (bare_ok hM id (by rcases find_spec a par with ⟨h, _⟩ | ⟨k, _, h, _⟩ <;> omega) (by rcases find_spec a par with ⟨h, _⟩ | ⟨k, hk, h, _⟩ <;> omega)).1 (bare_ok hM id (by rcases find_spec a par with ⟨h, _⟩ | ⟨k, _, h, _⟩ <;> omega) (by rcases find_spec a par with ⟨h, _⟩ | ⟨k, hk, h, _⟩ <;> omega)).2 B d V hR hBN
  have hf1b := find_spec a id
  have hf1lo : -1 ≤ findI a id := by rcases find_spec a id with ⟨h, _⟩ | ⟨k, _, h, _⟩ <;> omega
  have hf2lo : -1 ≤ findI a par := by rcases find_spec a par with ⟨h, _⟩ | ⟨k, _, h, _⟩ <;> omega
  have hsk := Lib.hid (bare_sk a id (findI a par))
  have hid := eql_idz id
  have hpz := neq_idz par
  have hE : insE a id par = if ¬ MayA a ∨ id = zid then 1 else if findI a id ≠ -1 then 4 else if findI a par = -1 ∧ par ≠ zid then 3 else if a.length = 60 then 7 else 0 := rfl
  have hIP : ∀ l, InsP a id par l ↔ (insE a id par ≠ 0 → l = []) ∧ (insE a id par = 0 → Settled l ∧ SameSk l (a ++ [newItem id (findI a par) a.length])) := fun l => Iff.rfl
  obtain ⟨E, hEE⟩ : ∃ E, insE a id par = E := ⟨_, rfl⟩
  rw [hEE] at hE hIP ⊢
  clear hEE hf1b
  generalize InsP a id par = IP at hIP ⊢
  obtain ⟨f1, hf1e⟩ : ∃ f, findI a id = f := ⟨_, rfl⟩
  obtain ⟨f2, hf2e⟩ : ∃ f, findI a par = f := ⟨_, rfl⟩
  rw [hf1e] at hE hf1 hf1lo
  rw [hf2e] at hE hf2 hanew hIP hf2lo hsk
  clear hf1e hf2e
  unfold idv at *
  have hIP' := Lib.hid hIP
  clear hIP
  by_cases hM : MayA a
  · rw [decide_eq_true hM] at hmay
    have hMl := hM.1
    by_cases hz : id = zid
    · rw [if_pos (.inr hz)] at hE
      rw [decide_eq_true hz] at hid
      clear hM hz hanew
      subst hE
      go_enter Try.func12, Try.ntmps12
      go_wp2_with (go_at_call 10; refine hmay.mono ?_; clear hmay; rintro e w1 ⟨rfl, hb1⟩; have hB1 := below_call hB hB.size hb1; obtain ⟨c0, c1, _, _⟩ := blk2 (bl_own hb1 b0); obtain ⟨d0, d1, _, _⟩ := blk2 (bl_own hb1 b1))
      go_ret2
      exact ⟨⟨[], _, rfl, Own.nil _ _ _ _ _, (hIP'.out []).2 ⟨fun _ => rfl, fun h => by omega⟩⟩, hB1⟩
    · rw [if_neg (fun h => h.elim (fun h => h hM) hz)] at hE
      rw [decide_eq_false hz] at hid
      clear hz
      by_cases hf : f1 = -1
      · rw [if_neg (fun h => h hf)] at hE
        subst hf
        by_cases hg : f2 = -1
        · subst hg
          by_cases hpp : par = zid
          · rw [if_neg (fun h => h.2 hpp)] at hE
            rw [decide_eq_true hpp] at hpz
            clear hpp
            by_cases h60 : a.length = 60
            · rw [if_pos h60] at hE
              subst hE
              have h60a : 60 ≤ a.length := by omega
              clear hanew h60 hM
              go_enter Try.func12, Try.ntmps12
              go_wp2_with (first
                | (go_at_call 10; refine hmay.mono ?_; clear hmay; rintro e w1 ⟨rfl, hb1⟩; have hB1 := below_call hB hB.size hb1; obtain ⟨c0, c1, _, _⟩ := blk2 (bl_own hb1 b0); obtain ⟨d0, d1, _, _⟩ := blk2 (bl_own hb1 b1))
                | (go_at_call 22; with_reducible refine Calls.mono (hf1 _ hB1) ?_; clear hf1; rintro e w2 ⟨rfl, hb2⟩; have hB2 := below_call hB1 hB1.size hb2; obtain ⟨h0, h1, _, _⟩ := blk2 (bl_own hb2 (bl_own hb1 b0)); obtain ⟨i0, i1, _, _⟩ := blk2 (bl_own hb2 (bl_own hb1 b1)))
                | (go_at_call 22; with_reducible refine Calls.mono (hf2 _ hB2) ?_; clear hf2; rintro e w3 ⟨rfl, hb3⟩; have hB3 := below_call hB2 hB2.size hb3; obtain ⟨j0, j1, _, _⟩ := blk2 (bl_own hb3 (bl_own hb2 (bl_own hb1 b0))); obtain ⟨l0, l1, _, _⟩ := blk2 (bl_own hb3 (bl_own hb2 (bl_own hb1 b1)))))
              go_ret2
              exact ⟨⟨[], _, rfl, Own.nil _ _ _ _ _, (hIP'.out []).2 ⟨fun _ => rfl, fun h => by omega⟩⟩, hB3⟩
            · rw [if_neg h60] at hE
              subst hE
              have hanew' := hanew hM h60
              have h60a : a.length < 60 := by omega
              clear hanew hM h60
              go_enter Try.func12, Try.ntmps12
              go_wp2_with (first
                | (go_at_call 10; refine hmay.mono ?_; clear hmay; rintro e w1 ⟨rfl, hb1⟩; have hB1 := below_call hB hB.size hb1; obtain ⟨c0, c1, _, _⟩ := blk2 (bl_own hb1 b0); obtain ⟨d0, d1, _, _⟩ := blk2 (bl_own hb1 b1))
                | (go_at_call 22; with_reducible refine Calls.mono (hf1 _ hB1) ?_; clear hf1; rintro e w2 ⟨rfl, hb2⟩; have hB2 := below_call hB1 hB1.size hb2; obtain ⟨h0, h1, _, _⟩ := blk2 (bl_own hb2 (bl_own hb1 b0)); obtain ⟨i0, i1, _, _⟩ := blk2 (bl_own hb2 (bl_own hb1 b1)))
                | (go_at_call 22; with_reducible refine Calls.mono (hf2 _ hB2) ?_; clear hf2; rintro e w3 ⟨rfl, hb3⟩; have hB3 := below_call hB2 hB2.size hb3; obtain ⟨j0, j1, _, _⟩ := blk2 (bl_own hb3 (bl_own hb2 (bl_own hb1 b0))); obtain ⟨l0, l1, _, _⟩ := blk2 (bl_own hb3 (bl_own hb2 (bl_own hb1 b1)))))
              have hb60 : a.length ≤ 60 := hMl
              have a0 := bl_own hb3 (bl_own hb2 (bl_own hb1 b0))
              clear c0 c1 d0 d1 h0 h1 i0 i1 l0 l1 hb1 hb2 hb3 hB1 hB2 hB hpz hid
              have hKD : Below w3.heap.size w3 w3.drew := (Below.refl _ w3).drew
              have hszD : w3.drew.heap.size = w3.heap.size := rfl
              obtain ⟨Y, hY⟩ : ∃ Y, w3.drew.alloc (.cells #[.int .u64 id.hi, .int .u64 id.lo, .int .i64 (-1), .int .i64 0, .int .i64 0, .int .i64 0, .int .i64 0] 43) = Y := ⟨_, rfl⟩
              have hY2 : (w3.alloc (.cells #[.int .u64 id.hi, .int .u64 id.lo, .int .i64 (-1), .int .i64 0, .int .i64 0, .int .i64 0, .int .i64 0] 43)).drew = Y := hY
              have hKY : Below w3.heap.size w3 Y := by subst hY; exact hKD.alloc hKD.size _
              have hxY : Y.heap[w3.heap.size]? = some (.cells #[.int .u64 id.hi, .int .u64 id.lo, .int .i64 (-1), .int .i64 0, .int .i64 0, .int .i64 0, .int .i64 0] 43 (0, 0)) := by subst hY; exact ha_at hszD.symm
              have hrD := hr.below (below_call hB3 hB3.size hKD)
              have hrY := hr.below (below_call hB3 hB3.size hKY)
              have hnb : ∀ k, (Value.slice none 0 0).ownBlock = some k → w3.heap.size ≤ k := fun k e => by simp [Value.ownBlock] at e
              have hbn : (([] : List Item).length + a.length) * 56 ≤ 140737488355328 := by simp; omega
              have hln : ([] : List Item).length + a.length ≤ maxLen := by simp [maxLen]; omega
              have hb1 : (([] ++ a : List Item).length + 1) * 56 ≤ 140737488355328 := by simp; omega
              have hl1 : ([] ++ a : List Item).length + 1 ≤ maxLen := by simp [maxLen]; omega
              go_region_held3 (fun W' => W'.cell? ⟨w.heap.size, 0, none⟩ = some (.int .u64 id.hi) ∧ W'.cell? ⟨w.heap.size, 1, none⟩ = some (.int .u64 id.lo))
                (first | exact ⟨j0, j1⟩ | exact ⟨(blk2 (bl_own hK6 a0)).1, (blk2 (bl_own hK6 a0)).2.1⟩ | exact ⟨(blk2 (bl_own hKZ a0)).1, (blk2 (bl_own hKZ a0)).2.1⟩ | exact ⟨(blk2 (bl_own hK4 a0)).1, (blk2 (bl_own hK4 a0)).2.1⟩ | exact ⟨(blk2 (bl_own hKY a0)).1, (blk2 (bl_own hKY a0)).2.1⟩) ((first
                | (with_reducible refine step_append_all (w := w3.drew) (by with_unfolding_all rfl) (by with_unfolding_all rfl) hun infoIt (by with_unfolding_all rfl) (by decide) encItem_len encItem_one (by with_unfolding_all rfl) (Own.nil _ w3.heap.size _ _ _) (by with_unfolding_all rfl) hN hrD hbn hln hKD.size ?_; intro v4 w4 ho4 hg4 hat4; have hK4 := below_step hKD hKD.size hg4 hnb; have hO4 : ∀ k, v4.ownBlock = some k → w3.heap.size ≤ k := fun k hk => (ho4.base k hk).1; obtain ⟨Z, hZ⟩ : ∃ Z, w4.alloc (.cells #[.int .u64 id.hi, .int .u64 id.lo, .int .i64 (-1), .int .i64 0, .int .i64 0, .int .i64 0, .int .i64 0] 43) = Z := ⟨_, rfl⟩; have hKZ : Below w3.heap.size w3 Z := (by subst hZ; exact hK4.alloc hK4.size _); have hoZ : Own Z w3.heap.size 43 7 encItem v4 ([] ++ a) := (by subst hZ; exact ho4.below ((Below.refl _ w4).alloc (Nat.le_refl _) _)); have hxZ : Z.heap[w4.heap.size]? = some (.cells #[.int .u64 id.hi, .int .u64 id.lo, .int .i64 (-1), .int .i64 0, .int .i64 0, .int .i64 0, .int .i64 0] 43 (0, 0)) := (by subst hZ; exact ha_at rfl))
                | (with_reducible refine step_append_all (w := Y) (by with_unfolding_all rfl) (by with_unfolding_all rfl) hun infoIt (by with_unfolding_all rfl) (by decide) encItem_len encItem_one (by with_unfolding_all rfl) (Own.nil _ w3.heap.size _ _ _) (by with_unfolding_all rfl) hN hrY hbn hln hKY.size ?_; intro v4 Z hoZ hgZ hatZ; have hKZ := below_step hKY hKY.size hgZ hnb; have hO4 : ∀ k, v4.ownBlock = some k → w3.heap.size ≤ k := fun k hk => (hoZ.base k hk).1; have hxZ := grown_own hgZ hxY (by simp [Value.ownBlock]))
                | (with_reducible refine step_append1 (w := Z) (by with_unfolding_all rfl) (by with_unfolding_all rfl) hun infoIt (by with_unfolding_all rfl) (by decide) encItem_len encItem_one (by with_unfolding_all rfl) hoZ (c := 1) (by with_unfolding_all rfl) (y := bareItem id (-1)) hxZ (by with_unfolding_all rfl) hb1 hl1 hKZ.size ?_; intro v6 w6 ho6 hg6 hat6; have hK6 := below_step hKZ hKZ.size hg6 hO4; have hR6 := ho6.rd encItem_len)))
              all_goals
                rw [List.nil_append] at ho6 hR6
                obtain ⟨g6, k6, hv6⟩ := ho6.lies (by simp)
                subst hv6
                have hR7 := below_call hB3 hB3.size hK6
                have han := hanew' _ k6 w6 (ho6.rdg encItem_len) (fun e => by cases e)
                rw [show (a ++ [bareItem id (-1)]).length = a.length + 1 by simp] at han
                clear hanew' hKZ hO4 hKD hKY hxY hnb hrD hrY hoZ hxZ hbn hln hb1 hl1 hR6 hK6 ho6 j0 j1
                go_wp2_with (go_at_call 23; refine han.mono ?_; clear han; rintro e w7 ⟨⟨l, v, rfl, hol, hsl, hskl⟩, hb7⟩; have hB7 := below_call hR7 hR7.size hb7)
                go_ret2
                exact ⟨⟨l, v, rfl, hol.mono hR7.size, (hIP'.out l).2 ⟨fun h => absurd rfl h, fun _ => ⟨hsl, hskl.trans hsk.out⟩⟩⟩, hB7⟩
          · rw [if_pos ⟨rfl, hpp⟩] at hE
            rw [decide_eq_false hpp] at hpz
            clear hpp hanew hM
            subst hE
            go_enter Try.func12, Try.ntmps12
            go_wp2_with (first
              | (go_at_call 10; refine hmay.mono ?_; clear hmay; rintro e w1 ⟨rfl, hb1⟩; have hB1 := below_call hB hB.size hb1; obtain ⟨c0, c1, _, _⟩ := blk2 (bl_own hb1 b0); obtain ⟨d0, d1, _, _⟩ := blk2 (bl_own hb1 b1))
              | (go_at_call 22; with_reducible refine Calls.mono (hf1 _ hB1) ?_; clear hf1; rintro e w2 ⟨rfl, hb2⟩; have hB2 := below_call hB1 hB1.size hb2; obtain ⟨h0, h1, _, _⟩ := blk2 (bl_own hb2 (bl_own hb1 b0)); obtain ⟨i0, i1, _, _⟩ := blk2 (bl_own hb2 (bl_own hb1 b1)))
              | (go_at_call 22; with_reducible refine Calls.mono (hf2 _ hB2) ?_; clear hf2; rintro e w3 ⟨rfl, hb3⟩; have hB3 := below_call hB2 hB2.size hb3; obtain ⟨j0, j1, _, _⟩ := blk2 (bl_own hb3 (bl_own hb2 (bl_own hb1 b0))); obtain ⟨l0, l1, _, _⟩ := blk2 (bl_own hb3 (bl_own hb2 (bl_own hb1 b1)))))
            go_ret2
            exact ⟨⟨[], _, rfl, Own.nil _ _ _ _ _, (hIP'.out []).2 ⟨fun _ => rfl, fun h => by omega⟩⟩, hB3⟩
        · rw [if_neg (fun h => hg h.1)] at hE
          have hg2 : 0 ≤ f2 := by omega
          clear hg
          by_cases h60 : a.length = 60
          · rw [if_pos h60] at hE
            subst hE
            have h60a : 60 ≤ a.length := by omega
            clear hanew h60 hM
            go_enter Try.func12, Try.ntmps12
            go_wp2_with (first
              | (go_at_call 10; refine hmay.mono ?_; clear hmay; rintro e w1 ⟨rfl, hb1⟩; have hB1 := below_call hB hB.size hb1; obtain ⟨c0, c1, _, _⟩ := blk2 (bl_own hb1 b0); obtain ⟨d0, d1, _, _⟩ := blk2 (bl_own hb1 b1))
              | (go_at_call 22; with_reducible refine Calls.mono (hf1 _ hB1) ?_; clear hf1; rintro e w2 ⟨rfl, hb2⟩; have hB2 := below_call hB1 hB1.size hb2; obtain ⟨h0, h1, _, _⟩ := blk2 (bl_own hb2 (bl_own hb1 b0)); obtain ⟨i0, i1, _, _⟩ := blk2 (bl_own hb2 (bl_own hb1 b1)))
              | (go_at_call 22; with_reducible refine Calls.mono (hf2 _ hB2) ?_; clear hf2; rintro e w3 ⟨rfl, hb3⟩; have hB3 := below_call hB2 hB2.size hb3; obtain ⟨j0, j1, _, _⟩ := blk2 (bl_own hb3 (bl_own hb2 (bl_own hb1 b0))); obtain ⟨l0, l1, _, _⟩ := blk2 (bl_own hb3 (bl_own hb2 (bl_own hb1 b1)))))
            go_ret2
            exact ⟨⟨[], _, rfl, Own.nil _ _ _ _ _, (hIP'.out []).2 ⟨fun _ => rfl, fun h => by omega⟩⟩, hB3⟩
          · rw [if_neg h60] at hE
            subst hE
            have hanew' := hanew hM h60
            have h60a : a.length < 60 := by omega
            clear hanew hM h60
            go_enter Try.func12, Try.ntmps12
            go_wp2_with (first
              | (go_at_call 10; refine hmay.mono ?_; clear hmay; rintro e w1 ⟨rfl, hb1⟩; have hB1 := below_call hB hB.size hb1; obtain ⟨c0, c1, _, _⟩ := blk2 (bl_own hb1 b0); obtain ⟨d0, d1, _, _⟩ := blk2 (bl_own hb1 b1))
              | (go_at_call 22; with_reducible refine Calls.mono (hf1 _ hB1) ?_; clear hf1; rintro e w2 ⟨rfl, hb2⟩; have hB2 := below_call hB1 hB1.size hb2; obtain ⟨h0, h1, _, _⟩ := blk2 (bl_own hb2 (bl_own hb1 b0)); obtain ⟨i0, i1, _, _⟩ := blk2 (bl_own hb2 (bl_own hb1 b1)))
              | (go_at_call 22; with_reducible refine Calls.mono (hf2 _ hB2) ?_; clear hf2; rintro e w3 ⟨rfl, hb3⟩; have hB3 := below_call hB2 hB2.size hb3; obtain ⟨j0, j1, _, _⟩ := blk2 (bl_own hb3 (bl_own hb2 (bl_own hb1 b0))); obtain ⟨l0, l1, _, _⟩ := blk2 (bl_own hb3 (bl_own hb2 (bl_own hb1 b1)))))
            have hb60 : a.length ≤ 60 := hMl
            have a0 := bl_own hb3 (bl_own hb2 (bl_own hb1 b0))
            clear c0 c1 d0 d1 h0 h1 i0 i1 l0 l1 hb1 hb2 hb3 hB1 hB2 hB hpz hid
            have hKD : Below w3.heap.size w3 w3.drew := (Below.refl _ w3).drew
            have hszD : w3.drew.heap.size = w3.heap.size := rfl
            obtain ⟨Y, hY⟩ : ∃ Y, w3.drew.alloc (.cells #[.int .u64 id.hi, .int .u64 id.lo, .int .i64 f2, .int .i64 0, .int .i64 0, .int .i64 0, .int .i64 0] 43) = Y := ⟨_, rfl⟩
            have hY2 : (w3.alloc (.cells #[.int .u64 id.hi, .int .u64 id.lo, .int .i64 f2, .int .i64 0, .int .i64 0, .int .i64 0, .int .i64 0] 43)).drew = Y := hY
            have hKY : Below w3.heap.size w3 Y := by subst hY; exact hKD.alloc hKD.size _
            have hxY : Y.heap[w3.heap.size]? = some (.cells #[.int .u64 id.hi, .int .u64 id.lo, .int .i64 f2, .int .i64 0, .int .i64 0, .int .i64 0, .int .i64 0] 43 (0, 0)) := by subst hY; exact ha_at hszD.symm
            have hrD := hr.below (below_call hB3 hB3.size hKD)
            have hrY := hr.below (below_call hB3 hB3.size hKY)
            have hnb : ∀ k, (Value.slice none 0 0).ownBlock = some k → w3.heap.size ≤ k := fun k e => by simp [Value.ownBlock] at e
            have hbn : (([] : List Item).length + a.length) * 56 ≤ 140737488355328 := by simp; omega
            have hln : ([] : List Item).length + a.length ≤ maxLen := by simp [maxLen]; omega
            have hb1 : (([] ++ a : List Item).length + 1) * 56 ≤ 140737488355328 := by simp; omega
            have hl1 : ([] ++ a : List Item).length + 1 ≤ maxLen := by simp [maxLen]; omega
            go_region_held3 (fun W' => W'.cell? ⟨w.heap.size, 0, none⟩ = some (.int .u64 id.hi) ∧ W'.cell? ⟨w.heap.size, 1, none⟩ = some (.int .u64 id.lo))
              (first | exact ⟨j0, j1⟩ | exact ⟨(blk2 (bl_own hK6 a0)).1, (blk2 (bl_own hK6 a0)).2.1⟩ | exact ⟨(blk2 (bl_own hKZ a0)).1, (blk2 (bl_own hKZ a0)).2.1⟩ | exact ⟨(blk2 (bl_own hK4 a0)).1, (blk2 (bl_own hK4 a0)).2.1⟩ | exact ⟨(blk2 (bl_own hKY a0)).1, (blk2 (bl_own hKY a0)).2.1⟩) ((first
              | (with_reducible refine step_append_all (w := w3.drew) (by with_unfolding_all rfl) (by with_unfolding_all rfl) hun infoIt (by with_unfolding_all rfl) (by decide) encItem_len encItem_one (by with_unfolding_all rfl) (Own.nil _ w3.heap.size _ _ _) (by with_unfolding_all rfl) hN hrD hbn hln hKD.size ?_; intro v4 w4 ho4 hg4 hat4; have hK4 := below_step hKD hKD.size hg4 hnb; have hO4 : ∀ k, v4.ownBlock = some k → w3.heap.size ≤ k := fun k hk => (ho4.base k hk).1; obtain ⟨Z, hZ⟩ : ∃ Z, w4.alloc (.cells #[.int .u64 id.hi, .int .u64 id.lo, .int .i64 f2, .int .i64 0, .int .i64 0, .int .i64 0, .int .i64 0] 43) = Z := ⟨_, rfl⟩; have hKZ : Below w3.heap.size w3 Z := (by subst hZ; exact hK4.alloc hK4.size _); have hoZ : Own Z w3.heap.size 43 7 encItem v4 ([] ++ a) := (by subst hZ; exact ho4.below ((Below.refl _ w4).alloc (Nat.le_refl _) _)); have hxZ : Z.heap[w4.heap.size]? = some (.cells #[.int .u64 id.hi, .int .u64 id.lo, .int .i64 f2, .int .i64 0, .int .i64 0, .int .i64 0, .int .i64 0] 43 (0, 0)) := (by subst hZ; exact ha_at rfl))
              | (with_reducible refine step_append_all (w := Y) (by with_unfolding_all rfl) (by with_unfolding_all rfl) hun infoIt (by with_unfolding_all rfl) (by decide) encItem_len encItem_one (by with_unfolding_all rfl) (Own.nil _ w3.heap.size _ _ _) (by with_unfolding_all rfl) hN hrY hbn hln hKY.size ?_; intro v4 Z hoZ hgZ hatZ; have hKZ := below_step hKY hKY.size hgZ hnb; have hO4 : ∀ k, v4.ownBlock = some k → w3.heap.size ≤ k := fun k hk => (hoZ.base k hk).1; have hxZ := grown_own hgZ hxY (by simp [Value.ownBlock]))
              | (with_reducible refine step_append1 (w := Z) (by with_unfolding_all rfl) (by with_unfolding_all rfl) hun infoIt (by with_unfolding_all rfl) (by decide) encItem_len encItem_one (by with_unfolding_all rfl) hoZ (c := 1) (by with_unfolding_all rfl) (y := bareItem id f2) hxZ (by with_unfolding_all rfl) hb1 hl1 hKZ.size ?_; intro v6 w6 ho6 hg6 hat6; have hK6 := below_step hKZ hKZ.size hg6 hO4; have hR6 := ho6.rd encItem_len)))
            all_goals
              rw [List.nil_append] at ho6 hR6
              obtain ⟨g6, k6, hv6⟩ := ho6.lies (by simp)
              subst hv6
              have hR7 := below_call hB3 hB3.size hK6
              have han := hanew' _ k6 w6 (ho6.rdg encItem_len) (fun e => by cases e)
              rw [show (a ++ [bareItem id f2]).length = a.length + 1 by simp] at han
              clear hanew' hKZ hO4 hKD hKY hxY hnb hrD hrY hoZ hxZ hbn hln hb1 hl1 hR6 hK6 ho6 j0 j1
              go_wp2_with (go_at_call 23; refine han.mono ?_; clear han; rintro e w7 ⟨⟨l, v, rfl, hol, hsl, hskl⟩, hb7⟩; have hB7 := below_call hR7 hR7.size hb7)
              go_ret2
              exact ⟨⟨l, v, rfl, hol.mono hR7.size, (hIP'.out l).2 ⟨fun h => absurd rfl h, fun _ => ⟨hsl, hskl.trans hsk.out⟩⟩⟩, hB7⟩
      · rw [if_pos hf] at hE
        have hf0 : 0 ≤ f1 := by omega
        subst hE
        clear hanew hM hf
        go_enter Try.func12, Try.ntmps12
        go_wp2_with (first
          | (go_at_call 10; refine hmay.mono ?_; clear hmay; rintro e w1 ⟨rfl, hb1⟩; have hB1 := below_call hB hB.size hb1; obtain ⟨c0, c1, _, _⟩ := blk2 (bl_own hb1 b0); obtain ⟨d0, d1, _, _⟩ := blk2 (bl_own hb1 b1))
          | (go_at_call 22; with_reducible refine Calls.mono (hf1 _ hB1) ?_; clear hf1; rintro e w2 ⟨rfl, hb2⟩; have hB2 := below_call hB1 hB1.size hb2; obtain ⟨h0, h1, _, _⟩ := blk2 (bl_own hb2 (bl_own hb1 b0)); obtain ⟨i0, i1, _, _⟩ := blk2 (bl_own hb2 (bl_own hb1 b1))))
        go_ret2
        exact ⟨⟨[], _, rfl, Own.nil _ _ _ _ _, (hIP'.out []).2 ⟨fun _ => rfl, fun h => by omega⟩⟩, hB2⟩
  · rw [if_pos (.inl hM)] at hE
    rw [decide_eq_false hM] at hmay
    clear hM hanew
    subst hE
    go_enter Try.func12, Try.ntmps12
    go_wp2_with (go_at_call 10; refine hmay.mono ?_; clear hmay; rintro e w1 ⟨rfl, hb1⟩; have hB1 := below_call hB hB.size hb1; obtain ⟨c0, c1, _, _⟩ := blk2 (bl_own hb1 b0); obtain ⟨d0, d1, _, _⟩ := blk2 (bl_own hb1 b1))
    go_ret2
    exact ⟨⟨[], _, rfl, Own.nil _ _ _ _ _, (hIP'.out []).2 ⟨fun _ => rfl, fun h => by omega⟩⟩, hB1⟩
end Go.Proofs.Ytionkkjdaghakaa
