/- array.Insert, walked. (Printed by gen_ins.py.) -/
import Derived.Test.YtibmfpcbjopojaaArrK
namespace Go.Proofs.Ytibmfpcbjopojaa
open Go.RowKit
set_option maxRecDepth 100000 in
set_option maxHeartbeats 2000000 in
theorem insert_any (a : List Item) (id par : ID) (hl : a.length ≤ 100) (A : Option Addr) (c : Nat) (w : World) (hr : Rd 7 encItem w A a) (hN : A = none → c = 0) :
    Calls Try.prog 56 #[.slice A a.length c, idv id, idv par] w fun e w' => (∃ l v, e = .returned (.tuple #[v, .int .i64 (insE a id par)]) ∧ Own w' w.heap.size 103 7 encItem v l ∧ InsP a id par l ∧ (insE a id par = 0 → ∀ j, j < a.length → (itm l j).w = (itm a j).w)) ∧ Below w.heap.size w w' := by
  have hm := hr.1
  have hWs : ∃ W, (w.alloc (.cells #[.int .u64 id.hi, .int .u64 id.lo] 29)).alloc (.cells #[.int .u64 par.hi, .int .u64 par.lo] 29) = W := ⟨_, rfl⟩
  obtain ⟨W, hW⟩ := hWs
  have hB : Below w.heap.size w W := by subst hW; exact ((Below.refl _ w).alloc (Nat.le_refl _) _).alloc (by simp) _
  have b0 : W.heap[w.heap.size]? = some (.cells #[.int .u64 id.hi, .int .u64 id.lo] 29 (0, 0)) := by subst hW; exact ha_lt (ha_at rfl)
  have b1 : W.heap[w.heap.size + 1]? = some (.cells #[.int .u64 par.hi, .int .u64 par.lo] 29 (0, 0)) := by subst hW; exact ha_at (by simp)
  have hcl := clone_any a hl A c W (hr.below hB) hN
  have hf1 := fun B k V (hV : Rd 7 encItem V B a) => find_any a id B k V hV
  have hf2 := fun B k V (hV : Rd 7 encItem V B a) => find_any a par B k V hV
  have hmay := fun V (hV : Below w.heap.size w V) => may10_any a A c V (hr.below hV)
  have hput := fun (hM : MayA a) v V (ho : Own V W.heap.size 103 7 encItem v a) (hbase : W.heap.size ≤ V.heap.size) => put_any a id (findI a par) hl hM.2.1.parOk hM.2.2 (by rcases find_spec a par with ⟨h, _⟩ | ⟨k, _, h, _⟩ <;> omega) (by rcases find_spec a par with ⟨h, _⟩ | ⟨k, hk, h, _⟩ <;> omega) hM.w W.heap.size v V ho hbase
  have hid := eql_idz id
  have hpz := neq_idz par
  have hE : insE a id par = if ¬ MayA a ∨ id = zid then 1 else if findI a id ≠ -1 then 4 else if findI a par = -1 ∧ par ≠ zid then 3 else if a.length = 60 then 7 else 0 := rfl
  have hIP : ∀ l, InsP a id par l ↔ (insE a id par ≠ 0 → l = []) ∧ (insE a id par = 0 → Settled l ∧ SameSk l (a ++ [newItem id (findI a par) a.length])) := fun l => Iff.rfl
  obtain ⟨E, hEE⟩ : ∃ E, insE a id par = E := ⟨_, rfl⟩
  rw [hEE] at hE hIP ⊢
  clear hEE
  generalize InsP a id par = IP at hIP ⊢
  obtain ⟨f1, hf1e⟩ : ∃ f, findI a id = f := ⟨_, rfl⟩
  obtain ⟨f2, hf2e⟩ : ∃ f, findI a par = f := ⟨_, rfl⟩
  rw [hf1e] at hE hf1
  rw [hf2e] at hE hf2 hput hIP
  clear hf1e hf2e
  unfold idv at *
  by_cases hM : MayA a
  · rw [decide_eq_true hM] at hmay
    have hput' := hput hM
    clear hput
    by_cases hz : id = zid
    · rw [if_pos (.inr hz)] at hE
      rw [decide_eq_true hz] at hid
      clear hM hz hput'
      subst hE
      go_enter Try.func56, Try.ntmps56
      go_wp2_with (first
        | (go_at_call 83; refine hcl.mono ?_; clear hcl; rintro e w1 ⟨⟨v, rfl, ho1⟩, hb1⟩; have hB1 := below_call hB hB.size hb1; obtain ⟨A1, k1, hv, hR1⟩ := ho1.rd encItem_len; subst hv; obtain ⟨c0, c1, _, _⟩ := blk2 (bl_own hb1 b0); obtain ⟨d0, d1, _, _⟩ := blk2 (bl_own hb1 b1))
        | (go_at_call 60; with_reducible refine Calls.mono (hf2 _ _ _ hR1) ?_; clear hf2; rintro e w2 ⟨rfl, hb2⟩; have hB2 := below_call hB1 hB1.size hb2; have ho2 := ho1.below hb2; have hR2 := hR1.below hb2; have hS2 := below_call hb1 hb1.size hb2; obtain ⟨e0, e1, _, _⟩ := blk2 (bl_own hb2 (bl_own hb1 b0)); obtain ⟨g0, g1, _, _⟩ := blk2 (bl_own hb2 (bl_own hb1 b1)))
        | (go_at_call 58; refine (hmay _ hB2).mono ?_; clear hmay; rintro e w3 ⟨rfl, hb3⟩; have hB3 := below_call hB2 hB2.size hb3; have ho3 := ho2.below hb3; have hR3 := hR2.below hb3; have hS3 := below_call hS2 hS2.size hb3; obtain ⟨h0, h1, _, _⟩ := blk2 (bl_own hb3 (bl_own hb2 (bl_own hb1 b0))); obtain ⟨i0, i1, _, _⟩ := blk2 (bl_own hb3 (bl_own hb2 (bl_own hb1 b1)))))
      go_ret2
      exact ⟨⟨[], _, rfl, Own.nil _ _ _ _ _, (hIP []).2 ⟨fun _ => rfl, fun h => by omega⟩, fun h => by omega⟩, hB3⟩
    · rw [if_neg (fun h => h.elim (fun h => h hM) hz)] at hE
      rw [decide_eq_false hz] at hid
      clear hM hz
      by_cases hf : f1 = -1
      · rw [if_neg (fun h => h hf)] at hE
        subst hf
        by_cases hg : f2 = -1
        · subst hg
          by_cases hpp : par = zid
          · rw [if_neg (fun h => h.2 hpp)] at hE
            rw [decide_eq_true hpp] at hpz
            clear hpp
            by_cases h60 : a.length = 60
            · rw [if_pos h60] at hE
              subst hE
              have h60a : 60 ≤ a.length := by omega
              have h60b : a.length ≤ 60 := by omega
              clear hput' h60
              go_enter Try.func56, Try.ntmps56
              go_wp2_with (first
                | (go_at_call 83; refine hcl.mono ?_; clear hcl; rintro e w1 ⟨⟨v, rfl, ho1⟩, hb1⟩; have hB1 := below_call hB hB.size hb1; obtain ⟨A1, k1, hv, hR1⟩ := ho1.rd encItem_len; subst hv; obtain ⟨c0, c1, _, _⟩ := blk2 (bl_own hb1 b0); obtain ⟨d0, d1, _, _⟩ := blk2 (bl_own hb1 b1))
                | (go_at_call 60; with_reducible refine Calls.mono (hf2 _ _ _ hR1) ?_; clear hf2; rintro e w2 ⟨rfl, hb2⟩; have hB2 := below_call hB1 hB1.size hb2; have ho2 := ho1.below hb2; have hR2 := hR1.below hb2; have hS2 := below_call hb1 hb1.size hb2; obtain ⟨e0, e1, _, _⟩ := blk2 (bl_own hb2 (bl_own hb1 b0)); obtain ⟨g0, g1, _, _⟩ := blk2 (bl_own hb2 (bl_own hb1 b1)))
                | (go_at_call 58; refine (hmay _ hB2).mono ?_; clear hmay; rintro e w3 ⟨rfl, hb3⟩; have hB3 := below_call hB2 hB2.size hb3; have ho3 := ho2.below hb3; have hR3 := hR2.below hb3; have hS3 := below_call hS2 hS2.size hb3; obtain ⟨h0, h1, _, _⟩ := blk2 (bl_own hb3 (bl_own hb2 (bl_own hb1 b0))); obtain ⟨i0, i1, _, _⟩ := blk2 (bl_own hb3 (bl_own hb2 (bl_own hb1 b1))))
                | (go_at_call 60; with_reducible refine Calls.mono (hf1 _ _ _ hR3) ?_; clear hf1; rintro e w4 ⟨rfl, hb4⟩; have hB4 := below_call hB3 hB3.size hb4; have ho4 := ho3.below hb4; have hS4 := below_call hS3 hS3.size hb4; obtain ⟨j0, j1, _, _⟩ := blk2 (bl_own hb4 (bl_own hb3 (bl_own hb2 (bl_own hb1 b0)))); obtain ⟨l0, l1, _, _⟩ := blk2 (bl_own hb4 (bl_own hb3 (bl_own hb2 (bl_own hb1 b1))))))
              go_ret2
              exact ⟨⟨[], _, rfl, Own.nil _ _ _ _ _, (hIP []).2 ⟨fun _ => rfl, fun h => by omega⟩, fun h => by omega⟩, hB4⟩
            · rw [if_neg h60] at hE
              subst hE
              go_enter Try.func56, Try.ntmps56
              go_wp2_with (first
                | (go_at_call 83; refine hcl.mono ?_; clear hcl; rintro e w1 ⟨⟨v, rfl, ho1⟩, hb1⟩; have hB1 := below_call hB hB.size hb1; obtain ⟨A1, k1, hv, hR1⟩ := ho1.rd encItem_len; subst hv; obtain ⟨c0, c1, _, _⟩ := blk2 (bl_own hb1 b0); obtain ⟨d0, d1, _, _⟩ := blk2 (bl_own hb1 b1))
                | (go_at_call 60; with_reducible refine Calls.mono (hf2 _ _ _ hR1) ?_; clear hf2; rintro e w2 ⟨rfl, hb2⟩; have hB2 := below_call hB1 hB1.size hb2; have ho2 := ho1.below hb2; have hR2 := hR1.below hb2; have hS2 := below_call hb1 hb1.size hb2; obtain ⟨e0, e1, _, _⟩ := blk2 (bl_own hb2 (bl_own hb1 b0)); obtain ⟨g0, g1, _, _⟩ := blk2 (bl_own hb2 (bl_own hb1 b1)))
                | (go_at_call 58; refine (hmay _ hB2).mono ?_; clear hmay; rintro e w3 ⟨rfl, hb3⟩; have hB3 := below_call hB2 hB2.size hb3; have ho3 := ho2.below hb3; have hR3 := hR2.below hb3; have hS3 := below_call hS2 hS2.size hb3; obtain ⟨h0, h1, _, _⟩ := blk2 (bl_own hb3 (bl_own hb2 (bl_own hb1 b0))); obtain ⟨i0, i1, _, _⟩ := blk2 (bl_own hb3 (bl_own hb2 (bl_own hb1 b1))))
                | (go_at_call 60; with_reducible refine Calls.mono (hf1 _ _ _ hR3) ?_; clear hf1; rintro e w4 ⟨rfl, hb4⟩; have hB4 := below_call hB3 hB3.size hb4; have ho4 := ho3.below hb4; have hS4 := below_call hS3 hS3.size hb4; obtain ⟨j0, j1, _, _⟩ := blk2 (bl_own hb4 (bl_own hb3 (bl_own hb2 (bl_own hb1 b0)))); obtain ⟨l0, l1, _, _⟩ := blk2 (bl_own hb4 (bl_own hb3 (bl_own hb2 (bl_own hb1 b1)))))
                | (go_at_call 59; refine (hput' _ w4 ho4 hS4.size).mono ?_; clear hput'; rintro e w5 ⟨⟨b, g, cap, rfl, hj, ho5⟩, hg5⟩; have hB5 := below_step hB4 hB4.size hg5 (fun k hk => Nat.le_trans hB.size (ho4.base k hk).1)))
              go_ret2
              exact ⟨⟨b, _, rfl, ho5.mono hB.size, (hIP b).2 ⟨fun h => absurd rfl h, fun _ => ⟨J_end hj, J_same hj⟩⟩, fun _ j hj2 => by rw [J_w hj (by have := hj.len; simp at this; omega), itm_app _ _ _ hj2]⟩, hB5⟩
          · rw [if_pos ⟨rfl, hpp⟩] at hE
            rw [decide_eq_false hpp] at hpz
            clear hpp hput'
            subst hE
            go_enter Try.func56, Try.ntmps56
            go_wp2_with (first
              | (go_at_call 83; refine hcl.mono ?_; clear hcl; rintro e w1 ⟨⟨v, rfl, ho1⟩, hb1⟩; have hB1 := below_call hB hB.size hb1; obtain ⟨A1, k1, hv, hR1⟩ := ho1.rd encItem_len; subst hv; obtain ⟨c0, c1, _, _⟩ := blk2 (bl_own hb1 b0); obtain ⟨d0, d1, _, _⟩ := blk2 (bl_own hb1 b1))
              | (go_at_call 60; with_reducible refine Calls.mono (hf2 _ _ _ hR1) ?_; clear hf2; rintro e w2 ⟨rfl, hb2⟩; have hB2 := below_call hB1 hB1.size hb2; have ho2 := ho1.below hb2; have hR2 := hR1.below hb2; have hS2 := below_call hb1 hb1.size hb2; obtain ⟨e0, e1, _, _⟩ := blk2 (bl_own hb2 (bl_own hb1 b0)); obtain ⟨g0, g1, _, _⟩ := blk2 (bl_own hb2 (bl_own hb1 b1)))
              | (go_at_call 58; refine (hmay _ hB2).mono ?_; clear hmay; rintro e w3 ⟨rfl, hb3⟩; have hB3 := below_call hB2 hB2.size hb3; have ho3 := ho2.below hb3; have hR3 := hR2.below hb3; have hS3 := below_call hS2 hS2.size hb3; obtain ⟨h0, h1, _, _⟩ := blk2 (bl_own hb3 (bl_own hb2 (bl_own hb1 b0))); obtain ⟨i0, i1, _, _⟩ := blk2 (bl_own hb3 (bl_own hb2 (bl_own hb1 b1))))
              | (go_at_call 60; with_reducible refine Calls.mono (hf1 _ _ _ hR3) ?_; clear hf1; rintro e w4 ⟨rfl, hb4⟩; have hB4 := below_call hB3 hB3.size hb4; have ho4 := ho3.below hb4; have hS4 := below_call hS3 hS3.size hb4; obtain ⟨j0, j1, _, _⟩ := blk2 (bl_own hb4 (bl_own hb3 (bl_own hb2 (bl_own hb1 b0)))); obtain ⟨l0, l1, _, _⟩ := blk2 (bl_own hb4 (bl_own hb3 (bl_own hb2 (bl_own hb1 b1))))))
            go_ret2
            exact ⟨⟨[], _, rfl, Own.nil _ _ _ _ _, (hIP []).2 ⟨fun _ => rfl, fun h => by omega⟩, fun h => by omega⟩, hB4⟩
        · rw [if_neg (fun h => hg h.1)] at hE
          by_cases h60 : a.length = 60
          · rw [if_pos h60] at hE
            subst hE
            have h60a : 60 ≤ a.length := by omega
            have h60b : a.length ≤ 60 := by omega
            clear hput' h60
            go_enter Try.func56, Try.ntmps56
            go_wp2_with (first
              | (go_at_call 83; refine hcl.mono ?_; clear hcl; rintro e w1 ⟨⟨v, rfl, ho1⟩, hb1⟩; have hB1 := below_call hB hB.size hb1; obtain ⟨A1, k1, hv, hR1⟩ := ho1.rd encItem_len; subst hv; obtain ⟨c0, c1, _, _⟩ := blk2 (bl_own hb1 b0); obtain ⟨d0, d1, _, _⟩ := blk2 (bl_own hb1 b1))
              | (go_at_call 60; with_reducible refine Calls.mono (hf2 _ _ _ hR1) ?_; clear hf2; rintro e w2 ⟨rfl, hb2⟩; have hB2 := below_call hB1 hB1.size hb2; have ho2 := ho1.below hb2; have hR2 := hR1.below hb2; have hS2 := below_call hb1 hb1.size hb2; obtain ⟨e0, e1, _, _⟩ := blk2 (bl_own hb2 (bl_own hb1 b0)); obtain ⟨g0, g1, _, _⟩ := blk2 (bl_own hb2 (bl_own hb1 b1)))
              | (go_at_call 58; refine (hmay _ hB2).mono ?_; clear hmay; rintro e w3 ⟨rfl, hb3⟩; have hB3 := below_call hB2 hB2.size hb3; have ho3 := ho2.below hb3; have hR3 := hR2.below hb3; have hS3 := below_call hS2 hS2.size hb3; obtain ⟨h0, h1, _, _⟩ := blk2 (bl_own hb3 (bl_own hb2 (bl_own hb1 b0))); obtain ⟨i0, i1, _, _⟩ := blk2 (bl_own hb3 (bl_own hb2 (bl_own hb1 b1))))
              | (go_at_call 60; with_reducible refine Calls.mono (hf1 _ _ _ hR3) ?_; clear hf1; rintro e w4 ⟨rfl, hb4⟩; have hB4 := below_call hB3 hB3.size hb4; have ho4 := ho3.below hb4; have hS4 := below_call hS3 hS3.size hb4; obtain ⟨j0, j1, _, _⟩ := blk2 (bl_own hb4 (bl_own hb3 (bl_own hb2 (bl_own hb1 b0)))); obtain ⟨l0, l1, _, _⟩ := blk2 (bl_own hb4 (bl_own hb3 (bl_own hb2 (bl_own hb1 b1))))))
            go_ret2
            exact ⟨⟨[], _, rfl, Own.nil _ _ _ _ _, (hIP []).2 ⟨fun _ => rfl, fun h => by omega⟩, fun h => by omega⟩, hB4⟩
          · rw [if_neg h60] at hE
            subst hE
            go_enter Try.func56, Try.ntmps56
            go_wp2_with (first
              | (go_at_call 83; refine hcl.mono ?_; clear hcl; rintro e w1 ⟨⟨v, rfl, ho1⟩, hb1⟩; have hB1 := below_call hB hB.size hb1; obtain ⟨A1, k1, hv, hR1⟩ := ho1.rd encItem_len; subst hv; obtain ⟨c0, c1, _, _⟩ := blk2 (bl_own hb1 b0); obtain ⟨d0, d1, _, _⟩ := blk2 (bl_own hb1 b1))
              | (go_at_call 60; with_reducible refine Calls.mono (hf2 _ _ _ hR1) ?_; clear hf2; rintro e w2 ⟨rfl, hb2⟩; have hB2 := below_call hB1 hB1.size hb2; have ho2 := ho1.below hb2; have hR2 := hR1.below hb2; have hS2 := below_call hb1 hb1.size hb2; obtain ⟨e0, e1, _, _⟩ := blk2 (bl_own hb2 (bl_own hb1 b0)); obtain ⟨g0, g1, _, _⟩ := blk2 (bl_own hb2 (bl_own hb1 b1)))
              | (go_at_call 58; refine (hmay _ hB2).mono ?_; clear hmay; rintro e w3 ⟨rfl, hb3⟩; have hB3 := below_call hB2 hB2.size hb3; have ho3 := ho2.below hb3; have hR3 := hR2.below hb3; have hS3 := below_call hS2 hS2.size hb3; obtain ⟨h0, h1, _, _⟩ := blk2 (bl_own hb3 (bl_own hb2 (bl_own hb1 b0))); obtain ⟨i0, i1, _, _⟩ := blk2 (bl_own hb3 (bl_own hb2 (bl_own hb1 b1))))
              | (go_at_call 60; with_reducible refine Calls.mono (hf1 _ _ _ hR3) ?_; clear hf1; rintro e w4 ⟨rfl, hb4⟩; have hB4 := below_call hB3 hB3.size hb4; have ho4 := ho3.below hb4; have hS4 := below_call hS3 hS3.size hb4; obtain ⟨j0, j1, _, _⟩ := blk2 (bl_own hb4 (bl_own hb3 (bl_own hb2 (bl_own hb1 b0)))); obtain ⟨l0, l1, _, _⟩ := blk2 (bl_own hb4 (bl_own hb3 (bl_own hb2 (bl_own hb1 b1)))))
              | (go_at_call 59; refine (hput' _ w4 ho4 hS4.size).mono ?_; clear hput'; rintro e w5 ⟨⟨b, g, cap, rfl, hj, ho5⟩, hg5⟩; have hB5 := below_step hB4 hB4.size hg5 (fun k hk => Nat.le_trans hB.size (ho4.base k hk).1)))
            go_ret2
            exact ⟨⟨b, _, rfl, ho5.mono hB.size, (hIP b).2 ⟨fun h => absurd rfl h, fun _ => ⟨J_end hj, J_same hj⟩⟩, fun _ j hj2 => by rw [J_w hj (by have := hj.len; simp at this; omega), itm_app _ _ _ hj2]⟩, hB5⟩
      · rw [if_pos hf] at hE
        subst hE
        clear hput'
        go_enter Try.func56, Try.ntmps56
        go_wp2_with (first
          | (go_at_call 83; refine hcl.mono ?_; clear hcl; rintro e w1 ⟨⟨v, rfl, ho1⟩, hb1⟩; have hB1 := below_call hB hB.size hb1; obtain ⟨A1, k1, hv, hR1⟩ := ho1.rd encItem_len; subst hv; obtain ⟨c0, c1, _, _⟩ := blk2 (bl_own hb1 b0); obtain ⟨d0, d1, _, _⟩ := blk2 (bl_own hb1 b1))
          | (go_at_call 60; with_reducible refine Calls.mono (hf2 _ _ _ hR1) ?_; clear hf2; rintro e w2 ⟨rfl, hb2⟩; have hB2 := below_call hB1 hB1.size hb2; have ho2 := ho1.below hb2; have hR2 := hR1.below hb2; have hS2 := below_call hb1 hb1.size hb2; obtain ⟨e0, e1, _, _⟩ := blk2 (bl_own hb2 (bl_own hb1 b0)); obtain ⟨g0, g1, _, _⟩ := blk2 (bl_own hb2 (bl_own hb1 b1)))
          | (go_at_call 58; refine (hmay _ hB2).mono ?_; clear hmay; rintro e w3 ⟨rfl, hb3⟩; have hB3 := below_call hB2 hB2.size hb3; have ho3 := ho2.below hb3; have hR3 := hR2.below hb3; have hS3 := below_call hS2 hS2.size hb3; obtain ⟨h0, h1, _, _⟩ := blk2 (bl_own hb3 (bl_own hb2 (bl_own hb1 b0))); obtain ⟨i0, i1, _, _⟩ := blk2 (bl_own hb3 (bl_own hb2 (bl_own hb1 b1))))
          | (go_at_call 60; with_reducible refine Calls.mono (hf1 _ _ _ hR3) ?_; clear hf1; rintro e w4 ⟨rfl, hb4⟩; have hB4 := below_call hB3 hB3.size hb4; have ho4 := ho3.below hb4; have hS4 := below_call hS3 hS3.size hb4; obtain ⟨j0, j1, _, _⟩ := blk2 (bl_own hb4 (bl_own hb3 (bl_own hb2 (bl_own hb1 b0)))); obtain ⟨l0, l1, _, _⟩ := blk2 (bl_own hb4 (bl_own hb3 (bl_own hb2 (bl_own hb1 b1))))))
        go_ret2
        exact ⟨⟨[], _, rfl, Own.nil _ _ _ _ _, (hIP []).2 ⟨fun _ => rfl, fun h => by omega⟩, fun h => by omega⟩, hB4⟩
  · rw [if_pos (.inl hM)] at hE
    rw [decide_eq_false hM] at hmay
    clear hM hput
    subst hE
    go_enter Try.func56, Try.ntmps56
    go_wp2_with (first
      | (go_at_call 83; refine hcl.mono ?_; clear hcl; rintro e w1 ⟨⟨v, rfl, ho1⟩, hb1⟩; have hB1 := below_call hB hB.size hb1; obtain ⟨A1, k1, hv, hR1⟩ := ho1.rd encItem_len; subst hv; obtain ⟨c0, c1, _, _⟩ := blk2 (bl_own hb1 b0); obtain ⟨d0, d1, _, _⟩ := blk2 (bl_own hb1 b1))
      | (go_at_call 60; with_reducible refine Calls.mono (hf2 _ _ _ hR1) ?_; clear hf2; rintro e w2 ⟨rfl, hb2⟩; have hB2 := below_call hB1 hB1.size hb2; have ho2 := ho1.below hb2; have hR2 := hR1.below hb2; have hS2 := below_call hb1 hb1.size hb2; obtain ⟨e0, e1, _, _⟩ := blk2 (bl_own hb2 (bl_own hb1 b0)); obtain ⟨g0, g1, _, _⟩ := blk2 (bl_own hb2 (bl_own hb1 b1)))
      | (go_at_call 58; refine (hmay _ hB2).mono ?_; clear hmay; rintro e w3 ⟨rfl, hb3⟩; have hB3 := below_call hB2 hB2.size hb3; have ho3 := ho2.below hb3; have hR3 := hR2.below hb3; have hS3 := below_call hS2 hS2.size hb3; obtain ⟨h0, h1, _, _⟩ := blk2 (bl_own hb3 (bl_own hb2 (bl_own hb1 b0))); obtain ⟨i0, i1, _, _⟩ := blk2 (bl_own hb3 (bl_own hb2 (bl_own hb1 b1)))))
    go_ret2
    exact ⟨⟨[], _, rfl, Own.nil _ _ _ _ _, (hIP []).2 ⟨fun _ => rfl, fun h => by omega⟩, fun h => by omega⟩, hB3⟩
end Go.Proofs.Ytibmfpcbjopojaa
