/- ArrayTells, walked. -/
import Derived.Test.YtionkkjdaghakaaArrX
namespace Go.Proofs.Ytionkkjdaghakaa
open Go.RowKit
set_option maxRecDepth 100000 in
set_option maxHeartbeats 2000000 in
theorem tells10_any (a : List Item) (id par : ID) (y : Int) (A : Option Addr) (c : Nat) (w : World) (hr : Rd 7 encItem w A a) (hN : A = none → c = 0) :
    Calls Try.prog 3 #[.slice A a.length c, idv id, idv par, .int .i64 y] w fun e w' => e = .returned (.bool true) ∧ Below w.heap.size w w' := by
  have hm := hr.1
  have hun := Try.underlying22
  have haw := fun V => awake10_any V
  have hWs : ∃ W, (w.alloc (.cells #[.int .u64 id.hi, .int .u64 id.lo] 25)).alloc (.cells #[.int .u64 par.hi, .int .u64 par.lo] 25) = W := ⟨_, rfl⟩
  obtain ⟨W, hW⟩ := hWs
  have hB : Below w.heap.size w W := by subst hW; exact ((Below.refl _ w).alloc (Nat.le_refl _) _).alloc (by simp) _
  have b0 : W.heap[w.heap.size]? = some (.cells #[.int .u64 id.hi, .int .u64 id.lo] 25 (0, 0)) := by subst hW; exact ha_lt (ha_at rfl)
  have b1 : W.heap[w.heap.size + 1]? = some (.cells #[.int .u64 par.hi, .int .u64 par.lo] 25 (0, 0)) := by subst hW; exact ha_at (by simp)
  by_cases h70 : a.length ≤ 70
  · have hrm := fun V (hV : Below w.heap.size w V) => rmay10_any a A c V (hr.below hV) hN
    have hins := fun V (hV : Below w.heap.size w V) => insert_any a id par (by omega) A c V (hr.below hV) hN
    have hrin := fun V (hV : Below w.heap.size w V) => rinsert_any a id par A c V (hr.below hV) hN
    have hmv := fun V (hV : Below w.heap.size w V) => move_any a id y (by omega) A c V (hr.below hV) hN
    have hrmv := fun V (hV : Below w.heap.size w V) => rmove_any a id y A c V (hr.below hV) hN
    have hmay := fun V (hV : Below w.heap.size w V) => may10_any a A c V (hr.below hV)
    have htop := fun V (hV : Below w.heap.size w V) => top_any a A c V (hr.below hV)
    have hrtop := fun V (hV : Below w.heap.size w V) => rtop_any a A c V (hr.below hV) hN
    obtain ⟨m, hm2⟩ : ∃ m, decide (MayA a) = m := ⟨_, rfl⟩
    obtain ⟨E, hE⟩ : ∃ E, insE a id par = E := ⟨_, rfl⟩
    obtain ⟨F, hF⟩ : ∃ F, mvE a id y = F := ⟨_, rfl⟩
    obtain ⟨t, ht⟩ : ∃ t, topA a = t := ⟨_, rfl⟩
    rw [hm2] at hrm hmay
    rw [hE] at hins hrin
    rw [hF] at hmv hrmv
    rw [ht] at htop hrtop
    clear hm2 hE hF ht
    have heq := eql_idw t t
    rw [decide_eq_true (rfl : t = t)] at heq
    unfold idv at *
    have hbb : (([] : List Item).length + a.length) * 56 ≤ 140737488355328 := by simp; omega
    have hll : ([] : List Item).length + a.length ≤ maxLen := by simp [maxLen]; omega
    have hnb : ∀ j, (Value.slice none 0 0).ownBlock = some j → w.heap.size ≤ j := fun j e => by simp [Value.ownBlock] at e
    have hnn : ∀ j, some j ≠ (Value.slice none 0 0).ownBlock := fun j e => by simp [Value.ownBlock] at e
    go_enter Try.func3, Try.ntmps3
    go_wp2_with (first
      | (go_at_call 9; refine (haw _).mono ?_; clear haw; rintro e w1 ⟨rfl, hb1⟩; have hB1 := below_call hB hB.size hb1; have c0 := bl_own hb1 b0; have c1 := bl_own hb1 b1)
      | (at_builtin; refine wp_append_all rfl rfl hun infoIt rfl (by decide) encItem_len encItem_one rfl (Own.nil w1 w.heap.size _ _ _) rfl hN (hr.below hB1) hbb hll hB1.size ?_; intro v2 w2 ho2 hg2 hat2; have hB2 := below_step hB1 hB1.size hg2 hnb; rw [List.nil_append] at ho2; obtain ⟨A2, k2, hv2, hR2⟩ := ho2.rd encItem_len; subst hv2; have d0 := grown_own hg2 c0 (hnn _); have d1 := grown_own hg2 c1 (hnn _))
      | (go_at_call 10; refine (hrm _ hB2).mono ?_; clear hrm; rintro e w3 ⟨rfl, hb3⟩; have hB3 := below_call hB2 hB2.size hb3; have e0 := bl_own hb3 d0; have e1 := bl_own hb3 d1; have hR3 := hR2.below hb3; obtain ⟨p0, p1, _, _⟩ := blk2 e0; obtain ⟨p2, p3, _, _⟩ := blk2 e1)
      | (go_at_call 11; refine (hins _ hB3).mono ?_; clear hins; rintro e w4 ⟨⟨l1, v1, rfl, ho4, hp1, _⟩, hb4⟩; have hB4 := below_call hB3 hB3.size hb4; obtain ⟨A4, k4, hv4, hR4⟩ := ho4.rd encItem_len; subst hv4; have hR3' := hR3.below hb4; obtain ⟨q0, q1, _, _⟩ := blk2 (bl_own hb4 e0); obtain ⟨q2, q3, _, _⟩ := blk2 (bl_own hb4 e1); have f0 := bl_own hb4 e0)
      | (go_at_call 12; refine (hrin _ hB4).mono ?_; clear hrin; rintro e w5 ⟨⟨l2, v2, rfl, ho5, hp2⟩, hb5⟩; have hB5 := below_call hB4 hB4.size hb5; obtain ⟨A5, k5, hv5, hR5⟩ := ho5.rd encItem_len; subst hv5; obtain rfl := ins_same hp1 hp2; have hR4' := hR4.below hb5; have hR3a := hR3'.below hb5; obtain ⟨r0, r1, _, _⟩ := blk2 (bl_own hb5 f0); have f1 := bl_own hb5 f0)
      | (go_at_call 13; refine (hmv _ hB5).mono ?_; clear hmv; rintro e w6 ⟨⟨l3, v3, rfl, ho6, hp3, _⟩, hb6⟩; have hB6 := below_call hB5 hB5.size hb6; obtain ⟨A6, k6, hv6, hR6⟩ := ho6.rd encItem_len; subst hv6; have hR4a := hR4'.below hb6; have hR5a := hR5.below hb6; have hR3b := hR3a.below hb6; obtain ⟨s0, s1, _, _⟩ := blk2 (bl_own hb6 f1))
      | (go_at_call 14; refine (hrmv _ hB6).mono ?_; clear hrmv; rintro e w7 ⟨⟨l4, v4, rfl, ho7, hp4⟩, hb7⟩; have hB7 := below_call hB6 hB6.size hb7; obtain ⟨A7, k7, hv7, hR7⟩ := ho7.rd encItem_len; subst hv7; obtain rfl := mv_same hp3 hp4; have hR4b := hR4a.below hb7; have hR5b := hR5a.below hb7; have hR6b := hR6.below hb7; have hR3c := hR3b.below hb7; have hs1 := same_any l1 l1 A4 A5 k4 k5 w7 hR4b hR5b; rw [decide_eq_true (rfl : l1 = l1)] at hs1)
      | (go_at_call 15; (with_reducible refine Calls.mono hs1 ?_); clear hs1; rintro e w8 ⟨rfl, hb8⟩; have hB8 := below_call hB7 hB7.size hb8; have hR6c := hR6b.below hb8; have hR7c := hR7.below hb8; have hR3d := hR3c.below hb8; have hs2 := same_any l3 l3 A6 A7 k6 k7 w8 hR6c hR7c; rw [decide_eq_true (rfl : l3 = l3)] at hs2)
      | (go_at_call 15; (with_reducible refine Calls.mono hs2 ?_); clear hs2; rintro e w9 ⟨rfl, hb9⟩; have hB9 := below_call hB8 hB8.size hb9; have hR3e := hR3d.below hb9; have hs3 := same_any a a A A2 c k2 w9 (hr.below hB9) hR3e; rw [decide_eq_true (rfl : a = a)] at hs3)
      | (go_at_call 15; (with_reducible refine Calls.mono hs3 ?_); clear hs3; rintro e wa ⟨rfl, hba⟩; have hBa := below_call hB9 hB9.size hba)
      | (go_at_call 16; refine (hmay _ hBa).mono ?_; clear hmay; rintro e wb ⟨rfl, hbb⟩; have hBb := below_call hBa hBa.size hbb)
      | (go_at_call 17; refine (htop _ hBb).mono ?_; clear htop; rintro e wc ⟨rfl, hbc⟩; have hBc := below_call hBb hBb.size hbc)
      | (go_at_call 18; refine (hrtop _ hBc).mono ?_; clear hrtop; rintro e wd ⟨rfl, hbd⟩; have hBd := below_call hBc hBc.size hbd))
    all_goals
      go_ret
      exact ⟨ret_bool (by simp), hBd⟩
  · have h71 : 70 < a.length := by omega
    clear h70
    unfold idv at *
    go_enter Try.func3, Try.ntmps3
    go_wp2_with (go_at_call 9; refine (haw _).mono ?_; clear haw; rintro e w1 ⟨rfl, hb1⟩; have hB1 := below_call hB hB.size hb1)
    go_ret
    exact ⟨rfl, hB1⟩
theorem tells10_walk (A : Option Addr) (a : List Item) (c : Nat) (id par : ID) (y : Int) (w : World) (_ : a.length ≤ c) (_ : c ≤ maxLen) (hr : Rd 7 encItem w A a) (_ : ∀ x ∈ a, x.Ok) (hN : A = none → c = 0) (_ : id.Ok) (_ : par.Ok) (_ : I64 y) :
    Calls Try.prog 3 #[.slice A a.length c, idv id, idv par, .int .i64 y] w fun e w' => e = .returned (.bool true) ∧ Below w.heap.size w w' :=
  tells10_any a id par y A c w hr hN
end Go.Proofs.Ytionkkjdaghakaa
