/- ArrayGrows, walked. (Printed by gen_grows.py.) -/
import Derived.Test.YtionkkjdaghakaaArrZ
namespace Go.Proofs.Ytionkkjdaghakaa
open Go.RowKit
set_option maxRecDepth 100000 in
set_option maxHeartbeats 4000000 in
theorem grows10_any (a : List Item) (id : ID) (y : Int) (A : Option Addr) (c : Nat) (w : World) (hr : Rd 7 encItem w A a) (hN : A = none → c = 0) :
    Calls Try.prog 7 #[.slice A a.length c, idv id, .int .i64 y] w fun e w' => e = .returned (.bool true) ∧ Below w.heap.size w w' := by
  have hm := hr.1
  have haw := fun V => awake10_any V
  have hWs : ∃ W, w.alloc (.cells #[.int .u64 id.hi, .int .u64 id.lo] 25) = W := ⟨_, rfl⟩
  obtain ⟨W, hW⟩ := hWs
  have hB : Below w.heap.size w W := by subst hW; exact (Below.refl _ w).alloc (Nat.le_refl _) _
  have b0 : W.heap[w.heap.size]? = some (.cells #[.int .u64 id.hi, .int .u64 id.lo] 25 (0, 0)) := by subst hW; exact ha_at rfl
  have hmay := fun V (hV : Below w.heap.size w V) => may10_any a A c V (hr.below hV)
  by_cases h70 : a.length ≤ 70
  · by_cases hM : MayA a
    · rw [decide_eq_true hM] at hmay
      by_cases hy : 0 ≤ y
      · have htop := fun V (hV : Below w.heap.size w V) => top_any a A c V (hr.below hV)
        have hins := fun V (hV : Below w.heap.size w V) => insert_any a id (topA a) (by omega) A c V (hr.below hV) hN
        have hmv := fun V (hV : Below w.heap.size w V) => move_any a (topA a) y (by omega) A c V (hr.below hV) hN
        have hg1 := fun hE l h hw => grows1 (a := a) (id := id) (l := l) hE h hw
        have hg2 := fun hE l h hj => grows2 (a := a) (y := y) (l := l) hE hy h hj
        obtain ⟨t, ht⟩ : ∃ t, topA a = t := ⟨_, rfl⟩
        rw [ht] at htop hins hmv hg1 hg2
        obtain ⟨E, hE⟩ : ∃ E, insE a id t = E := ⟨_, rfl⟩
        obtain ⟨F, hF⟩ : ∃ F, mvE a t y = F := ⟨_, rfl⟩
        rw [hE] at hins hg1
        rw [hF] at hmv hg2
        have hFe := Lib.hid hF
        clear hE hF ht
        have hg1' := Lib.hid hg1
        have hg2' := Lib.hid hg2
        clear hg1 hg2 hM
        have hneq := neq_idw id id
        rw [decide_eq_true (rfl : id = id)] at hneq
        have heq := eql_idw t t
        rw [decide_eq_true (rfl : t = t)] at heq
        have htopX := fun (l : List Item) B d V (hV : Rd 7 encItem V B l) => top_any l B d V hV
        unfold idv at *
        by_cases hE0 : E = 0
        · subst hE0
          go_enter Try.func7, Try.ntmps7
          go_wp2_with (first
            | (go_at_call 9; refine (haw _).mono ?_; clear haw; rintro e w1 ⟨rfl, hb1⟩; have hB1 := below_call hB hB.size hb1; have c0 := bl_own hb1 b0)
            | (go_at_call 16; refine (hmay _ hB1).mono ?_; clear hmay; rintro e w2 ⟨rfl, hb2⟩; have hB2 := below_call hB1 hB1.size hb2; have d0 := bl_own hb2 c0)
            | (go_at_call 17; (with_reducible refine Calls.mono (htop _ hB2) ?_); clear htop; rintro e w3 ⟨rfl, hb3⟩; have hB3 := below_call hB2 hB2.size hb3; have e0 := bl_own hb3 d0; have hA3 : Below w3.heap.size w3 (w3.alloc (.cells #[.int .u64 t.hi, .int .u64 t.lo] 25)) := (Below.refl _ w3).alloc (Nat.le_refl _) _; have hB4 := below_call hB3 hB3.size hA3; have f0 := bl_own hA3 e0; have f1 : (w3.alloc (.cells #[.int .u64 t.hi, .int .u64 t.lo] 25)).heap[w3.heap.size]? = some (.cells #[.int .u64 t.hi, .int .u64 t.lo] 25 (0, 0)) := ha_at rfl; obtain ⟨p0, p1, _, _⟩ := blk2 f0; obtain ⟨p2, p3, _, _⟩ := blk2 f1)
            | (go_at_call 11; refine (hins _ hB4).mono ?_; clear hins; rintro e w5 ⟨⟨l1, v1, rfl, ho5, hp1, hw1⟩, hb5⟩; have hB5 := below_call hB4 hB4.size hb5; obtain ⟨A5, k5, hv5, hR5⟩ := ho5.rd encItem_len; subst hv5; have g0 := bl_own hb5 f0; have g1 := bl_own hb5 f1))
          obtain ⟨q0, q1, _, _⟩ := blk2 g0
          obtain ⟨q2, q3, _, _⟩ := blk2 g1
          have y0 := gr_cell q0
          have y1 := gr_cell q1
          have htl := hg1'.out trivial l1 hp1 (hw1 trivial)
          have htx := fun p => htopX l1 A5 k5 (gr w5 p) (hR5.below (gr_below w5 p))
          rw [htl] at htx
          have hBg : ∀ p, Below w.heap.size w (gr w5 p) := fun p => hB5.trans ((gr_below w5 p).mono hB5.size)
          have x1g := fun p => bl_own (gr_below w5 p) g1
          clear hg1'
          refine wp_region_gr (by kernel_rfl) (by kernel_rfl) ?_
          repeat (go_big_quiet_step ((go_at_call 17; with_reducible exact Calls.gr_of (htx _))))
          refine wpQuiet_nil ?_
          rintro _ ⟨pq, rfl⟩
          have hBX := hBg pq
          have x1 := x1g pq
          generalize gr w5 pq = X at hBX x1 ⊢
          obtain ⟨r0, r1, _, _⟩ := blk2 x1
          clear y0 y1 hBg x1g q0 q1 q2 q3 g0 g1
          by_cases hF0 : F = 0
          · subst hF0
            go_wp2_with (go_at_call 13; refine (hmv _ hBX).mono ?_; clear hmv; rintro e w6 ⟨⟨l3, v3, rfl, ho6, hp3, hj3⟩, hb6⟩; have hB6 := below_call hBX hBX.size hb6; obtain ⟨A6, k6, hv6, hR6⟩ := ho6.rd encItem_len; subst hv6; obtain ⟨s0, s1, _, _⟩ := blk2 (bl_own hb6 x1); have z2 := gr_cell s0; have z3 := gr_cell s1; have hB6g := fun p => hB6.trans ((gr_below w6 p).mono hB6.size); have htl := hg2'.out trivial l3 hp3 (hj3 hFe.out); have hty := fun p => htopX l3 A6 k6 (gr w6 p) (hR6.below (gr_below w6 p)); rw [htl] at hty)
            refine wp_region_gr (by kernel_rfl) (by kernel_rfl) ?_
            repeat (go_big_quiet_step ((go_at_call 17; with_reducible exact Calls.gr_of (hty _))))
            refine wpQuiet_nil ?_
            rintro _ ⟨pr, rfl⟩
            go_wp2_with fail
            go_ret
            exact ⟨ret_bool (by simp), hB6g _⟩
          · have hdF : decide (F = 0) = false := by simpa using hF0
            have hdF2 : (F != 0) = true := by simpa using hF0
            clear hF0 hg2'
            go_wp2_with (go_at_call 13; refine (hmv _ hBX).mono ?_; clear hmv; rintro e w6 ⟨⟨l3, v3, rfl, ho6, hp3, hj3⟩, hb6⟩; have hB6 := below_call hBX hBX.size hb6; obtain ⟨A6, k6, hv6, hR6⟩ := ho6.rd encItem_len; subst hv6; obtain ⟨s0, s1, _, _⟩ := blk2 (bl_own hb6 x1); have z2 := gr_cell s0; have z3 := gr_cell s1; have hB6g := fun p => hB6.trans ((gr_below w6 p).mono hB6.size))
            refine wp_region_gr (by kernel_rfl) (by kernel_rfl) ?_
            repeat (go_big_quiet_step (fail))
            refine wpQuiet_nil ?_
            rintro _ ⟨pr, rfl⟩
            go_wp2_with fail
            go_ret
            exact ⟨ret_bool (by simp), hB6g _⟩
        · have hdE : decide (E = 0) = false := by simpa using hE0
          have hdE2 : (E == 0) = false := by simpa using hE0
          clear hE0
          go_enter Try.func7, Try.ntmps7
          go_wp2_with (first
            | (go_at_call 9; refine (haw _).mono ?_; clear haw; rintro e w1 ⟨rfl, hb1⟩; have hB1 := below_call hB hB.size hb1; have c0 := bl_own hb1 b0)
            | (go_at_call 16; refine (hmay _ hB1).mono ?_; clear hmay; rintro e w2 ⟨rfl, hb2⟩; have hB2 := below_call hB1 hB1.size hb2; have d0 := bl_own hb2 c0)
            | (go_at_call 17; (with_reducible refine Calls.mono (htop _ hB2) ?_); clear htop; rintro e w3 ⟨rfl, hb3⟩; have hB3 := below_call hB2 hB2.size hb3; have e0 := bl_own hb3 d0; have hA3 : Below w3.heap.size w3 (w3.alloc (.cells #[.int .u64 t.hi, .int .u64 t.lo] 25)) := (Below.refl _ w3).alloc (Nat.le_refl _) _; have hB4 := below_call hB3 hB3.size hA3; have f0 := bl_own hA3 e0; have f1 : (w3.alloc (.cells #[.int .u64 t.hi, .int .u64 t.lo] 25)).heap[w3.heap.size]? = some (.cells #[.int .u64 t.hi, .int .u64 t.lo] 25 (0, 0)) := ha_at rfl; obtain ⟨p0, p1, _, _⟩ := blk2 f0; obtain ⟨p2, p3, _, _⟩ := blk2 f1)
            | (go_at_call 11; refine (hins _ hB4).mono ?_; clear hins; rintro e w5 ⟨⟨l1, v1, rfl, ho5, hp1, hw1⟩, hb5⟩; have hB5 := below_call hB4 hB4.size hb5; obtain ⟨A5, k5, hv5, hR5⟩ := ho5.rd encItem_len; subst hv5; have g0 := bl_own hb5 f0; have g1 := bl_own hb5 f1))
          obtain ⟨q0, q1, _, _⟩ := blk2 g0
          obtain ⟨q2, q3, _, _⟩ := blk2 g1
          have y0 := gr_cell q0
          have y1 := gr_cell q1
          have hBg : ∀ p, Below w.heap.size w (gr w5 p) := fun p => hB5.trans ((gr_below w5 p).mono hB5.size)
          have x1g := fun p => bl_own (gr_below w5 p) g1
          clear hg1'
          refine wp_region_gr (by kernel_rfl) (by kernel_rfl) ?_
          repeat (go_big_quiet_step (fail))
          refine wpQuiet_nil ?_
          rintro _ ⟨pq, rfl⟩
          have hBX := hBg pq
          have x1 := x1g pq
          generalize gr w5 pq = X at hBX x1 ⊢
          obtain ⟨r0, r1, _, _⟩ := blk2 x1
          clear y0 y1 hBg x1g q0 q1 q2 q3 g0 g1
          by_cases hF0 : F = 0
          · subst hF0
            go_wp2_with (go_at_call 13; refine (hmv _ hBX).mono ?_; clear hmv; rintro e w6 ⟨⟨l3, v3, rfl, ho6, hp3, hj3⟩, hb6⟩; have hB6 := below_call hBX hBX.size hb6; obtain ⟨A6, k6, hv6, hR6⟩ := ho6.rd encItem_len; subst hv6; obtain ⟨s0, s1, _, _⟩ := blk2 (bl_own hb6 x1); have z2 := gr_cell s0; have z3 := gr_cell s1; have hB6g := fun p => hB6.trans ((gr_below w6 p).mono hB6.size); have htl := hg2'.out trivial l3 hp3 (hj3 hFe.out); have hty := fun p => htopX l3 A6 k6 (gr w6 p) (hR6.below (gr_below w6 p)); rw [htl] at hty)
            refine wp_region_gr (by kernel_rfl) (by kernel_rfl) ?_
            repeat (go_big_quiet_step ((go_at_call 17; with_reducible exact Calls.gr_of (hty _))))
            refine wpQuiet_nil ?_
            rintro _ ⟨pr, rfl⟩
            go_wp2_with fail
            go_ret
            exact ⟨ret_bool (by simp), hB6g _⟩
          · have hdF : decide (F = 0) = false := by simpa using hF0
            have hdF2 : (F != 0) = true := by simpa using hF0
            clear hF0 hg2'
            go_wp2_with (go_at_call 13; refine (hmv _ hBX).mono ?_; clear hmv; rintro e w6 ⟨⟨l3, v3, rfl, ho6, hp3, hj3⟩, hb6⟩; have hB6 := below_call hBX hBX.size hb6; obtain ⟨A6, k6, hv6, hR6⟩ := ho6.rd encItem_len; subst hv6; obtain ⟨s0, s1, _, _⟩ := blk2 (bl_own hb6 x1); have z2 := gr_cell s0; have z3 := gr_cell s1; have hB6g := fun p => hB6.trans ((gr_below w6 p).mono hB6.size))
            refine wp_region_gr (by kernel_rfl) (by kernel_rfl) ?_
            repeat (go_big_quiet_step (fail))
            refine wpQuiet_nil ?_
            rintro _ ⟨pr, rfl⟩
            go_wp2_with fail
            go_ret
            exact ⟨ret_bool (by simp), hB6g _⟩
      · have hy2 : y < 0 := by omega
        unfold idv at *
        clear hM hy
        go_enter Try.func7, Try.ntmps7
        go_wp2_with (first
          | (go_at_call 9; refine (haw _).mono ?_; clear haw; rintro e w1 ⟨rfl, hb1⟩; have hB1 := below_call hB hB.size hb1; have c0 := bl_own hb1 b0)
          | (go_at_call 16; refine (hmay _ hB1).mono ?_; clear hmay; rintro e w2 ⟨rfl, hb2⟩; have hB2 := below_call hB1 hB1.size hb2; have d0 := bl_own hb2 c0))
        go_ret
        exact ⟨rfl, hB2⟩
    · rw [decide_eq_false hM] at hmay
      unfold idv at *
      clear hM
      go_enter Try.func7, Try.ntmps7
      go_wp2_with (first
        | (go_at_call 9; refine (haw _).mono ?_; clear haw; rintro e w1 ⟨rfl, hb1⟩; have hB1 := below_call hB hB.size hb1; have c0 := bl_own hb1 b0)
        | (go_at_call 16; refine (hmay _ hB1).mono ?_; clear hmay; rintro e w2 ⟨rfl, hb2⟩; have hB2 := below_call hB1 hB1.size hb2; have d0 := bl_own hb2 c0))
      go_ret
      exact ⟨rfl, hB2⟩
  · have h71 : 70 < a.length := by omega
    unfold idv at *
    clear h70
    go_enter Try.func7, Try.ntmps7
    go_wp2_with (go_at_call 9; refine (haw _).mono ?_; clear haw; rintro e w1 ⟨rfl, hb1⟩; have hB1 := below_call hB hB.size hb1; have c0 := bl_own hb1 b0)
    go_ret
    exact ⟨rfl, hB1⟩
theorem grows10_walk (A : Option Addr) (a : List Item) (c : Nat) (id : ID) (y : Int) (w : World) (_ : a.length ≤ c) (_ : c ≤ maxLen) (hr : Rd 7 encItem w A a) (_ : ∀ x ∈ a, x.Ok) (hN : A = none → c = 0) (_ : id.Ok) (_ : I64 y) :
    Calls Try.prog 7 #[.slice A a.length c, idv id, .int .i64 y] w fun e w' => e = .returned (.bool true) ∧ Below w.heap.size w w' :=
  grows10_any a id y A c w hr hN
end Go.Proofs.Ytionkkjdaghakaa
