/- ArrayLeaf, walked. -/
import Derived.Test.YtionkkjdaghakaaArrZ
namespace Go.Proofs.Ytionkkjdaghakaa
open Go.RowKit
theorem leaf_facts {a : List Item} (hM : MayA a) : ∃ hd : Int, -1 ≤ hd ∧ (∀ i : Nat, i < a.length → ((itm a i).id = topA a ↔ (i : Int) = hd)) ∧ (∀ i, i < a.length → (itm a i).par ≠ hd ∧ 0 ≤ hd) ∧ (a.length = 0 ↔ topA a = zid) ∧ (a.length = 0 ∧ hd = -1 ∨ 0 ≤ hd ∧ hd < a.length) := by
  rcases Nat.eq_zero_or_pos a.length with h0 | h0
  · have ha : a = [] := List.eq_nil_of_length_eq_zero h0
    subst ha
    exact ⟨-1, by omega, fun i hi => by simp at hi, fun i hi => by simp at hi, by rw [top_nil]; simp, .inl ⟨rfl, rfl⟩⟩
  · obtain ⟨j, q, j1, j2, j3, j4, q1, q2, ht⟩ := top_some hM h0
    refine ⟨q, by omega, fun i hi => ?_, fun i hi => ⟨bestTo_none.1 q2 i hi, by omega⟩, ?_, .inr ⟨by omega, by omega⟩⟩
    · rw [ht]
      constructor
      · intro e
        have h1 := plain_find hM.2.1 hi
        have h2 := plain_find hM.2.1 q1
        rw [e, h2] at h1
        omega
      · intro e
        have : i = q := by omega
        subst this
        rfl
    · rw [ht]
      exact ⟨fun e => by omega, fun e => absurd e (hM.2.1 q q1).1⟩
def atK (hd : Int) (k : Nat) : Int := if 0 ≤ hd ∧ hd < k then hd else -1
theorem sum_bds {a : List Item} (hM : MayA a) (k : Nat) (hk : k ≤ a.length) : (0 ≤ sumR (fun i => (itm a i).own) k ∧ sumR (fun i => (itm a i).own) k ≤ 67553994410557440) ∧ (0 ≤ wsum a (-1) k ∧ wsum a (-1) k ≤ 4053239664633446400) := by
  have hl := hM.1
  have ho := fun i (hi : i < a.length) => (hM.2.1 i hi).2.2.2.2
  have hw := fun i (hi : i < a.length) => w_bound hM.2.1.parOk (fun i hi => (hM.2.2 i hi).1) ho hi
  have hw2 : ∀ i, i < a.length → 0 ≤ (itm a i).w ∧ (itm a i).w ≤ 67553994410557440 := fun i hi => by have := hw i hi; omega
  have s1 := sumR_nonneg (f := fun i => (itm a i).own) (n := k) (fun i hi => (ho i (by omega)).1)
  have s2 := sumR_bd (f := fun i => (itm a i).own) (B := 1125899906842624) (n := k) (fun i hi => (ho i (by omega)).2) (by omega)
  have s3 : 0 ≤ wsum a (-1) k := sumR_nonneg (fun i hi => by
    show 0 ≤ if (itm a i).par = -1 then (itm a i).w else 0
    split
    · exact (hw2 i (by omega)).1
    · exact Int.le_refl _)
  have s4 : wsum a (-1) k ≤ k * 67553994410557440 := sumR_bd (fun i hi => by
    show (if (itm a i).par = -1 then (itm a i).w else 0) ≤ 67553994410557440
    split
    · exact (hw2 i (by omega)).2
    · omega) (by omega)
  exact ⟨⟨s1, by omega⟩, ⟨s3, by omega⟩⟩
set_option maxRecDepth 100000 in
set_option maxHeartbeats 4000000 in
theorem leaf10_any (a : List Item) (A : Option Addr) (c : Nat) (w : World) (hr : Rd 7 encItem w A a) :
    Calls Try.prog 6 #[.slice A a.length c] w fun e w' => e = .returned (.bool true) ∧ Below w.heap.size w w' := by
  have hm := hr.1
  have haw := fun V => awake10_any V
  have hmay := fun V (hV : Below w.heap.size w V) => may10_any a A c V (hr.below hV)
  have hB0 := Below.refl w.heap.size w
  by_cases h70 : a.length ≤ 70
  · by_cases hM : MayA a
    · rw [decide_eq_true hM] at hmay
      have htop := fun V (hV : Below w.heap.size w V) => top_any a A c V (hr.below hV)
      obtain ⟨hd, f0, f1, f2, f3, f4⟩ := leaf_facts hM
      have hroot := root_sum hM.2.1.parOk (fun i hi => (hM.2.2 i hi).1)
      have hbd := sum_bds hM
      obtain ⟨t, ht⟩ : ∃ t, topA a = t := ⟨_, rfl⟩
      rw [ht] at htop f1 f3
      have f1' := Lib.hid f1
      have f2' := Lib.hid f2
      have hroot' := Lib.hid hroot
      have hbd' := Lib.hid hbd
      have ez := eql_idz t
      have hz : decide (t = zid) = decide (a.length = 0) := by rw [Bool.eq_iff_iff]; simp only [decide_eq_true_eq]; exact f3.symm
      rw [hz] at ez
      clear ht hM f1 f2 f3 hroot hbd hz
      unfold idv at *
      go_enter Try.func6, Try.ntmps6
      go_wp2_with (first
        | (go_at_call 9; refine (haw _).mono ?_; clear haw; rintro e w1 ⟨rfl, hB1⟩)
        | (go_at_call 16; refine (hmay _ hB1).mono ?_; clear hmay; rintro e w2 ⟨rfl, hb2⟩; have hB2 := below_call hB1 hB1.size hb2)
        | (go_at_call 17; refine (htop _ hB2).mono ?_; clear htop; rintro e w3 ⟨rfl, hb3⟩; have hB3 := below_call hB2 hB2.size hb3))
      have hA3 : Below w3.heap.size w3 (w3.alloc (.cells #[.int .u64 t.hi, .int .u64 t.lo] 25)) := (Below.refl _ w3).alloc (Nat.le_refl _) _
      have b3 : (w3.alloc (.cells #[.int .u64 t.hi, .int .u64 t.lo] 25)).heap[w3.heap.size]? = some (.cells #[.int .u64 t.hi, .int .u64 t.lo] 25 (0, 0)) := ha_at rfl
      have hB4 := below_call hB3 hB3.size hA3
      generalize w3.alloc (.cells #[.int .u64 t.hi, .int .u64 t.lo] 25) = V at hA3 b3 hB4 ⊢
      generalize w3.heap.size = n3 at b3 ⊢
      clear hA3
      go_loopw [5, 6, 7, 8] (fun x5 x6 x7 i wr => ∃ k : Nat, k ≤ a.length ∧ i = .int .i64 k ∧ x5 = .int .i64 (sumR (fun i => (itm a i).own) k) ∧ x6 = .int .i64 (wsum a (-1) k) ∧ x7 = .int .i64 (atK hd k) ∧ Below V.heap.size V wr) (fun _ _ _ i _ => a.length - (intOf i).toNat)
      case atStart => exact ⟨0, Nat.zero_le _, rfl, rfl, rfl, by unfold atK; rw [if_neg (by omega)], Below.refl _ _⟩
      case round =>
        obtain ⟨k, hk, rfl, rfl, rfl, rfl, hBW⟩ := hrel
        have hB5 := below_call hB4 hB4.size hBW
        obtain ⟨c0, c1, _, _⟩ := blk2 (bl_own hBW b3)
        have hBg : ∀ p, Below V.heap.size V (gr wr p) := fun p => hBW.trans ((gr_below _ _).mono hBW.size)
        by_cases hlt : k < a.length
        · obtain ⟨b, o, rfl, _, d0, d1, d2, d3, d4, d5, d6⟩ := (hr.below hB5).atItem hlt
          have n1 := (hbd'.out (k + 1) hlt)
          have e1 : sumR (fun i => (itm a i).own) (k + 1) = sumR (fun i => (itm a i).own) k + (itm a k).own := rfl
          have e2 : wsum a (-1) (k + 1) = wsum a (-1) k + if (itm a k).par = -1 then (itm a k).w else 0 := rfl
          have hat : atK hd (k + 1) = if (k : Int) = hd then (k : Int) else atK hd k := by
            unfold atK
            by_cases e : (k : Int) = hd
            · rw [if_pos e, if_pos (by omega)]; exact e.symm
            · rw [if_neg e]
              by_cases e3 : 0 ≤ hd ∧ hd < k
              · rw [if_pos e3, if_pos (by omega)]
              · rw [if_neg e3, if_neg (by omega)]
          have heq := eql_idw (itm a k).id t
          have hidk := f1'.out k hlt
          obtain ⟨s, hs⟩ : ∃ s, sumR (fun i => (itm a i).own) k = s := ⟨_, rfl⟩
          obtain ⟨u, hu⟩ : ∃ u, wsum a (-1) k = u := ⟨_, rfl⟩
          rw [hs] at e1 ⊢
          rw [hu] at e2 ⊢
          rw [e1] at n1
          have hws : IntKind.i64.wrap (s + (itm a k).own) = s + (itm a k).own := Go.IntWalk.i64_in _ (by omega)
          have e1' := Lib.hid e1
          clear e1 hs hu
          have g0 := gr_cell c0
          have g1 := gr_cell c1
          have g2 := gr_cell d0
          have g3 := gr_cell d1
          by_cases hp1 : (itm a k).par = -1
          · rw [if_pos hp1] at e2
            rw [e2] at n1
            have hwu : IntKind.i64.wrap (u + (itm a k).w) = u + (itm a k).w := Go.IntWalk.i64_in _ (by omega)
            have e2' := Lib.hid e2
            clear e2
            by_cases hik : (k : Int) = hd
            · rw [decide_eq_true (hidk.2 hik)] at heq
              rw [if_pos hik] at hat
              have hat' := Lib.hid hat
              clear hat hidk hik
              go_wp2_with fail
              refine wp_region_gr (by kernel_rfl) (by kernel_rfl) ?_
              repeat (go_big_quiet_step (fail))
              refine wpQuiet_nil ?_
              rintro _ ⟨pq, rfl⟩
              go_wp2_with fail
              go_roundw
              case rel => exact ⟨k + 1, hlt, by go_num, by rw [e1'.out], by rw [e2'.out], by rw [hat'.out], hBg pq⟩
              case measure => simp [intOf]; omega
            · rw [decide_eq_false (fun h => hik (hidk.1 h))] at heq
              rw [if_neg hik] at hat
              have hat' := Lib.hid hat
              clear hat hidk hik
              go_wp2_with fail
              refine wp_region_gr (by kernel_rfl) (by kernel_rfl) ?_
              repeat (go_big_quiet_step (fail))
              refine wpQuiet_nil ?_
              rintro _ ⟨pq, rfl⟩
              go_wp2_with fail
              go_roundw
              case rel => exact ⟨k + 1, hlt, by go_num, by rw [e1'.out], by rw [e2'.out], by rw [hat'.out], hBg pq⟩
              case measure => simp [intOf]; omega
          · rw [if_neg hp1, Int.add_zero] at e2
            have e2' := Lib.hid e2
            clear e2
            by_cases hik : (k : Int) = hd
            · rw [decide_eq_true (hidk.2 hik)] at heq
              rw [if_pos hik] at hat
              have hat' := Lib.hid hat
              clear hat hidk hik
              go_wp2_with fail
              refine wp_region_gr (by kernel_rfl) (by kernel_rfl) ?_
              repeat (go_big_quiet_step (fail))
              refine wpQuiet_nil ?_
              rintro _ ⟨pq, rfl⟩
              go_wp2_with fail
              go_roundw
              case rel => exact ⟨k + 1, hlt, by go_num, by rw [e1'.out], by rw [e2'.out], by rw [hat'.out], hBg pq⟩
              case measure => simp [intOf]; omega
            · rw [decide_eq_false (fun h => hik (hidk.1 h))] at heq
              rw [if_neg hik] at hat
              have hat' := Lib.hid hat
              clear hat hidk hik
              go_wp2_with fail
              refine wp_region_gr (by kernel_rfl) (by kernel_rfl) ?_
              repeat (go_big_quiet_step (fail))
              refine wpQuiet_nil ?_
              rintro _ ⟨pq, rfl⟩
              go_wp2_with fail
              go_roundw
              case rel => exact ⟨k + 1, hlt, by go_num, by rw [e1'.out], by rw [e2'.out], by rw [hat'.out], hBg pq⟩
              case measure => simp [intOf]; omega
        · obtain rfl : k = a.length := by omega
          have hat : atK hd a.length = hd := by
            unfold atK
            rcases f4 with ⟨h1, h2⟩ | h1
            · rw [if_neg (by omega)]; exact h2.symm
            · rw [if_pos h1]
          rw [hat, hroot'.out]
          generalize sumR (fun i => (itm a i).own) a.length = s
          clear hat
          go_wp2_with fail
          go_loopw [9] (fun i wv => ∃ k : Nat, k ≤ a.length ∧ i = .int .i64 k ∧ wv = wr) (fun i _ => a.length - (intOf i).toNat)
          case atStart => exact ⟨0, Nat.zero_le _, rfl, rfl⟩
          case round =>
            obtain ⟨k, hk, rfl, rfl⟩ := hrel
            by_cases hlt : k < a.length
            · obtain ⟨b, o, rfl, _, d0, d1, d2, d3, d4, d5, d6⟩ := (hr.below hB5).atItem hlt
              obtain ⟨hpk, hd0⟩ := f2'.out k hlt
              go_wp2_with fail
              go_roundw
              case rel => exact ⟨k + 1, hlt, by go_num, trivial⟩
              case measure => simp [intOf]; omega
            · obtain rfl : k = a.length := by omega
              rcases f4 with ⟨h1, h2⟩ | ⟨h1, h2⟩
              · go_wp2_with fail
                all_goals
                  go_ret
                  exact ⟨ret_bool (by simp <;> omega), hB5⟩
              · have h3 : a.length ≠ 0 := by omega
                have h4 : ((a.length : Int) == 0) = false := by
                  rw [beq_eq_false_iff_ne]
                  omega
                go_wp2_with fail
                all_goals
                  go_ret
                  exact ⟨ret_bool (by first | rfl | (rw [h4]; rfl) | (simp <;> omega)), hB5⟩
    · rw [decide_eq_false hM] at hmay
      clear hM
      go_enter Try.func6, Try.ntmps6
      go_wp2_with (first
        | (go_at_call 9; refine (haw _).mono ?_; clear haw; rintro e w1 ⟨rfl, hB1⟩)
        | (go_at_call 16; refine (hmay _ hB1).mono ?_; clear hmay; rintro e w2 ⟨rfl, hb2⟩; have hB2 := below_call hB1 hB1.size hb2))
      go_ret
      exact ⟨rfl, hB2⟩
  · have h71 : 70 < a.length := by omega
    clear h70 hmay
    go_enter Try.func6, Try.ntmps6
    go_wp2_with (go_at_call 9; refine (haw _).mono ?_; clear haw; rintro e w1 ⟨rfl, hB1⟩)
    go_ret
    exact ⟨rfl, hB1⟩
theorem leaf10_walk (A : Option Addr) (a : List Item) (c : Nat) (w : World) (_ : a.length ≤ c) (_ : c ≤ maxLen) (hr : Rd 7 encItem w A a) (_ : ∀ x ∈ a, x.Ok) (_ : A = none → c = 0) :
    Calls Try.prog 6 #[.slice A a.length c] w fun e w' => e = .returned (.bool true) ∧ Below w.heap.size w w' :=
  leaf10_any a A c w hr
end Go.Proofs.Ytionkkjdaghakaa
