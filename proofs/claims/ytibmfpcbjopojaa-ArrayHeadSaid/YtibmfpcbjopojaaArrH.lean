/- Whether two arrays are the same; a copy of one, walked. -/
import Derived.Test.YtibmfpcbjopojaaArrG
namespace Go.Proofs.Ytibmfpcbjopojaa
open Go.RowKit
theorem eqlIn_item (d : Nat) (x y : Item) (w : World) : (Op.equalIn (d + 3) 103 (itemv x) (itemv y)).run Try.prog w = .ok (decide (x = y)) w := by
  have u := Try.underlying103
  have hid := fun w => eqlIn_id d x.id y.id w
  have u3 := Try.underlying3
  have u25 := Try.underlying29
  have p := fun cs off v h w => part_int (P := Try.prog) u3 cs off v h w
  have p25 := fun (z : Item) w => show (part 29 #[.int .u64 z.id.hi, .int .u64 z.id.lo, .int .i64 z.par, .int .i64 z.own, .int .i64 z.w, .int .i64 z.best, .int .i64 z.head] 0).run Try.prog w = .ok (idv z.id) w by
    simp [part, isAgg, run_underlying u25, Try.sizeOf29]; rfl
  unfold itemv
  rw [run_equalIn_struct _ _ _ _ _ (by kernel_rfl) (by kernel_rfl)]
  simp only [Program.fieldsOf, u]
  unfold idv at hid p25
  simp only [Op.eqFields, Sem.run_ite, Sem.run_bind, p25, Result.andThen_ok, hid]
  obtain ⟨⟨x1, x2⟩, x3, x4, x5, x6, x7⟩ := x
  obtain ⟨⟨y1, y2⟩, y3, y4, y5, y6, y7⟩ := y
  by_cases h0 : x1 = y1 ∧ x2 = y2 <;> by_cases h3 : x3 = y3 <;> by_cases h4 : x4 = y4 <;> by_cases h5 : x5 = y5 <;> by_cases h6 : x6 = y6 <;> by_cases h7 : x7 = y7 <;> simp [p, run_equalIn_int _ _ _ _ _ _ _ u3, h0, h3, h4, h5, h6, h7]
theorem neq_itemw (x y : Item) (w : World) : (binOp .neq 103 (.agg #[.int .u64 x.id.hi, .int .u64 x.id.lo, .int .i64 x.par, .int .i64 x.own, .int .i64 x.w, .int .i64 x.best, .int .i64 x.head]) (.agg #[.int .u64 y.id.hi, .int .u64 y.id.lo, .int .i64 y.par, .int .i64 y.own, .int .i64 y.w, .int .i64 y.best, .int .i64 y.head])).run Try.prog w = .ok (.bool (!decide (x = y))) w := by
  have h := eqlIn_item 9997 x y w
  unfold itemv at h
  rw [run_neq_struct, h]
  rfl
set_option maxRecDepth 100000 in
set_option maxHeartbeats 1000000 in
theorem equal_any (a b : List Item) (A B : Option Addr) (c d : Nat) (w : World) (hr : Rd 7 encItem w A a) (hr2 : Rd 7 encItem w B b) :
    Calls Try.prog 85 #[.slice A a.length c, .slice B b.length d] w fun e w' => e = .returned (.bool (decide (a = b))) ∧ Below w.heap.size w w' := by
  have hm := hr.1
  have hm2 := hr2.1
  have hB0 := Below.refl w.heap.size w
  by_cases hl : a.length = b.length
  · go_enter Try.func85, Try.ntmps85
    go_wp2_with fail
    go_loopw [5, 13] (fun x' i wr => ∃ k : Nat, k ≤ a.length ∧ i = .int .i64 k ∧ (∀ j, j < k → itm a j = itm b j) ∧ Below w.heap.size w wr) (fun _ i _ => a.length - (intOf i).toNat)
    case atStart => exact ⟨0, Nat.zero_le _, rfl, fun j hj => by omega, hB0⟩
    case round =>
      obtain ⟨k, hk, rfl, hno, hB⟩ := hrel
      have hBg : ∀ p, Below w.heap.size w (gr wr p) := fun p => hB.trans ((gr_below _ _).mono hB.size)
      by_cases hlt : k < a.length
      · obtain ⟨ba, oa, rfl, _, c0, c1, c2, c3, c4, c5, c6⟩ := (hr.below hB).atItem hlt
        obtain ⟨bb, ob, rfl, _, d0, d1, d2, d3, d4, d5, d6⟩ := (hr2.below hB).atItem (i := k) (by omega)
        have heq := neq_itemw (itm a k) (itm b k)
        have g0 := gr_cell c0
        have g1 := gr_cell c1
        have g2 := gr_cell c2
        have g3 := gr_cell c3
        have g4 := gr_cell c4
        have g5 := gr_cell c5
        have g6 := gr_cell c6
        have e0 := gr_cell d0
        have e1 := gr_cell d1
        have e2 := gr_cell d2
        have e3 := gr_cell d3
        have e4 := gr_cell d4
        have e5 := gr_cell d5
        have e6 := gr_cell d6
        have hlt2 : k < b.length := by omega
        by_cases hx : itm a k = itm b k
        · have hd : decide (itm a k = itm b k) = true := by simpa using hx
          rw [hd] at heq
          have hn : ∀ j, j < k + 1 → itm a j = itm b j := fun j hj => if e2 : j = k then by subst e2; exact hx else hno j (by omega)
          have hn' := Lib.hid hn
          clear hd hx hn hno c0 c1 c2 c3 c4 c5 c6 d0 d1 d2 d3 d4 d5 d6
          go_wp2_with fail
          refine wp_region_gr (by kernel_rfl) (by kernel_rfl) ?_
          repeat (go_big_quiet_step (fail))
          refine wpQuiet_nil ?_
          rintro _ ⟨pq, rfl⟩
          go_wp2
          go_roundw
          case rel => exact ⟨k + 1, hlt, by go_num, hn'.out, hBg _⟩
          case measure => simp [intOf]; omega
        · have hd : decide (itm a k = itm b k) = false := by simpa using hx
          rw [hd] at heq
          have hne : decide (a = b) = false := by simp only [decide_eq_false_iff_not]; intro e; subst e; exact hx rfl
          have hne' := Lib.hid hne
          clear hd hx hne hno c0 c1 c2 c3 c4 c5 c6 d0 d1 d2 d3 d4 d5 d6
          go_wp2_with fail
          refine wp_region_gr (by kernel_rfl) (by kernel_rfl) ?_
          repeat (go_big_quiet_step (fail))
          refine wpQuiet_nil ?_
          rintro _ ⟨pq, rfl⟩
          go_wp2
          go_ret
          exact ⟨ret_bool hne'.out.symm, hBg _⟩
      · obtain rfl : k = a.length := by omega
        have hee : decide (a = b) = true := by simpa using itm_ext hl hno
        have hee' := Lib.hid hee
        clear hee hno
        go_wp2_with fail
        go_ret
        exact ⟨ret_bool hee'.out.symm, hB⟩
  · have hne : decide (a = b) = false := by simp only [decide_eq_false_iff_not]; intro e; subst e; exact hl rfl
    have hne' := Lib.hid hne
    clear hne
    go_enter Try.func85, Try.ntmps85
    go_wp2_with fail
    go_ret
    exact ⟨ret_bool hne'.out.symm, hB0⟩
set_option maxRecDepth 100000 in
set_option maxHeartbeats 1000000 in
theorem clone_any (a : List Item) (hl : a.length ≤ 100) (A : Option Addr) (c : Nat) (w : World) (hr : Rd 7 encItem w A a) (hN : A = none → c = 0) :
    Calls Try.prog 83 #[.slice A a.length c] w fun e w' => (∃ v, e = .returned v ∧ Own w' w.heap.size 103 7 encItem v a) ∧ Below w.heap.size w w' := by
  have hun := Try.underlying51
  have hB0 := Below.refl w.heap.size w
  cases A with
  | none =>
    have ha : a = [] := by
      rcases Classical.em (a = []) with e | e
      · exact e
      · obtain ⟨b, o, hA, _⟩ := hr.2 e
        cases hA
    obtain rfl := hN rfl
    subst ha
    have hnil : (binOp .eql 51 (.slice none 0 0) (.slice none 0 0)).run Try.prog w = .ok (.bool true) w := Lib.run_eql_slice_nil w _ _ none 0 0 0 0 hun
    go_enter Try.func83, Try.ntmps83
    go_wp2_with fail
    go_ret
    exact ⟨⟨_, rfl, Own.nil _ _ _ _ _⟩, hB0⟩
  | some ad =>
    have hnil : (binOp .eql 51 (.slice (some ad) a.length c) (.slice none 0 0)).run Try.prog w = .ok (.bool false) w := Lib.run_eql_slice_nil w _ _ (some ad) _ _ 0 0 hun
    have hW : ∃ W, w.alloc (.cells #[] 103) = W := ⟨_, rfl⟩
    obtain ⟨W, hW⟩ := hW
    have hB : Below w.heap.size w W := by subst hW; exact (Below.refl _ w).alloc (Nat.le_refl _) _
    have hoW : Own W w.heap.size 103 7 encItem (.slice (some ⟨w.heap.size, 0, none⟩) 0 0) ([] : List Item) := by
      refine ⟨rfl, .inr ⟨w.heap.size, 0, #[], rfl, Nat.le_refl _, ?_, Nat.le_refl _, by unfold maxLen; omega, rfl, rfl⟩⟩
      subst hW
      exact ha_at rfl
    have hrW := hr.below hB
    have hbb : (([] : List Item).length + a.length) * 56 ≤ 140737488355328 := by simp; omega
    have hll : ([] : List Item).length + a.length ≤ maxLen := by simp [maxLen]; omega
    have hr0 : ∀ k, (Value.slice (some ⟨w.heap.size, 0, none⟩) 0 0).ownBlock = some k → w.heap.size ≤ k := fun k e => by simp [Value.ownBlock] at e; omega
    go_enter Try.func83, Try.ntmps83
    go_wp2_with (at_builtin; refine wp_append_all rfl rfl hun infoIt rfl (by decide) encItem_len encItem_one rfl hoW rfl hN hrW hbb hll hB.size ?_; intro v4 w4 ho4 hg4 hat4; have hB4 := below_step hB hB.size hg4 hr0)
    go_ret
    exact ⟨⟨_, rfl, ho4⟩, hB4⟩
end Go.Proofs.Ytibmfpcbjopojaa
