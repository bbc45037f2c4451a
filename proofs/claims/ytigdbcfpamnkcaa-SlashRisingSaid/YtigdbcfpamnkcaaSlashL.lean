/- SlashRising, walked. -/
import Derived.Test.YtigdbcfpamnkcaaSlashH
import Derived.RegionTactic
namespace Go.Proofs.Ytigdbcfpamnkcaa
open Go.RowKit
/-- One vote behind the other, up to a checkpoint. -/
def Up (v : List Lnk) (t : Chk) : Prop := (∀ x ∈ v, x.src.epoch < x.tgt.epoch ∧ x.tgt.epoch ≤ t.epoch) ∧ v.Pairwise (fun x y => x.tgt.epoch ≤ y.src.epoch)
theorem up_nil (t : Chk) : Up [] t := ⟨by simp, List.Pairwise.nil⟩
theorem up_snoc {v : List Lnk} {t u : Chk} {who : Int} (h : Up v t) (hl : t.epoch < u.epoch) : Up (v ++ [⟨who, t, u⟩]) u := by
  refine ⟨fun x hx => ?_, ?_⟩
  · rcases List.mem_append.1 hx with hx | hx
    · have := h.1 x hx; omega
    · simp only [List.mem_singleton] at hx; subst hx; exact ⟨hl, Int.le_refl _⟩
  · rw [List.pairwise_append]
    refine ⟨h.2, by simp, fun x hx y hy => ?_⟩
    simp only [List.mem_singleton] at hy
    subst hy
    exact (h.1 x hx).2
theorem pairwise_or {α : Type} {R : α → α → Prop} : ∀ {l : List α}, l.Pairwise R → ∀ x ∈ l, ∀ y ∈ l, x = y ∨ R x y ∨ R y x
  | [], _, _, h, _, _ => by simp at h
  | a :: l, h, x, hx, y, hy => by
    rw [List.pairwise_cons] at h
    simp only [List.mem_cons] at hx hy
    rcases hx with rfl | hx
    · rcases hy with rfl | hy
      · exact .inl rfl
      · exact .inr (.inl (h.1 y hy))
    · rcases hy with rfl | hy
      · exact .inr (.inr (h.1 x hx))
      · exact pairwise_or h.2 x hx y hy
theorem up_free {v : List Lnk} {t : Chk} (h : Up v t) : guiltyL v = [] := by
  refine (guiltyL_eq (v := v) (g := []) ⟨trivial, fun f => ?_⟩).symm
  simp only [List.not_mem_nil, false_iff]
  rintro ⟨x, hx, y, hy, hp, _⟩
  have a := h.1 x hx
  have b := h.1 y hy
  rcases pairwise_or h.2 x hx y hy with e | e | e
  · subst e; exact pair_irrefl _ hp
  · obtain ⟨_, p | p | ⟨_, p⟩⟩ := hp
    · unfold Spans at p; omega
    · unfold Spans at p; omega
    · omega
  · obtain ⟨_, p | p | ⟨_, p⟩⟩ := hp
    · unfold Spans at p; omega
    · unfold Spans at p; omega
    · omega
theorem al_cell' {w : World} {a : Addr} {v : Value} (h : w.cell? a = some v) (o : Obj) : (w.alloc o).cell? a = some v := ((Below.refl _ w).alloc (Nat.le_refl _) o |>.cell (World.block_lt_of_cell? w a h)).trans h
theorem blk3 {w : World} {b : Nat} {x0 x1 x2 : Value} {T : TypeId} (h : w.heap[b]? = some (.cells #[x0, x1, x2] T (0, 0))) : w.cell? ⟨b, 0, none⟩ = some x0 ∧ w.cell? ⟨b, 1, none⟩ = some x1 ∧ w.cell? ⟨b, 2, none⟩ = some x2 ∧ w.frozen? ⟨b, 0, none⟩ = false ∧ w.frozen? ⟨b, 1, none⟩ = false ∧ w.frozen? ⟨b, 2, none⟩ = false :=
  ⟨blk_cell h 0, blk_cell h 1, blk_cell h 2, blk_free h 0, blk_free h 1, blk_free h 2⟩
theorem rise_below (w : World) (o1 o2 : Obj) : Below w.heap.size w ((w.alloc o1).alloc o2).drew := (((Below.refl _ w).alloc (Nat.le_refl _) _).alloc (by simp) _).drew
theorem rise_new (w : World) (o1 : Obj) (cs : Array Value) (T : TypeId) : ((w.alloc o1).alloc (.cells cs T)).drew.heap[w.heap.size + 1]? = some (.cells cs T (0, 0)) := ha_at (w := w.alloc o1) (o := .cells cs T) (by simp)
theorem rise_to (w : World) (o1 o2 : Obj) : ((w.alloc o1).alloc o2).drew.heap[w.heap.size]? = some o1 := ha_lt (w := w.alloc o1) (ha_at rfl)
theorem rise_size {B : Nat} {w : World} {o1 o2 o : Obj} (_ : B ≤ w.heap.size) (hb : w.heap[B]? = some o) : B + 1 ≤ ((w.alloc o1).alloc o2).drew.heap.size := by
  have := lt_of_block hb
  show B + 1 ≤ ((w.heap.push o1).push o2).size
  simp
  omega
theorem rise_set {w : World} {b : Nat} {x0 x1 x2 : Value} {T : TypeId} (h : w.heap[b]? = some (.cells #[x0, x1, x2] T (0, 0))) (y0 y1 y2 : Value) :
    (((w.setCell ⟨b, 0, none⟩ y0).setCell ⟨b, 1, none⟩ y1).setCell ⟨b, 2, none⟩ y2).heap[b]? = some (.cells #[y0, y1, y2] T (0, 0)) := by
  rw [heap_setCell_same _ _ _ _ _ _ (heap_setCell_same _ _ _ _ _ _ (heap_setCell_same _ _ _ _ _ _ h))]
  rfl
theorem rise_own {w : World} {base : Nat} {e : TypeId} {k : Nat} {enc : Lnk → List Value} {v : Value} {xs : List Lnk} (h : Own w base e k enc v xs) (b : Nat) (hb : b < base) (y0 y1 y2 : Value) :
    Own (((w.setCell ⟨b, 0, none⟩ y0).setCell ⟨b, 1, none⟩ y1).setCell ⟨b, 2, none⟩ y2) base e k enc v xs := by
  have hne : v.ownBlock ≠ some b := fun e => by have := (h.base _ e).1; omega
  exact ((h.grown (grown_set _ ⟨b, 0, none⟩ y0) (.inr hne)).grown (grown_set _ ⟨b, 1, none⟩ y1) (.inr hne)).grown (grown_set _ ⟨b, 2, none⟩ y2) (.inr hne)
theorem rise_bset {B : Nat} {w W : World} (h : Below B w W) (y0 y1 y2 : Value) : Below B w (((W.setCell ⟨B, 0, none⟩ y0).setCell ⟨B, 1, none⟩ y1).setCell ⟨B, 2, none⟩ y2) :=
  ((h.setCell (p := ⟨B, 0, none⟩) (Nat.le_refl _) _).setCell (p := ⟨B, 1, none⟩) (Nat.le_refl _) _).setCell (p := ⟨B, 2, none⟩) (Nat.le_refl _) _
set_option maxRecDepth 100000 in
set_option maxHeartbeats 4000000 in
theorem rising_any (who : Int) (steps : List Int) (roots : List ID) (A A2 : Option Addr) (c c2 : Nat) (w : World) (hr : Rd 1 encI w A steps) (hr2 : Rd 2 encID w A2 roots) :
    Calls Try.prog 5 #[.int .i64 who, .slice A steps.length c, .slice A2 roots.length c2] w fun e w' => e = .returned (.bool true) ∧ Below w.heap.size w w' := by
  have hm := hr.1
  have hm2 := hr2.1
  have hun := Try.underlying29
  have haw := fun V => awake_any V
  by_cases hsm : steps.length ≤ 20
  · have hn1 : ¬ (20 : Int) < (steps.length : Int) := by omega
    have hn2 : ¬ 20 < steps.length := by omega
    go_enter Try.func5, Try.ntmps5
    go_wp2_with (go_at_call 8; with_reducible refine (haw _).mono ?_; clear haw; rintro e w1 ⟨rfl, hb1⟩)
    go_loopw [9, 10, 11] (fun u i _u11 wr => ∃ (j : Nat) (v : List Lnk) (t : Chk), j ≤ steps.length ∧ i = .int .i64 j ∧ Own wr (w1.heap.size + 1) 28 7 encLnk u v ∧ Hid (Up v t) ∧ v.length = j ∧ 0 ≤ t.epoch ∧ t.epoch ≤ 1000 * j ∧ wr.heap[w1.heap.size]? = some (.cells #[.int .i64 t.epoch, .int .u64 t.root.hi, .int .u64 t.root.lo] 26 (0, 0)) ∧ Below w1.heap.size w1 wr) (fun _ i _ _ => steps.length - (intOf i).toNat)
    case atStart => exact ⟨0, [], ⟨0, ⟨0, 0⟩⟩, Nat.zero_le _, rfl, Own.nil _ _ _ _ _, Lib.hid (up_nil _), rfl, by decide, by decide, ha_at rfl, (Below.refl _ _).alloc (Nat.le_refl _) _⟩
    case round =>
      obtain ⟨j, v, t, hj, rfl, hown, hup, hvl, ht0, ht1, hbk, hBW⟩ := hrel
      have hBr := below_call hb1 hb1.size hBW
      have hvl' := Lib.hid hvl
      clear hvl
      by_cases hlt : j < steps.length
      · obtain ⟨b, o, rfl, hbo, d0⟩ := (hr.below hBr).atI hlt
        obtain ⟨z, hz⟩ : ∃ z, steps[j] = z := ⟨_, rfl⟩
        rw [hz] at d0
        clear hz
        obtain ⟨s0, s1, s2, s3, s4, s5⟩ := blk3 hbk
        by_cases hz1 : z < 1
        · go_wp2_with fail
          go_ret
          exact ⟨rfl, hBr⟩
        · by_cases hz2 : 1000 < z
          · go_wp2_with fail
            go_ret
            exact ⟨rfl, hBr⟩
          · have hz3 : 1 ≤ z := by omega
            have hz4 : z ≤ 1000 := by omega
            have e0 := al_cell' s0
            have e1 := al_cell' s1
            have e2 := al_cell' s2
            have f0 := al_cell' d0
            have hsum : IntKind.i64.wrap (t.epoch + z) = t.epoch + z := Go.IntWalk.i64_in _ (by omega)
            have hnb : u9.ownBlock ≠ some w1.heap.size := fun e => by have := (hown.base _ e).1; omega
            have hnt : u9.ownBlock ≠ some wr.heap.size := fun e => by have := (hown.base _ e).2; omega
            have hrow : ∀ q, u9.ownBlock = some q → w1.heap.size ≤ q := fun q hq => Nat.le_of_succ_le (hown.base q hq).1
            have hvlen : v.length ≤ 20 := by have := hvl'.out; omega
            by_cases hj2 : j < roots.length
            · obtain ⟨b2, o2, rfl, hbo2, r0, r1⟩ := (hr2.below hBr).atID hj2
              obtain ⟨x, hx⟩ : ∃ x, roots[j] = x := ⟨_, rfl⟩
              rw [hx] at r0 r1
              clear hx
              have r2 := al_cell' r0
              have r3 := al_cell' r1
              go_wp2_with fail
              go_region
              go_wp2_with (at_builtin; refine wp_append1 rfl rfl hun infoL rfl (by decide) encLnk_len encLnk_one rfl (hown.below (rise_below wr _ _)) (g := wr.heap.size + 1) (c := 1) rfl (y := ⟨who, t, ⟨t.epoch + z, x⟩⟩) (rise_new wr _ _ _) rfl (by omega) (by unfold maxLen; omega) (rise_size hBW.size hbk) ?_; intro v' w5 ho5 hg5 hat5; have hk5 := grown_own hg5 (bl_own (rise_below wr _ _) hbk) (fun e => hnb e.symm); have ht5 := grown_own hg5 (rise_to wr (.cells #[.int .i64 (t.epoch + z), .int .u64 x.hi, .int .u64 x.lo] 26) _) (fun e => hnt e.symm); have hB5 := below_step (below_call hBW hBW.size (rise_below wr _ _)) (Nat.le_of_succ_le (rise_size hBW.size hbk)) hg5 hrow; obtain ⟨s0, s1, s2, s3, s4, s5⟩ := blk3 hk5; obtain ⟨q0, q1, q2, _, _, _⟩ := blk3 ht5)
              go_roundw
              case rel => exact ⟨j + 1, _, ⟨t.epoch + z, x⟩, hlt, by go_num, rise_own ho5 w1.heap.size (Nat.lt_succ_self _) _ _ _, Lib.hid (up_snoc hup.out (by show t.epoch < t.epoch + z; omega)), by have := hvl'.out; simp; omega, by show 0 ≤ t.epoch + z; omega, by show t.epoch + z ≤ _; omega, rise_set hk5 _ _ _, rise_bset hB5 _ _ _⟩
              case measure => simp [intOf]; omega
            · go_wp2_with fail
              go_region
              go_wp2_with (at_builtin; refine wp_append1 rfl rfl hun infoL rfl (by decide) encLnk_len encLnk_one rfl (hown.below (rise_below wr _ _)) (g := wr.heap.size + 1) (c := 1) rfl (y := ⟨who, t, ⟨t.epoch + z, ⟨0, 0⟩⟩⟩) (rise_new wr _ _ _) rfl (by omega) (by unfold maxLen; omega) (rise_size hBW.size hbk) ?_; intro v' w5 ho5 hg5 hat5; have hk5 := grown_own hg5 (bl_own (rise_below wr _ _) hbk) (fun e => hnb e.symm); have ht5 := grown_own hg5 (rise_to wr (.cells #[.int .i64 (t.epoch + z), .int .u64 0, .int .u64 0] 26) _) (fun e => hnt e.symm); have hB5 := below_step (below_call hBW hBW.size (rise_below wr _ _)) (Nat.le_of_succ_le (rise_size hBW.size hbk)) hg5 hrow; obtain ⟨s0, s1, s2, s3, s4, s5⟩ := blk3 hk5; obtain ⟨q0, q1, q2, _, _, _⟩ := blk3 ht5)
              go_roundw
              case rel => exact ⟨j + 1, _, ⟨t.epoch + z, ⟨0, 0⟩⟩, hlt, by go_num, rise_own ho5 w1.heap.size (Nat.lt_succ_self _) _ _ _, Lib.hid (up_snoc hup.out (by show t.epoch < t.epoch + z; omega)), by have := hvl'.out; simp; omega, by show 0 ≤ t.epoch + z; omega, by show t.epoch + z ≤ _; omega, rise_set hk5 _ _ _, rise_bset hB5 _ _ _⟩
              case measure => simp [intOf]; omega
      · obtain rfl : j = steps.length := by omega
        obtain ⟨A6, k6, hv6, hc6, hm6, hR6⟩ := hown.rdm encLnk_len
        subst hv6
        have hg := guilty_any v A6 k6 wr hR6 hc6 hm6 (by have := hvl'.out; omega)
        rw [up_free hup.out] at hg
        go_wp2_with (go_at_call 10; with_reducible refine hg.mono ?_; clear hg; rintro e w4 ⟨u, rfl, hoh, hb4⟩; obtain ⟨A2, k2, hu2, hR2⟩ := hoh.rd encI_len; subst hu2)
        go_ret
        exact ⟨rfl, below_call hBr hBr.size hb4⟩
  · have hn1 : (20 : Int) < (steps.length : Int) := by omega
    have hn2 : 20 < steps.length := by omega
    go_enter Try.func5, Try.ntmps5
    go_wp2_with (go_at_call 8; with_reducible refine (haw _).mono ?_; clear haw; rintro e w1 ⟨rfl, hb1⟩)
    go_ret
    exact ⟨rfl, hb1⟩
end Go.Proofs.Ytigdbcfpamnkcaa
