/- slash.Guilty, walked. -/
import Derived.Test.YtigdbcfpamnkcaaSlashD
import Derived.Test.YtigdbcfpamnkcaaSlashQ
namespace Go.Proofs.Ytigdbcfpamnkcaa
open Go.RowKit
theorem backs_succ {v : List Lnk} {k : Nat} (hlt : k < v.length) : backs v (k + 1) = backs v k ++ (if (v.take k).any (fun b => decide (Pair v[k] b)) then [v[k].frm] else []) := by
  rw [backs, List.getElem?_eq_getElem hlt]
set_option maxRecDepth 100000 in
set_option maxHeartbeats 2000000 in
theorem guilty_any (v : List Lnk) (A : Option Addr) (c : Nat) (w : World) (hr : Rd 7 encLnk w A v) (hc : v.length ≤ c) (hcm : c ≤ maxLen) (hl : v.length ≤ 100000) :
    Calls Try.prog 10 #[.slice A v.length c] w fun e w' => ∃ u, e = .returned u ∧ Own w' w.heap.size 3 1 encI u (guiltyL v) ∧ Below w.heap.size w w' := by
  have hm := hr.1
  unfold maxLen at hcm
  have hun := Try.underlying32
  have hsort := fun V u l (ho : Own V w.heap.size 3 1 encI u l) h => isort_any l u w.heap.size V ho h
  have hcomp := fun V u l (ho : Own V w.heap.size 3 1 encI u l) h => icompact_any l u w.heap.size V ho h
  have hfin := Lib.hid (show guiltyL v = Lib.compact (isort (backs v v.length)) from rfl)
  go_enter Try.func10, Try.ntmps10
  go_wp2_with fail
  go_loopw [3, 4, 5, 8] (fun u _u4 _u5 i wr => ∃ k : Nat, k ≤ v.length ∧ i = .int .i64 k ∧ Own wr w.heap.size 3 1 encI u (backs v k) ∧ Below w.heap.size w wr) (fun _ _ _ i _ => v.length - (intOf i).toNat)
  case atStart => exact ⟨0, Nat.zero_le _, rfl, Own.nil _ _ _ _ _, Below.refl _ _⟩
  case round =>
    obtain ⟨k, hk, rfl, hown, hB⟩ := hrel
    by_cases hlt : k < v.length
    · obtain ⟨b, o, rfl, hbo, d0, d1, d2, d3, d4, d5, d6⟩ := (hr.below hB).atL hlt
      have hsn := backs_succ hlt
      have hbl := backs_len v k
      have hvb : ∀ j, u3.ownBlock = some j → w.heap.size ≤ j := fun j hj => (hown.base j hj).1
      obtain ⟨a, ha⟩ : ∃ a, v[k] = a := ⟨_, rfl⟩
      rw [ha] at d0 d1 d2 d3 d4 d5 d6 hsn
      clear ha
      have hW : ∃ W, wr.alloc (.cells #[.int .i64 a.frm, .int .i64 a.src.epoch, .int .u64 a.src.root.hi, .int .u64 a.src.root.lo, .int .i64 a.tgt.epoch, .int .u64 a.tgt.root.hi, .int .u64 a.tgt.root.lo] 28) = W := ⟨_, rfl⟩
      obtain ⟨W, hW⟩ := hW
      have hBW : Below wr.heap.size wr W := by subst hW; exact (Below.refl _ _).alloc (Nat.le_refl _) _
      have hBw := below_call hB hB.size hBW
      have hblk : W.heap[wr.heap.size]? = some (.cells #[.int .i64 a.frm, .int .i64 a.src.epoch, .int .u64 a.src.root.hi, .int .u64 a.src.root.lo, .int .i64 a.tgt.epoch, .int .u64 a.tgt.root.hi, .int .u64 a.tgt.root.lo] 28 (0, 0)) := by subst hW; exact ha_at rfl
      have hcall := lany_any (fun y => decide (Pair a y)) (v.take k) (some ⟨b, o, none⟩) c (.pointer (some ⟨wr.heap.size, 0, none⟩)) W ((hr.below hBw).take k) (fun x _ V hV => held_any a x wr.heap.size 28 V (bl_own hV hblk))
      rw [List.length_take, Nat.min_eq_left hk] at hcall
      have hcap : k ≤ c := by omega
      have hownW := hown.below hBW
      rw [← hW] at hcall
      cases hany : (v.take k).any (fun y => decide (Pair a y)) with
      | true =>
        rw [hany] at hcall
        rw [hany, if_pos rfl] at hsn
        have hsn' := Lib.hid hsn
        have hW' := Lib.hid hW
        clear hsn hany hW
        go_wp2_with (first
          | (go_at_call 15; with_reducible refine hcall.mono ?_; clear hcall; rintro e w1 ⟨rfl, hb1⟩; rw [hW'.out] at hb1; have hB1 := below_call hBw hBw.size hb1; obtain ⟨c0, c1, c2, c3, c4, c5, c6⟩ := blkL (bl_own hb1 hblk); have ho1 := hownW.below hb1; have hW2 : Below w1.heap.size w1 (w1.alloc (.cells #[.int .i64 a.frm] 3)) := (Below.refl _ w1).alloc (Nat.le_refl _) _; have ho2 := ho1.below hW2; have hB2 := below_call hB1 hB1.size hW2)
          | (at_builtin; refine wp_append1 rfl rfl hun infoI rfl (by decide) encI_len encI_one rfl ho2 (g := w1.heap.size) (c := 1) rfl (y := a.frm) (ha_at rfl) rfl (by omega) (by unfold maxLen; omega) hB2.size ?_; intro v' w5 ho5 hg5 hat5))
        go_roundw
        case rel => exact ⟨k + 1, hlt, by go_num, by rw [hsn'.out]; exact ho5, below_step hB2 hB2.size hg5 hvb⟩
        case measure => simp [intOf]; omega
      | false =>
        rw [hany] at hcall
        rw [hany, if_neg (by decide), List.append_nil] at hsn
        have hsn' := Lib.hid hsn
        have hW' := Lib.hid hW
        clear hsn hany hW
        go_wp2_with (go_at_call 15; with_reducible refine hcall.mono ?_; clear hcall; rintro e w1 ⟨rfl, hb1⟩; rw [hW'.out] at hb1; have hB1 := below_call hBw hBw.size hb1; have ho1 := hownW.below hb1)
        go_roundw
        case rel => exact ⟨k + 1, hlt, by go_num, by rw [hsn'.out]; exact ho1, hB1⟩
        case measure => simp [intOf]; omega
    · obtain rfl : k = v.length := by omega
      have hbl := backs_len v v.length
      have hs1 := hsort _ _ _ hown (by omega)
      have hvb : ∀ j, u3.ownBlock = some j → w.heap.size ≤ j := fun j hj => (hown.base j hj).1
      go_wp2_with (first
        | (go_at_call 17; with_reducible refine hs1.mono ?_; clear hs1; rintro e w1 ⟨rfl, ho1, hg1⟩; have hB1 := below_step hB hB.size hg1 hvb; have hs2 := hcomp _ _ _ ho1 (by rw [isort_len]; omega))
        | (go_at_call 18; with_reducible refine hs2.mono ?_; clear hs2; rintro e w2 ⟨v', rfl, ho2, hg2, he2⟩; have hB2 := below_step hB1 hB1.size hg2 hvb))
      go_ret
      exact ⟨_, rfl, by rw [hfin.out]; exact ho2, hB2⟩
end Go.Proofs.Ytigdbcfpamnkcaa
