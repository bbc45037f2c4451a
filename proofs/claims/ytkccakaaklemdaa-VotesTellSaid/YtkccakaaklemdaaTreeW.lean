/- The walks of tree.May, Under, Kids. -/
import Derived.Test.YtkccakaaklemdaaTree
import Derived.Deep.RegionHeld3
namespace Go.Proofs.Ytkccakaaklemdaa
open Go.RowKit
open Classical in
noncomputable def mayB (l : List Blk) : Bool := decide (Tree l)
set_option maxRecDepth 100000 in
set_option maxHeartbeats 1000000 in
theorem may_any (l : List Blk) (A : Option Addr) (c : Nat) (w : World) (hr : Rd 5 encBlk w A l) :
    Calls Try.prog 13 #[.slice A l.length c] w fun e w' => e = .returned (.bool (mayB l)) ∧ Below w.heap.size w w' := by
  by_cases h : Tree l
  · have hc := places_some (plc_yes h) A c w hr
    have hb := Lib.hid (show mayB l = true by simp [mayB, h])
    clear h
    go_enter Try.func13, Try.ntmps13
    go_wp2_with (go_at_call 31; refine hc.mono ?_; clear hc; rintro e w1 ⟨M, rfl, hMl, hM, hw⟩)
    go_ret
    exact ⟨ret_bool hb.out.symm, hw⟩
  · have hc := places_none (plc_no h) A c w hr
    have hb := Lib.hid (show mayB l = false by simp [mayB, h])
    clear h
    go_enter Try.func13, Try.ntmps13
    go_wp2_with (go_at_call 31; refine hc.mono ?_; clear hc; rintro e w1 ⟨rfl, hw⟩)
    go_ret
    exact ⟨ret_bool hb.out.symm, hw⟩
def kidsOf (l : List Blk) (id : ID) : List ID := (l.filter fun b => decide (b.par = id)).map nameOf
open Classical in
noncomputable def kids (l : List Blk) (id : ID) : List ID := if Tree l then kidsOf l id else []
theorem kidsOf_snoc {l : List Blk} {k : Nat} (hlt : k < l.length) (id : ID) : kidsOf (l.take (k + 1)) id = kidsOf (l.take k) id ++ (if l[k].par = id then [nameOf l[k]] else []) := by
  unfold kidsOf
  rw [← List.take_append_getElem hlt, List.filter_append, List.map_append]
  by_cases h : l[k].par = id <;> simp [h]
theorem kidsOf_len (l : List Blk) (id : ID) : (kidsOf l id).length ≤ l.length := by
  unfold kidsOf
  rw [List.length_map]
  exact List.length_filter_le _ _
set_option maxRecDepth 100000 in
set_option maxHeartbeats 1000000 in
theorem kids_any (l : List Blk) (id : ID) (A : Option Addr) (c : Nat) (w : World) (hr : Rd 5 encBlk w A l) (hl : l.length ≤ 100000) :
    Calls Try.prog 15 #[.slice A l.length c, idv id] w fun e w' => ∃ v, e = .returned v ∧ Own w' w.heap.size 29 2 encID v (kids l id) ∧ Below w.heap.size w w' := by
  have hcall := fun W (hW : Below w.heap.size w W) => may_any l A c W (hr.below hW)
  have hun := Try.underlying34
  unfold idv at *
  by_cases ht : Tree l
  · have hm : mayB l = true := by simp [mayB, ht]
    rw [hm] at hcall
    have hk := Lib.hid (show kids l id = kidsOf l id by simp [kids, ht])
    clear hm ht
    go_enter Try.func15, Try.ntmps15
    go_wp2_with (go_at_call 13; refine (hcall _ ((Below.refl _ w).alloc (Nat.le_refl _) _)).mono ?_; clear hcall; rintro e w1 ⟨rfl, hb⟩)
    have hb1 := bl_own hb (ha_at rfl)
    have hB1 : Below w.heap.size w w1 := below_call ((Below.refl _ w).alloc (Nat.le_refl _) _) (by simp) hb
    clear hb
    go_loopw [5, 7, 13] (fun v s7 i wr => ∃ k : Nat, k ≤ l.length ∧ i = .int .i64 k ∧ Own wr (w.heap.size + 1) 29 2 encID v (kidsOf (l.take k) id) ∧ wr.heap[w.heap.size]? = some (.cells #[.int .u64 id.hi, .int .u64 id.lo] 29 (0, 0)) ∧ Below w.heap.size w wr) (fun _ _ i _ => l.length - (intOf i).toNat)
    case atStart => exact ⟨0, Nat.zero_le _, rfl, Own.nil _ _ _ _ _, hb1, hB1⟩
    case round =>
      obtain ⟨k, hkl, rfl, hown, hbx, hB⟩ := hrel
      obtain ⟨c0, c1, f0, f1⟩ := blk2 hbx
      by_cases hlt : k < l.length
      · obtain ⟨b', o, rfl, hbo, d0, d1, d2, d3, d4⟩ := (hr.below hB).atBlk hlt
        have hsn := kidsOf_snoc hlt id
        have hle := kidsOf_len (l.take k) id
        obtain ⟨b, hbk⟩ : ∃ b, l[k] = b := ⟨_, rfl⟩
        rw [hbk] at d0 d1 d2 d3 d4 hsn
        clear hbk
        have heq := eql_id b.par id
        unfold idv at heq
        have hlt0 := lt_of_block hbx
        have hW1 : Below wr.heap.size wr (wr.alloc (.cells #[.int .i64 b.slot, .int .i64 b.frm, .int .u64 b.par.1, .int .u64 b.par.2, .int .u64 b.salt] 49)) := (Below.refl _ wr).alloc (Nat.le_refl _) _
        have ho1 := hown.below hW1
        have hB1 := hB.trans (hW1.mono hB.size)
        have hbx1 := bl_own hW1 hbx
        have hle2 : (l.take k).length ≤ l.length := by simp; omega
        have hle3 : (kidsOf (l.take k) id).length ≤ 100000 := by omega
        clear hle hle2
        by_cases hp : b.par = id
        · have hd : decide (b.par = id) = true := by simpa using hp
          rw [hd] at heq
          rw [if_pos hp] at hsn
          have hsn' := Lib.hid hsn
          clear hsn hd hp
          have hvb : ∀ k, u5.ownBlock = some k → w.heap.size + 1 ≤ k := fun k hk => (ho1.base k hk).1
          have hne1 : some w.heap.size ≠ u5.ownBlock := fun e => by have := hvb _ e.symm; omega
          go_wp2_with fail
          refine (name_any b _).mono ?_
          rintro e w2 ⟨rfl, hb2⟩
          have hB2 := below_call hB1 hB1.size hb2
          have hbx2 := bl_own hb2 hbx1
          have ho2 := ho1.below hb2
          clear ho1 hbx1 hB1 hW1 hb2
          have hW3 : Below w2.heap.size w2 (w2.alloc (.cells #[.int .u64 (nameOf b).hi, .int .u64 (nameOf b).lo] 29)) := (Below.refl _ w2).alloc (Nat.le_refl _) _
          have ho3 := ho2.below hW3
          have hB3 := hB2.trans (hW3.mono hB2.size)
          have hbx3 := bl_own hW3 hbx2
          have hlt2 := lt_of_block hbx2
          unfold idv
          go_wp2_with (first | (at_builtin; refine wp_append1 rfl rfl hun infoID rfl (by decide) encID_len encID_one rfl ho3 (g := w2.heap.size) (c := 1) rfl (y := nameOf b) (ha_at rfl) rfl (by omega) (by unfold maxLen; omega) (by simp <;> omega) ?_; intro v' w4 ho4 hg4 hat4))
          go_roundw
          case rel => exact ⟨k + 1, hlt, by go_num, by rw [hsn'.out]; exact ho4, grown_own hg4 hbx3 hne1, below_step hB3 hB3.size hg4 (fun k hk => by have := hvb k hk; omega)⟩
          case measure => simp [intOf]; omega
        · have hd : decide (b.par = id) = false := by simpa using hp
          rw [hd] at heq
          rw [if_neg hp, List.append_nil] at hsn
          have hsn' := Lib.hid hsn
          clear hsn hd hp
          go_wp2_with fail
          go_roundw
          case rel => exact ⟨k + 1, hlt, by go_num, by rw [hsn'.out]; exact ho1, hbx1, hB1⟩
          case measure => simp [intOf]; omega
      · obtain rfl : k = l.length := by omega
        rw [List.take_length] at hown
        go_wp2
        go_ret
        exact ⟨_, rfl, by rw [hk.out]; exact hown.mono (by omega), hB⟩
  · have hm : mayB l = false := by simp [mayB, ht]
    rw [hm] at hcall
    have hk := Lib.hid (show kids l id = [] by simp [kids, ht])
    clear hm ht
    go_enter Try.func15, Try.ntmps15
    go_wp2_with (go_at_call 13; refine (hcall _ ((Below.refl _ w).alloc (Nat.le_refl _) _)).mono ?_; clear hcall; rintro e w1 ⟨rfl, hb⟩)
    go_ret
    refine ⟨_, rfl, ?_, below_call ((Below.refl _ w).alloc (Nat.le_refl _) _) (by simp) hb⟩
    rw [hk.out]
    exact Own.nil _ _ _ _ _
end Go.Proofs.Ytkccakaaklemdaa
