/- The walks of tree.May, Under, Kids. -/
import Derived.Test.YtionkkjdaghakaaTree
import Derived.Deep.RegionHeld3
namespace Go.Proofs.Ytionkkjdaghakaa
open Go.RowKit
open Classical in
noncomputable def mayB (l : List Blk) : Bool := decide (Tree l)
set_option maxRecDepth 100000 in
set_option maxHeartbeats 1000000 in
theorem may_any (l : List Blk) (A : Option Addr) (c : Nat) (w : World) (hr : Rd 5 encBlk w A l) :
    Calls Try.prog 33 #[.slice A l.length c] w fun e w' => e = .returned (.bool (mayB l)) ∧ Below w.heap.size w w' := by
  by_cases h : Tree l
  · have hc := places_some (plc_yes h) A c w hr
    have hb := Lib.hid (show mayB l = true by simp [mayB, h])
    clear h
    go_enter Try.func33, Try.ntmps33
    go_wp2_with (go_at_call 45; refine hc.mono ?_; clear hc; rintro e w1 ⟨M, rfl, hMl, hM, hw⟩)
    go_ret
    exact ⟨ret_bool hb.out.symm, hw⟩
  · have hc := places_none (plc_no h) A c w hr
    have hb := Lib.hid (show mayB l = false by simp [mayB, h])
    clear h
    go_enter Try.func33, Try.ntmps33
    go_wp2_with (go_at_call 45; refine hc.mono ?_; clear hc; rintro e w1 ⟨rfl, hw⟩)
    go_ret
    exact ⟨ret_bool hb.out.symm, hw⟩
def kidsOf (l : List Blk) (id : ID) : List ID := (l.filter fun b => decide (b.par = id)).map nameOf
open Classical in
noncomputable def kids (l : List Blk) (id : ID) : List ID := if Tree l then kidsOf l id else []
theorem kidsOf_snoc {l : List Blk} {k : Nat} (hlt : k < l.length) (id : ID) : kidsOf (l.take (k + 1)) id = kidsOf (l.take k) id ++ (if l[k].par = id then [nameOf l[k]] else []) := by
  unfold kidsOf
  rw [← List.take_append_getElem hlt, List.filter_append, List.map_append]
  by_cases h : l[k].par = id <;> simp [h]
theorem kidsOf_len (l : List Blk) (id : ID) : (kidsOf l id).length ≤ l.length := by
  unfold kidsOf
  rw [List.length_map]
  exact List.length_filter_le _ _
end Go.Proofs.Ytionkkjdaghakaa
