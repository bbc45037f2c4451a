/- The walks of tree.May, Under, Kids. -/
import Derived.Test.YtigdbcfpamnkcaaTree
import Derived.Deep.RegionHeld3
namespace Go.Proofs.Ytigdbcfpamnkcaa
open Go.RowKit
open Classical in
noncomputable def mayB (l : List Blk) : Bool := decide (Tree l)
def kidsOf (l : List Blk) (id : ID) : List ID := (l.filter fun b => decide (b.par = id)).map nameOf
open Classical in
noncomputable def kids (l : List Blk) (id : ID) : List ID := if Tree l then kidsOf l id else []
theorem kidsOf_snoc {l : List Blk} {k : Nat} (hlt : k < l.length) (id : ID) : kidsOf (l.take (k + 1)) id = kidsOf (l.take k) id ++ (if l[k].par = id then [nameOf l[k]] else []) := by
  unfold kidsOf
  rw [← List.take_append_getElem hlt, List.filter_append, List.map_append]
  by_cases h : l[k].par = id <;> simp [h]
theorem kidsOf_len (l : List Blk) (id : ID) : (kidsOf l id).length ≤ l.length := by
  unfold kidsOf
  rw [List.length_map]
  exact List.length_filter_le _ _
end Go.Proofs.Ytigdbcfpamnkcaa
