/- The walks of tree.places, Chain, May, Under, Kids. -/
import Derived.Test.YtigdbcfpamnkcaaName
namespace Go.Proofs.Ytigdbcfpamnkcaa
open Go.RowKit
def slotAt (l : List Blk) (p : Int) : Int := if p = -1 then 0 else (l[p.toNat]?.map (·.slot)).getD 0
def plStep (l : List Blk) (m : List (ID × Int)) (i : Nat) (b : Blk) : Option (List (ID × Int)) :=
  match mget m b.par with
  | none => none
  | some p => if b.slot ≤ slotAt l p then none else if (mget m (nameOf b)).isSome then none else some (mput m (nameOf b) i)
def plGo (l : List Blk) : List Blk → Nat → List (ID × Int) → Option (List (ID × Int))
  | [], _, m => some m
  | b :: bs, i, m => match plStep l m i b with
    | none => none
    | some m' => plGo l bs (i + 1) m'
def plc (l : List Blk) : Option (List (ID × Int)) := plGo l l 0 [(⟨0, 0⟩, -1)]
/-- What places tells. -/
def PlacesPost (w : World) (r : Option (List (ID × Int))) (e : Ending) (w' : World) : Prop :=
  (match r with
    | none => e = .returned (.tuple #[.map none, .bool false])
    | some m => ∃ M, e = .returned (.tuple #[.map (some M), .bool true]) ∧ w.heap.size ≤ M ∧ MapIs idv (Value.int .i64) w' M m) ∧ Below w.heap.size w w'
theorem PlacesPost.no {w w' : World} {r : Option (List (ID × Int))} (h : r = none) (hb : Below w.heap.size w w') : PlacesPost w r (.returned (.tuple #[.map none, .bool false])) w' := by
  subst h; exact ⟨rfl, hb⟩
theorem PlacesPost.yes {w w' : World} {r : Option (List (ID × Int))} {m : List (ID × Int)} {M : Nat} (h : r = some m) (hM : w.heap.size ≤ M) (hm : MapIs idv (Value.int .i64) w' M m) (hb : Below w.heap.size w w') : PlacesPost w r (.returned (.tuple #[.map (some M), .bool true])) w' := by
  subst h; exact ⟨⟨M, rfl, hM, hm⟩, hb⟩
theorem plGo_drop {l : List Blk} {k : Nat} (hlt : k < l.length) (m : List (ID × Int)) : plGo l (l.drop k) k m = match plStep l m k l[k] with | none => none | some m' => plGo l (l.drop (k + 1)) (k + 1) m' := by
  rw [List.drop_eq_getElem_cons hlt]; rfl
end Go.Proofs.Ytigdbcfpamnkcaa
