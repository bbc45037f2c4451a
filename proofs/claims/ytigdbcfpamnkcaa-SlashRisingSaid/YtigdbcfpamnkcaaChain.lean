/- The walk of tree.Chain. -/
import Derived.Test.YtigdbcfpamnkcaaPlaces
import Derived.KernelRfl
namespace Go.Proofs.Ytigdbcfpamnkcaa
open Go.RowKit
theorem infoID : (Try.prog.info? 24).map (fun i => (i.zero, i.size, i.bytes)) = some (some (.agg #[.int .u64 0, .int .u64 0]), 2, 16) := by kernel_rfl
theorem encID_len (x : ID) : (encID x).length = 2 := rfl
theorem encID_one (x : ID) : ∀ u ∈ encID x, u.oneCell' = true := by intro u hu; simp [encID] at hu; rcases hu with rfl | rfl <;> rfl
def parAt (l : List Blk) (i : Int) : ID := (l[i.toNat]?.map (·.par)).getD ⟨0, 0⟩
def chGo (l : List Blk) (m : List (ID × Int)) : Nat → ID → List ID
  | 0, _ => []
  | f + 1, id => id :: (match mget m id with
    | some i => if i = -1 then [] else chGo l m f (parAt l i)
    | none => [])
def chain (l : List Blk) (id : ID) : List ID :=
  match plc l with
  | none => []
  | some m => if (mget m id).isSome then chGo l m (l.length + 1) id else []
/-- What the walk leans on: a block's parent stands ahead of it. -/
def Ahead (l : List Blk) (m : List (ID × Int)) : Prop :=
  ∀ x i, mget m x = some i → i = -1 ∨ (0 ≤ i ∧ i < l.length ∧ ∃ j, mget m (parAt l i) = some j ∧ j < i ∧ -1 ≤ j)
theorem chain_zero {l : List Blk} {id : ID} (h : plc l = none ∨ ∃ m, plc l = some m ∧ mget m id = none) : chain l id = [] := by
  unfold chain
  rcases h with h | ⟨m, h, hn⟩
  · rw [h]
  · rw [h]; simp [hn]
/-- What holds at the label 'down'. -/
def ChainAt (l : List Blk) (id : ID) (m : List (ID × Int)) (i : Int) (A : Option Addr) (c : Nat) (w : World) (a : Act) (W : World) : Prop :=
  ∃ (M : Nat) (v u10 u24 u25 u26 u27 u28 u29 u30 u31 u32 u33 u34 u35 u36 u37 : Value) (acc : List ID) (x : ID) (j : Int) (f : Nat), a = { tmps := #[.slice A l.length c, .agg #[.int .u64 id.hi, .int .u64 id.lo], undef, .pointer (some ⟨w.heap.size, 0, none⟩), .slice none 0 0, .map (some M), .bool true, .int .i64 i, .bool true, v, u10, .tuple #[.map (some M), .bool true], .slice A l.length c, .tuple #[.map (some M), .bool true], .map (some M), .bool true, .tuple #[.int .i64 i, .bool true], .map (some M), .agg #[.int .u64 id.hi, .int .u64 id.lo], .tuple #[.int .i64 i, .bool true], .int .i64 i, .bool true, .bool true, .bool false, u24, u25, u26, u27, u28, u29, u30, u31, u32, u33, u34, u35, u36, u37, undef], defers := [] } ∧
    MapIs idv (Value.int .i64) W M m ∧ w.heap.size + 1 ≤ M ∧ W.heap[w.heap.size]? = some (.cells #[.int .u64 x.hi, .int .u64 x.lo] 24 (0, 0)) ∧ Own W (w.heap.size + 1) 24 2 encID v acc ∧ Below w.heap.size w W ∧
    mget m x = some j ∧ -1 ≤ j ∧ j + 2 ≤ f ∧ acc ++ chGo l m f x = chain l id ∧ acc.length + j + 1 ≤ l.length
theorem lenV_own {α : Type} {w : World} {base : Nat} {e : TypeId} {k : Nat} {enc : α → List Value} {v : Value} {xs : List α} (h : Own w base e k enc v xs) : lenV v = xs.length := by
  obtain ⟨_, h2⟩ := h
  rcases h2 with ⟨rfl, h0⟩ | ⟨g, cap, cur, rfl, _⟩
  · simp [lenV, h0]
  · rfl
end Go.Proofs.Ytigdbcfpamnkcaa
