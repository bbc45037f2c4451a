/- More arguments read as data: a whole number, a vote, a block; a nil slice has no room. -/
import Derived.Test.YtigdbcfpamnkcaaRead0
namespace Go.Proofs.Ytigdbcfpamnkcaa
open Go.RowKit Go.ChangeShapes Go.WideShapes Go.ChangeAt
section
variable {H : Type} {en : TypeId × Value → H} {W : World} {held : Bool} {r : Reach} {b0 : Nat} {v : Value} {d : DataW H} {p : List MemPlace}
theorem none_cap {P : Program} {t e : TypeId} {n len cap : Nat} {A : Option Addr} {y : DataW H × List MemPlace} (ht : P.underlying t = some (.slice e)) (h : DataW.trod en P W 0 (fun _ => true) held n t [.slice A len cap] = some y) : A = none → cap = 0 := by
  intro e
  subst e
  rcases DataW.trod_slice ht h with ⟨hc, _⟩ | ⟨a', len, cap, _, _, _, _, hc, _⟩
  · simp only [List.cons.injEq, Value.slice.injEq, and_true] at hc
    exact hc.2.2
  · simp at hc
set_option maxRecDepth 100000 in
theorem open_i (hv : Value.okWide Try.prog W r b0 3 v) (h : DataW.Trod en Try.prog W 0 (fun _ => true) held 3 v d p) : ∃ x : Int, v = .int .i64 x ∧ I64 x := by
  obtain ⟨x, rfl, _, _, w⟩ := open_int Try.underlying3 hv h
  exact ⟨x, rfl, wfI w⟩
def blkv (b : Blk) : Value := .agg #[.int .i64 b.slot, .int .i64 b.frm, .int .u64 b.par.hi, .int .u64 b.par.lo, .int .u64 b.salt]
end
end Go.Proofs.Ytigdbcfpamnkcaa
