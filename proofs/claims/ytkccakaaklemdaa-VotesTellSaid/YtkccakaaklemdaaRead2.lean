/- More arguments read as data: a whole number, a vote, a block; a nil slice has no room. -/
import Derived.Test.YtkccakaaklemdaaRead0
namespace Go.Proofs.Ytkccakaaklemdaa
open Go.RowKit Go.ChangeShapes Go.WideShapes Go.ChangeAt
section
variable {H : Type} {en : TypeId × Value → H} {W : World} {held : Bool} {r : Reach} {b0 : Nat} {v : Value} {d : DataW H} {p : List MemPlace}
theorem none_cap {P : Program} {t e : TypeId} {n len cap : Nat} {A : Option Addr} {y : DataW H × List MemPlace} (ht : P.underlying t = some (.slice e)) (h : DataW.trod en P W 0 (fun _ => true) held n t [.slice A len cap] = some y) : A = none → cap = 0 := by
  intro e
  subst e
  rcases DataW.trod_slice ht h with ⟨hc, _⟩ | ⟨a', len, cap, _, _, _, _, hc, _⟩
  · simp only [List.cons.injEq, Value.slice.injEq, and_true] at hc
    exact hc.2.2
  · simp at hc
set_option maxRecDepth 100000 in
theorem open_blksN (hv : Value.okWide Try.prog W r b0 26 v) (h : DataW.Trod en Try.prog W 0 (fun _ => true) held 26 v d p) :
    ∃ (A : Option Addr) (l : List Blk) (k : Nat), v = .slice A l.length k ∧ l.length ≤ k ∧ k ≤ maxLen ∧ Rd 5 encBlk W A l ∧ (∀ b ∈ l, b.Ok) ∧ (A = none → k = 0) := by
  obtain ⟨A, l, k, rfl, h1, h2, h3, h4⟩ := open_blks hv h
  obtain ⟨fuel, hf⟩ := h
  exact ⟨A, l, k, rfl, h1, h2, h3, h4, none_cap Try.underlying26 hf⟩
set_option maxRecDepth 100000 in
theorem open_votesN (hv : Value.okWide Try.prog W r b0 27 v) (h : DataW.Trod en Try.prog W 0 (fun _ => true) held 27 v d p) :
    ∃ (A : Option Addr) (l : List Vote) (k : Nat), v = .slice A l.length k ∧ l.length ≤ k ∧ k ≤ maxLen ∧ Rd 4 encVote W A l ∧ (∀ b ∈ l, b.Ok) ∧ (A = none → k = 0) := by
  obtain ⟨A, l, k, rfl, h1, h2, h3, h4⟩ := open_votes hv h
  obtain ⟨fuel, hf⟩ := h
  exact ⟨A, l, k, rfl, h1, h2, h3, h4, none_cap Try.underlying27 hf⟩
set_option maxRecDepth 100000 in
theorem open_i (hv : Value.okWide Try.prog W r b0 3 v) (h : DataW.Trod en Try.prog W 0 (fun _ => true) held 3 v d p) : ∃ x : Int, v = .int .i64 x ∧ I64 x := by
  obtain ⟨x, rfl, _, _, w⟩ := open_int Try.underlying3 hv h
  exact ⟨x, rfl, wfI w⟩
set_option maxRecDepth 100000 in
theorem open_vote (hv : Value.okWide Try.prog W r b0 38 v) (h : DataW.Trod en Try.prog W 0 (fun _ => true) held 38 v d p) : ∃ x : Vote, v = votev x ∧ x.Ok := by
  obtain ⟨cs, rfl, _⟩ := okWide_struct Try.underlying38 hv
  obtain ⟨fuel, hf⟩ := h
  obtain ⟨x, hx, k⟩ := read_vote hf
  obtain ⟨l⟩ := cs
  simp only [Value.cells] at hx
  subst hx
  exact ⟨x, rfl, k⟩
def blkv (b : Blk) : Value := .agg #[.int .i64 b.slot, .int .i64 b.frm, .int .u64 b.par.hi, .int .u64 b.par.lo, .int .u64 b.salt]
set_option maxRecDepth 100000 in
theorem open_block (hv : Value.okWide Try.prog W r b0 49 v) (h : DataW.Trod en Try.prog W 0 (fun _ => true) held 49 v d p) : ∃ x : Blk, v = blkv x ∧ x.Ok := by
  obtain ⟨cs, rfl, _⟩ := okWide_struct Try.underlying49 hv
  obtain ⟨fuel, hf⟩ := h
  obtain ⟨x, hx, k⟩ := read_blk hf
  obtain ⟨l⟩ := cs
  simp only [Value.cells] at hx
  subst hx
  exact ⟨x, rfl, k⟩
end
end Go.Proofs.Ytkccakaaklemdaa
