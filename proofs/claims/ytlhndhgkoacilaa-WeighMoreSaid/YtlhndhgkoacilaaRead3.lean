/- A list of blocks that comes in, with its size in bytes. -/
import Derived.SizedLaws
import Derived.Test.YtlhndhgkoacilaaRead2
namespace Go.Proofs.Ytlhndhgkoacilaa
open Go.RowKit Go.ChangeShapes Go.WideShapes Go.ChangeAt
section
variable {H : Type} {en : TypeId × Value → H} {W : World} {held : Bool} {r : Reach} {b0 : Nat} {v : Value} {d : DataW H} {p : List MemPlace}
theorem slice_len {P : Program} {t e : TypeId} {n len cap : Nat} {A : Option Addr} {d : DataW H} {p : List MemPlace} (ht : P.underlying t = some (.slice e)) (h : DataW.trod en P W 0 (fun _ => true) held n t [.slice A len cap] = some (d, p)) :
    (∃ es sp, d = .slice es sp ∧ es.length + sp.length = cap) ∨ cap = 0 := by
  rcases Go.Deep.open_slice ht h with ⟨hcs, _⟩ | ⟨a, len', cap', m, n', D, Pl, hcs, _, hlc, _, hm, hx, _⟩
  · simp only [List.cons.injEq, Value.slice.injEq, and_true] at hcs
    exact .inr hcs.2.2
  · simp only [List.cons.injEq, Value.slice.injEq, and_true] at hcs
    obtain ⟨rfl, rfl, rfl⟩ := hcs
    have hm' : m = cap := by rw [hm]; simp
    simp only [Prod.mk.injEq] at hx
    refine .inl ⟨_, _, hx.1, ?_⟩
    simp
    omega
set_option maxRecDepth 100000 in
theorem open_blksS (hv : Value.okWide Try.prog W r b0 26 v) (h : DataW.Trod en Try.prog W 0 (fun _ => true) held 26 v d p) :
    ∃ (A : Option Addr) (l : List Blk) (k : Nat), v = .slice A l.length k ∧ l.length ≤ k ∧ k ≤ maxLen ∧ Rd 5 encBlk W A l ∧ (∀ b ∈ l, b.Ok) ∧ (A = none → k = 0) ∧ ((∃ es sp, d = .slice es sp ∧ es.length + sp.length = k) ∨ k = 0) := by
  obtain ⟨A, l, k, rfl, h1, h2, h3, h4, h5⟩ := open_blksN hv h
  obtain ⟨fuel, hf⟩ := h
  exact ⟨A, l, k, rfl, h1, h2, h3, h4, h5, slice_len Try.underlying26 hf⟩
theorem bytes_blk : Try.prog.bytesOf 45 = 40 := by kernel_rfl
end
end Go.Proofs.Ytlhndhgkoacilaa
