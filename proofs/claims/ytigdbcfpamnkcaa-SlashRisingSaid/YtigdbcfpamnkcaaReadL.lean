/- Links, lists of links, ints and IDs that come in. -/
import Derived.Test.YtigdbcfpamnkcaaRead2
import Derived.Test.YtigdbcfpamnkcaaSlashA
namespace Go.Proofs.Ytigdbcfpamnkcaa
open Go.RowKit Go.ChangeShapes Go.WideShapes Go.ChangeAt
def Chk.Ok (x : Chk) : Prop := I64 x.epoch ∧ x.root.Ok
def Lnk.Ok (x : Lnk) : Prop := I64 x.frm ∧ x.src.Ok ∧ x.tgt.Ok
theorem cells_chk : Try.prog.cellsOf 26 = 3 := by kernel_rfl
theorem cells_lnk : Try.prog.cellsOf 28 = 7 := by kernel_rfl
theorem l3 {α : Type} {l : List α} (h : l.length = 3) : ∃ a b c, l = [a, b, c] := by
  match l, h with
  | [a, b, c], _ => exact ⟨a, b, c, rfl⟩
theorem l7 {α : Type} {l : List α} (h : l.length = 7) : ∃ a b c d e f g, l = [a, b, c, d, e, f, g] := by
  match l, h with
  | [a, b, c, d, e, f, g], _ => exact ⟨a, b, c, d, e, f, g, rfl⟩
def encChk (x : Chk) : List Value := [.int .i64 x.epoch, .int .u64 x.root.hi, .int .u64 x.root.lo]
instance instInhChk : Inhabited Chk := ⟨⟨0, ⟨0, 0⟩⟩⟩
instance instInhLnk : Inhabited Lnk := ⟨⟨0, default, default⟩⟩
section
variable {H : Type} {en : TypeId × Value → H} {W : World} {base : Nat} {spare : Nat → Bool} {held : Bool} {n : Nat} {cs : List Value} {y : DataW H × List MemPlace}
set_option maxRecDepth 100000 in
theorem read_chk (h : DataW.trod en Try.prog W base spare held n 26 cs = some y) : ∃ v : Chk, cs = encChk v ∧ v.Ok := by
  obtain ⟨hl, m, hf⟩ := trd_field Try.underlying26 h
  rw [cells_chk] at hl
  obtain ⟨a, b, c, rfl⟩ := l3 hl
  simp only [List.mem_cons, List.not_mem_nil, or_false, forall_eq_or_imp, forall_eq] at hf
  obtain ⟨⟨_, h0⟩, ⟨_, h1⟩⟩ := hf
  simp only [cells_int, cells_id, List.drop_zero, List.drop_succ_cons, List.take_succ_cons, List.take_zero] at h0 h1
  obtain ⟨x0, e0, k0⟩ := read_i64 h0
  obtain ⟨x1, e1, k1⟩ := read_id h1
  simp only [encID, List.cons.injEq, and_true] at e0 e1
  obtain ⟨rfl, rfl⟩ := e1
  subst e0
  exact ⟨⟨x0, x1⟩, rfl, k0, k1⟩
set_option maxRecDepth 100000 in
theorem read_lnk (h : DataW.trod en Try.prog W base spare held n 28 cs = some y) : ∃ v : Lnk, cs = encLnk v ∧ v.Ok := by
  obtain ⟨hl, m, hf⟩ := trd_field Try.underlying28 h
  rw [cells_lnk] at hl
  obtain ⟨a, b, c, d, e, f, g, rfl⟩ := l7 hl
  simp only [List.mem_cons, List.not_mem_nil, or_false, forall_eq_or_imp, forall_eq] at hf
  obtain ⟨⟨_, h0⟩, ⟨_, h1⟩, ⟨_, h2⟩⟩ := hf
  simp only [cells_int, cells_chk, List.drop_zero, List.drop_succ_cons, List.take_succ_cons, List.take_zero] at h0 h1 h2
  obtain ⟨x0, e0, k0⟩ := read_i64 h0
  obtain ⟨x1, e1, k1⟩ := read_chk h1
  obtain ⟨x2, e2, k2⟩ := read_chk h2
  simp only [encChk, List.cons.injEq, and_true] at e0 e1 e2
  obtain ⟨rfl, rfl, rfl⟩ := e1
  obtain ⟨rfl, rfl, rfl⟩ := e2
  subst e0
  exact ⟨⟨x0, x1, x2⟩, rfl, k0, k1, k2⟩
end
section
variable {H : Type} {en : TypeId × Value → H} {W : World} {held : Bool} {r : Reach} {b0 : Nat} {v : Value} {d : DataW H} {p : List MemPlace}
set_option maxRecDepth 100000 in
theorem open_lnk (hv : Value.okWide Try.prog W r b0 28 v) (h : DataW.Trod en Try.prog W 0 (fun _ => true) held 28 v d p) : ∃ x : Lnk, v = lnkv x ∧ x.Ok := by
  obtain ⟨cs, rfl, _⟩ := okWide_struct Try.underlying28 hv
  obtain ⟨fuel, hf⟩ := h
  obtain ⟨x, hx, k⟩ := read_lnk hf
  obtain ⟨l⟩ := cs
  simp only [Value.cells] at hx
  subst hx
  exact ⟨x, rfl, k⟩
set_option maxRecDepth 100000 in
theorem open_lnks (hv : Value.okWide Try.prog W r b0 29 v) (h : DataW.Trod en Try.prog W 0 (fun _ => true) held 29 v d p) :
    ∃ (A : Option Addr) (l : List Lnk) (k : Nat), v = .slice A l.length k ∧ l.length ≤ k ∧ k ≤ maxLen ∧ Rd 7 encLnk W A l ∧ (∀ b ∈ l, b.Ok) ∧ (A = none → k = 0) := by
  obtain ⟨A, len, cap, rfl⟩ := okWide_slice Try.underlying29 hv
  obtain ⟨fuel, hf⟩ := h
  obtain ⟨l, rfl, hc, hm, hR, hk⟩ := open_sl encLnk_len Try.underlying29 cells_lnk (by decide) (fun n cs y h => read_lnk h) hf
  exact ⟨A, l, cap, rfl, hc, hm, hR, hk, none_cap Try.underlying29 hf⟩
set_option maxRecDepth 100000 in
theorem open_intsN (hv : Value.okWide Try.prog W r b0 32 v) (h : DataW.Trod en Try.prog W 0 (fun _ => true) held 32 v d p) :
    ∃ (A : Option Addr) (l : List Int) (k : Nat), v = .slice A l.length k ∧ l.length ≤ k ∧ k ≤ maxLen ∧ Rd 1 encI W A l ∧ (∀ b ∈ l, I64 b) ∧ (A = none → k = 0) := by
  obtain ⟨A, len, cap, rfl⟩ := okWide_slice Try.underlying32 hv
  obtain ⟨fuel, hf⟩ := h
  obtain ⟨l, rfl, hc, hm, hR, hk⟩ := open_sl encI_len Try.underlying32 cells_int (by decide) (fun n cs y h => by obtain ⟨x, rfl, k⟩ := read_i64 h; exact ⟨x, rfl, k⟩) hf
  exact ⟨A, l, cap, rfl, hc, hm, hR, hk, none_cap Try.underlying32 hf⟩
theorem encID_len' (x : ID) : (encID x).length = 2 := rfl
set_option maxRecDepth 100000 in
theorem open_idsN (hv : Value.okWide Try.prog W r b0 36 v) (h : DataW.Trod en Try.prog W 0 (fun _ => true) held 36 v d p) :
    ∃ (A : Option Addr) (l : List ID) (k : Nat), v = .slice A l.length k ∧ l.length ≤ k ∧ k ≤ maxLen ∧ Rd 2 encID W A l ∧ (∀ b ∈ l, b.Ok) ∧ (A = none → k = 0) := by
  obtain ⟨A, len, cap, rfl⟩ := okWide_slice Try.underlying36 hv
  obtain ⟨fuel, hf⟩ := h
  obtain ⟨l, rfl, hc, hm, hR, hk⟩ := open_sl encID_len' Try.underlying36 cells_id (by decide) (fun n cs y h => read_id h) hf
  exact ⟨A, l, cap, rfl, hc, hm, hR, hk, none_cap Try.underlying36 hf⟩
end
end Go.Proofs.Ytigdbcfpamnkcaa
