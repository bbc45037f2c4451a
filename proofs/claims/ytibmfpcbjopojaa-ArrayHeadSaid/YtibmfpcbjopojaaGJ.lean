/- GJ: several texts in one. -/
import Derived.Test.YtibmfpcbjopojaaGA
import Derived.Test.YtibmfpcbjopojaaGC
import Derived.ProofKit
import Derived.OpenShut
import Derived.ShutString
import Derived.ChangeOld
import Derived.Below
import Derived.Deep.Slices
import Derived.Test.YtibmfpcbjopojaaGG
/-! Arguments read as data: a conf, blocks, votes, an ID. -/
namespace Go.Proofs.Ytibmfpcbjopojaa
open Go.RowKit Go.ChangeShapes Go.WideShapes Go.ChangeAt
theorem addr_add (b o j : Nat) : (⟨b, o, none⟩ : Addr).add j = ⟨b, o + j, none⟩ := by unfold Addr.add; split <;> simp_all
section
variable {H : Type} {en : TypeId × Value → H} {P : Program} {W : World} {base : Nat} {spare : Nat → Bool} {held : Bool}
theorem trd_field {t : TypeId} {fs : Array Field} {n : Nat} {cs : List Value} {x : DataW H × List MemPlace} (ht : P.underlying t = some (.struct fs)) (h : DataW.trod en P W base spare held n t cs = some x) :
    cs.length = P.cellsOf t ∧ ∃ m, ∀ f ∈ fs.toList, ∃ y, DataW.trod en P W base spare held m f.type ((cs.drop f.offset).take (P.cellsOf f.type)) = some y := by
  obtain ⟨xs, m, _, _, hl, hx, hf⟩ := DataW.trod_struct ht h
  refine ⟨hl, m, fun f hm => ?_⟩
  obtain ⟨i, hi⟩ := List.mem_iff_getElem?.1 hm
  have hi' : fs[i]? = some f := by simpa using hi
  have hlt : i < xs.length := by rw [hx]; exact (Array.getElem?_eq_some_iff.1 hi').1
  exact ⟨xs[i], (hf i f hi').trans (List.getElem?_eq_getElem hlt)⟩
set_option maxRecDepth 100000 in
theorem open_sl {α : Type} [Inhabited α] {t e : TypeId} {k : Nat} {enc : α → List Value} {ok : α → Prop} (hlen : ∀ x, (enc x).length = k) (ht : P.underlying t = some (.slice e)) (hk : P.cellsOf e = k) (hk0 : 0 < k)
    (hel : ∀ n cs y, DataW.trod en P W 0 (fun _ => true) held n e cs = some y → ∃ x, cs = enc x ∧ ok x) {n : Nat} {A : Option Addr} {len cap : Nat} {y : DataW H × List MemPlace} (h : DataW.trod en P W 0 (fun _ => true) held n t [.slice A len cap] = some y) :
    ∃ l : List α, len = l.length ∧ len ≤ cap ∧ cap ≤ maxLen ∧ Rd k enc W A l ∧ ∀ x ∈ l, ok x := by
  rcases Go.Deep.open_slice ht h with ⟨hcs, _⟩ | ⟨a, len', cap', m, n', D, Pl, hcs, _, hlc, hcm, hm, _, hall⟩
  · simp only [List.cons.injEq, Value.slice.injEq, and_true] at hcs
    obtain ⟨rfl, rfl, rfl⟩ := hcs
    exact ⟨[], rfl, Nat.le_refl _, by decide, Rd_nil _ _ _ _, by simp⟩
  · simp only [List.cons.injEq, Value.slice.injEq, and_true] at hcs
    obtain ⟨rfl, rfl, rfl⟩ := hcs
    have hm' : m = cap := by rw [hm]; simp
    subst hm'
    have hx : ∀ i, i < m → ∃ x : α, W.cells? 0 (a.add (i * k)) k = some (enc x) ∧ ok x := fun i hi => by
      obtain ⟨cs', h1, h2⟩ := hall i hi
      obtain ⟨x, rfl, hok⟩ := hel _ _ _ h2
      rw [hk] at h1
      exact ⟨x, h1, hok⟩
    obtain ⟨f, hf⟩ := Go.Deep.choose_lt hx
    refine ⟨(List.range len).map f, by simp, hlc, hcm, ⟨by
      have : maxLen ≤ 9223372036854775807 := by decide
      simp
      omega, fun hne => ?_⟩, ?_⟩
    · have hl0 : 0 < len := by
        rcases Nat.eq_zero_or_pos len with h0 | h0
        · subst h0; simp at hne
        · exact h0
      have hcell : ∀ i, i < m → ∀ j, j < k → W.cell? (a.add (i * k + j)) = (enc (f i))[j]? := fun i hi j hj => by
        have := (World.cells?_some (hf i hi).1).2.2 j hj
        rwa [Go.Deep.add_add] at this
      have hc0 := hcell 0 (by omega) 0 hk0
      obtain ⟨u, hu⟩ : ∃ u, (enc (f 0))[0]? = some u := ⟨_, List.getElem?_eq_getElem (by rw [hlen]; exact hk0)⟩
      rw [hu] at hc0
      have hsp := World.cell?_spot hc0
      obtain ⟨b, o, sp⟩ := a
      have hadd : ∀ j, (⟨b, o, none⟩ : Addr).add j = ⟨b, o + j, none⟩ := addr_add b o
      have hsp' : sp = none := by simpa [Addr.add] using hsp
      subst hsp'
      refine ⟨b, o, rfl, ?_, fun i x hi j v hv => ?_⟩
      · have := World.block_lt_of_cell? W _ hc0
        simpa [hadd] using this
      · rw [List.getElem?_map] at hi
        rw [Option.map_eq_some_iff] at hi
        obtain ⟨i', hi', rfl⟩ := hi
        have hi2 : i < len ∧ i = i' := by
          have := List.getElem?_eq_some_iff.1 hi'
          obtain ⟨h1, h2⟩ := this
          simp at h1 h2
          exact ⟨h1, h2⟩
        obtain ⟨hil, rfl⟩ := hi2
        have hj : j < k := by rw [← hlen (f i)]; exact (List.getElem?_eq_some_iff.1 hv).1
        have := hcell i (by omega) j hj
        rw [hadd, hv] at this
        rw [Nat.add_assoc]
        exact this
    · intro x hx
      obtain ⟨i, hi, rfl⟩ := List.mem_map.1 hx
      exact (hf i (by have := List.mem_range.1 hi; omega)).2
end
/-- An ID whose words fit. -/
def ID.Ok (x : ID) : Prop := U64 x.hi ∧ U64 x.lo
def I64 (x : Int) : Prop := -9223372036854775808 ≤ x ∧ x ≤ 9223372036854775807
def Vote.Ok (v : Vote) : Prop := I64 v.frm ∧ I64 v.slot ∧ v.head.Ok
theorem wfU {x : Int} (h : (Lit.int .u64 x).wf = true) : U64 x := by have := bounds_u64 h; exact this
theorem wfI {x : Int} (h : (Lit.int .i64 x).wf = true) : I64 x := by have := bounds_i64 h; exact this
theorem cells_int : Try.prog.cellsOf 3 = 1 := by kernel_rfl
theorem cells_u64 : Try.prog.cellsOf 23 = 1 := by kernel_rfl
theorem cells_id : Try.prog.cellsOf 29 = 2 := by kernel_rfl
theorem cells_blk : Try.prog.cellsOf 56 = 5 := by kernel_rfl
theorem cells_vote : Try.prog.cellsOf 37 = 4 := by kernel_rfl
theorem cells_conf : Try.prog.cellsOf 25 = 5 := by kernel_rfl
theorem cells_ints : Try.prog.cellsOf 22 = 1 := by kernel_rfl
theorem l2 {α : Type} {l : List α} (h : l.length = 2) : ∃ a b, l = [a, b] := by
  match l, h with
  | [a, b], _ => exact ⟨a, b, rfl⟩
theorem l4 {α : Type} {l : List α} (h : l.length = 4) : ∃ a b c d, l = [a, b, c, d] := by
  match l, h with
  | [a, b, c, d], _ => exact ⟨a, b, c, d, rfl⟩
theorem l5 {α : Type} {l : List α} (h : l.length = 5) : ∃ a b c d e, l = [a, b, c, d, e] := by
  match l, h with
  | [a, b, c, d, e], _ => exact ⟨a, b, c, d, e, rfl⟩
section
variable {H : Type} {en : TypeId × Value → H} {W : World} {base : Nat} {spare : Nat → Bool} {held : Bool} {n : Nat} {cs : List Value} {y : DataW H × List MemPlace}
theorem read_i64 (h : DataW.trod en Try.prog W base spare held n 3 cs = some y) : ∃ x, cs = [.int .i64 x] ∧ I64 x := by
  obtain ⟨x, rfl, _, hw⟩ := DataW.trod_int Try.underlying3 h
  exact ⟨x, rfl, wfI hw⟩
theorem read_u64 (h : DataW.trod en Try.prog W base spare held n 23 cs = some y) : ∃ x, cs = [.int .u64 x] ∧ U64 x := by
  obtain ⟨x, rfl, _, hw⟩ := DataW.trod_int Try.underlying23 h
  exact ⟨x, rfl, wfU hw⟩
set_option maxRecDepth 100000 in
theorem read_id (h : DataW.trod en Try.prog W base spare held n 29 cs = some y) : ∃ x : ID, cs = encID x ∧ x.Ok := by
  obtain ⟨xs, m, _, _, hl, hx, hf⟩ := DataW.trod_array Try.underlying29 h
  rw [cells_id] at hl
  obtain ⟨a, b, rfl⟩ := l2 hl
  have h0 := hf 0 (by decide)
  have h1 := hf 1 (by decide)
  rw [List.getElem?_eq_getElem (by omega)] at h0 h1
  simp only [cells_u64] at h0 h1
  obtain ⟨p, hp, kp⟩ := read_u64 h0
  obtain ⟨q, hq, kq⟩ := read_u64 h1
  simp only [Nat.zero_mul, Nat.one_mul, List.drop_zero, List.drop_succ_cons, List.take_succ_cons, List.take_zero, List.cons.injEq, and_true] at hp hq
  subst hp hq
  exact ⟨⟨p, q⟩, rfl, kp, kq⟩
theorem read_blk (h : DataW.trod en Try.prog W base spare held n 56 cs = some y) : ∃ b : Blk, cs = encBlk b ∧ b.Ok := by
  obtain ⟨hl, m, hf⟩ := trd_field Try.underlying56 h
  rw [cells_blk] at hl
  obtain ⟨a, b, c, d, e, rfl⟩ := l5 hl
  simp only [List.mem_cons, List.not_mem_nil, or_false, forall_eq_or_imp, forall_eq] at hf
  obtain ⟨⟨_, h0⟩, ⟨_, h1⟩, ⟨_, h2⟩, ⟨_, h3⟩⟩ := hf
  simp only [cells_int, cells_id, cells_u64, List.drop_zero, List.drop_succ_cons, List.take_succ_cons, List.take_zero] at h0 h1 h2 h3
  obtain ⟨x0, e0, k0⟩ := read_i64 h0
  obtain ⟨x1, e1, k1⟩ := read_i64 h1
  obtain ⟨x2, e2, k2⟩ := read_id h2
  obtain ⟨x3, e3, k3⟩ := read_u64 h3
  simp only [encID, List.cons.injEq, and_true] at e0 e1 e2 e3
  obtain ⟨rfl, rfl⟩ := e2
  subst e0 e1 e3
  exact ⟨⟨x0, x1, x2, x3⟩, rfl, ⟨k0, k1, k2.1, k2.2, k3⟩⟩
theorem read_vote (h : DataW.trod en Try.prog W base spare held n 37 cs = some y) : ∃ v : Vote, cs = encVote v ∧ v.Ok := by
  obtain ⟨hl, m, hf⟩ := trd_field Try.underlying37 h
  rw [cells_vote] at hl
  obtain ⟨a, b, c, d, rfl⟩ := l4 hl
  simp only [List.mem_cons, List.not_mem_nil, or_false, forall_eq_or_imp, forall_eq] at hf
  obtain ⟨⟨_, h0⟩, ⟨_, h1⟩, ⟨_, h2⟩⟩ := hf
  simp only [cells_int, cells_id, List.drop_zero, List.drop_succ_cons, List.take_succ_cons, List.take_zero] at h0 h1 h2
  obtain ⟨x0, e0, k0⟩ := read_i64 h0
  obtain ⟨x1, e1, k1⟩ := read_i64 h1
  obtain ⟨x2, e2, k2⟩ := read_id h2
  simp only [encID, List.cons.injEq, and_true] at e0 e1 e2
  obtain ⟨rfl, rfl⟩ := e2
  subst e0 e1
  exact ⟨⟨x0, x1, x2⟩, rfl, k0, k1, k2⟩
end
instance instInhIDr : Inhabited ID := ⟨⟨0, 0⟩⟩
instance : Inhabited Blk := ⟨⟨0, 0, default, 0⟩⟩
instance : Inhabited Vote := ⟨⟨0, 0, default⟩⟩
section
variable {H : Type} {en : TypeId × Value → H} {W : World} {held : Bool} {r : Reach} {b0 : Nat} {v : Value} {d : DataW H} {p : List MemPlace}
/-- What a conf that is handed in holds. -/
def Cfg.Ok (c : Cfg) : Prop := U64 c.seed ∧ I64 c.epoch ∧ I64 c.num ∧ I64 c.den ∧ ∀ x ∈ c.W, I64 x
set_option maxRecDepth 100000 in
theorem open_ints1 {n : Nat} {A : Option Addr} {len cap : Nat} {y : DataW H × List MemPlace} (h : DataW.trod en Try.prog W 0 (fun _ => true) held n 22 [.slice A len cap] = some y) :
    ∃ l : List Int, len = l.length ∧ len ≤ cap ∧ cap ≤ maxLen ∧ Rd 1 encI W A l ∧ ∀ x ∈ l, I64 x :=
  open_sl encI_len Try.underlying22 cells_int (by decide) (fun n cs y h => by obtain ⟨x, rfl, k⟩ := read_i64 h; exact ⟨x, rfl, k⟩) h
set_option maxRecDepth 100000 in
theorem open_conf (hv : Value.okWide Try.prog W r b0 25 v) (h : DataW.Trod en Try.prog W 0 (fun _ => true) held 25 v d p) :
    ∃ (A : Option Addr) (c : Cfg) (k : Nat), v = cfgv A k c ∧ c.W.length ≤ k ∧ k ≤ maxLen ∧ Rd 1 encI W A c.W ∧ c.Ok := by
  obtain ⟨cs, rfl, hsz⟩ := okWide_struct Try.underlying25 hv
  obtain ⟨fuel, hf⟩ := h
  obtain ⟨hl, m, hf⟩ := trd_field Try.underlying25 hf
  simp only [Value.cells] at hl hf
  obtain ⟨l⟩ := cs
  simp only at hl hf
  rw [cells_conf] at hl
  obtain ⟨a, b, c, d, e, rfl⟩ := l5 hl
  simp only [List.mem_cons, List.not_mem_nil, or_false, forall_eq_or_imp, forall_eq] at hf
  obtain ⟨⟨_, h0⟩, ⟨_, h1⟩, ⟨_, h2⟩, ⟨_, h3⟩, ⟨_, h4⟩⟩ := hf
  simp only [cells_int, cells_ints, cells_u64, List.drop_zero, List.drop_succ_cons, List.take_succ_cons, List.take_zero] at h0 h1 h2 h3 h4
  obtain ⟨x1, e1, k1⟩ := read_u64 h1
  obtain ⟨x2, e2, k2⟩ := read_i64 h2
  obtain ⟨x3, e3, k3⟩ := read_i64 h3
  obtain ⟨x4, e4, k4⟩ := read_i64 h4
  simp only [List.cons.injEq, and_true] at e1 e2 e3 e4
  subst e1 e2 e3 e4
  have hsl : ∃ A len cap, a = Value.slice A len cap := by
    rcases DataW.trod_slice Try.underlying22 h0 with ⟨hc, _⟩ | ⟨a', len, cap, _, _, _, _, hc, _⟩
    · simp only [List.cons.injEq, and_true] at hc; exact ⟨_, _, _, hc⟩
    · simp only [List.cons.injEq, and_true] at hc; exact ⟨_, _, _, hc⟩
  obtain ⟨A, len, cap, rfl⟩ := hsl
  obtain ⟨l, rfl, hc, hm, hR, hk⟩ := open_ints1 h0
  exact ⟨A, ⟨l, x1, x2, x3, x4⟩, cap, rfl, hc, hm, hR, k1, k2, k3, k4, hk⟩
set_option maxRecDepth 100000 in
theorem open_blks (hv : Value.okWide Try.prog W r b0 26 v) (h : DataW.Trod en Try.prog W 0 (fun _ => true) held 26 v d p) :
    ∃ (A : Option Addr) (l : List Blk) (k : Nat), v = .slice A l.length k ∧ l.length ≤ k ∧ k ≤ maxLen ∧ Rd 5 encBlk W A l ∧ ∀ b ∈ l, b.Ok := by
  obtain ⟨A, len, cap, rfl⟩ := okWide_slice Try.underlying26 hv
  obtain ⟨fuel, hf⟩ := h
  obtain ⟨l, rfl, hc, hm, hR, hk⟩ := open_sl encBlk_len Try.underlying26 cells_blk (by decide) (fun n cs y h => read_blk h) hf
  exact ⟨A, l, cap, rfl, hc, hm, hR, hk⟩
set_option maxRecDepth 100000 in
theorem open_votes (hv : Value.okWide Try.prog W r b0 27 v) (h : DataW.Trod en Try.prog W 0 (fun _ => true) held 27 v d p) :
    ∃ (A : Option Addr) (l : List Vote) (k : Nat), v = .slice A l.length k ∧ l.length ≤ k ∧ k ≤ maxLen ∧ Rd 4 encVote W A l ∧ ∀ b ∈ l, b.Ok := by
  obtain ⟨A, len, cap, rfl⟩ := okWide_slice Try.underlying27 hv
  obtain ⟨fuel, hf⟩ := h
  obtain ⟨l, rfl, hc, hm, hR, hk⟩ := open_sl encVote_len Try.underlying27 cells_vote (by decide) (fun n cs y h => read_vote h) hf
  exact ⟨A, l, cap, rfl, hc, hm, hR, hk⟩
set_option maxRecDepth 100000 in
theorem open_id (hv : Value.okWide Try.prog W r b0 29 v) (h : DataW.Trod en Try.prog W 0 (fun _ => true) held 29 v d p) : ∃ x : ID, v = idv x ∧ x.Ok := by
  have hv' := hv
  obtain ⟨cs, rfl⟩ : ∃ cs, v = .agg cs := by
    have ht := Try.underlying29
    simp only [Value.okWide, ht] at hv'
    obtain ⟨cs, h1, _⟩ := hv'
    exact ⟨cs, h1⟩
  obtain ⟨fuel, hf⟩ := h
  obtain ⟨x, hx, k⟩ := read_id hf
  obtain ⟨l⟩ := cs
  simp only [Value.cells] at hx
  subst hx
  exact ⟨x, rfl, k⟩
end
end Go.Proofs.Ytibmfpcbjopojaa
/-! More arguments read as data: a whole number, a vote, a block; a nil slice has no room. -/
namespace Go.Proofs.Ytibmfpcbjopojaa
open Go.RowKit Go.ChangeShapes Go.WideShapes Go.ChangeAt
section
variable {H : Type} {en : TypeId × Value → H} {W : World} {held : Bool} {r : Reach} {b0 : Nat} {v : Value} {d : DataW H} {p : List MemPlace}
theorem none_cap {P : Program} {t e : TypeId} {n len cap : Nat} {A : Option Addr} {y : DataW H × List MemPlace} (ht : P.underlying t = some (.slice e)) (h : DataW.trod en P W 0 (fun _ => true) held n t [.slice A len cap] = some y) : A = none → cap = 0 := by
  intro e
  subst e
  rcases DataW.trod_slice ht h with ⟨hc, _⟩ | ⟨a', len, cap, _, _, _, _, hc, _⟩
  · simp only [List.cons.injEq, Value.slice.injEq, and_true] at hc
    exact hc.2.2
  · simp at hc
set_option maxRecDepth 100000 in
theorem open_blksN (hv : Value.okWide Try.prog W r b0 26 v) (h : DataW.Trod en Try.prog W 0 (fun _ => true) held 26 v d p) :
    ∃ (A : Option Addr) (l : List Blk) (k : Nat), v = .slice A l.length k ∧ l.length ≤ k ∧ k ≤ maxLen ∧ Rd 5 encBlk W A l ∧ (∀ b ∈ l, b.Ok) ∧ (A = none → k = 0) := by
  obtain ⟨A, l, k, rfl, h1, h2, h3, h4⟩ := open_blks hv h
  obtain ⟨fuel, hf⟩ := h
  exact ⟨A, l, k, rfl, h1, h2, h3, h4, none_cap Try.underlying26 hf⟩
set_option maxRecDepth 100000 in
theorem open_votesN (hv : Value.okWide Try.prog W r b0 27 v) (h : DataW.Trod en Try.prog W 0 (fun _ => true) held 27 v d p) :
    ∃ (A : Option Addr) (l : List Vote) (k : Nat), v = .slice A l.length k ∧ l.length ≤ k ∧ k ≤ maxLen ∧ Rd 4 encVote W A l ∧ (∀ b ∈ l, b.Ok) ∧ (A = none → k = 0) := by
  obtain ⟨A, l, k, rfl, h1, h2, h3, h4⟩ := open_votes hv h
  obtain ⟨fuel, hf⟩ := h
  exact ⟨A, l, k, rfl, h1, h2, h3, h4, none_cap Try.underlying27 hf⟩
set_option maxRecDepth 100000 in
theorem open_i (hv : Value.okWide Try.prog W r b0 3 v) (h : DataW.Trod en Try.prog W 0 (fun _ => true) held 3 v d p) : ∃ x : Int, v = .int .i64 x ∧ I64 x := by
  obtain ⟨x, rfl, _, _, w⟩ := open_int Try.underlying3 hv h
  exact ⟨x, rfl, wfI w⟩
set_option maxRecDepth 100000 in
theorem open_vote (hv : Value.okWide Try.prog W r b0 37 v) (h : DataW.Trod en Try.prog W 0 (fun _ => true) held 37 v d p) : ∃ x : Vote, v = votev x ∧ x.Ok := by
  obtain ⟨cs, rfl, _⟩ := okWide_struct Try.underlying37 hv
  obtain ⟨fuel, hf⟩ := h
  obtain ⟨x, hx, k⟩ := read_vote hf
  obtain ⟨l⟩ := cs
  simp only [Value.cells] at hx
  subst hx
  exact ⟨x, rfl, k⟩
def blkv (b : Blk) : Value := .agg #[.int .i64 b.slot, .int .i64 b.frm, .int .u64 b.par.hi, .int .u64 b.par.lo, .int .u64 b.salt]
set_option maxRecDepth 100000 in
theorem open_block (hv : Value.okWide Try.prog W r b0 56 v) (h : DataW.Trod en Try.prog W 0 (fun _ => true) held 56 v d p) : ∃ x : Blk, v = blkv x ∧ x.Ok := by
  obtain ⟨cs, rfl, _⟩ := okWide_struct Try.underlying56 hv
  obtain ⟨fuel, hf⟩ := h
  obtain ⟨x, hx, k⟩ := read_blk hf
  obtain ⟨l⟩ := cs
  simp only [Value.cells] at hx
  subst hx
  exact ⟨x, rfl, k⟩
end
end Go.Proofs.Ytibmfpcbjopojaa
/-! marigoldlaw09.Few, walked. -/
namespace Go.Proofs.Ytibmfpcbjopojaa
open Go.RowKit
set_option maxRecDepth 100000 in
set_option maxHeartbeats 1000000 in
theorem fewN_any (c : Cfg) (nl nv : Nat) (A A2 A3 : Option Addr) (k k2 k3 : Nat) (w : World) (h1 : c.W.length ≤ 9223372036854775807) (h2 : nl ≤ 9223372036854775807) (h3 : nv ≤ 9223372036854775807) :
    Calls Try.prog 12 #[cfgv A k c, .slice A2 nl k2, .slice A3 nv k3] w fun e w' => e = .returned (.bool (decide (c.W.length ≤ 40 ∧ nl ≤ 20 ∧ nv ≤ 30))) ∧ Below w.heap.size w w' := by
  unfold cfgv
  have hW : ∃ W, w.alloc (.cells #[.slice A c.W.length k, .int .u64 c.seed, .int .i64 c.epoch, .int .i64 c.num, .int .i64 c.den] 25) = W := ⟨_, rfl⟩
  obtain ⟨W, hW⟩ := hW
  have hB : Below w.heap.size w W := by subst hW; exact (Below.refl _ w).alloc (Nat.le_refl _) _
  have hb : W.heap[w.heap.size]? = some (.cells #[.slice A c.W.length k, .int .u64 c.seed, .int .i64 c.epoch, .int .i64 c.num, .int .i64 c.den] 25 (0, 0)) := by subst hW; exact ha_at rfl
  have c0 := blk_cell hb 0
  obtain ⟨n, hn⟩ : ∃ n, c.W.length = n := ⟨_, rfl⟩
  rw [hn] at c0 h1 ⊢
  rw [hn] at hW
  clear hn hb
  go_enter Try.func12, Try.ntmps12
  go_wp2_with fail
  all_goals
    go_ret
    refine ⟨ret_bool ?_, hB⟩
    rw [Bool.eq_iff_iff]
    simp only [Bool.and_eq_true, decide_eq_true_eq, Bool.false_eq_true, false_iff]
    omega
end Go.Proofs.Ytibmfpcbjopojaa
/-! marigoldlaw13.awake: the chapter's example, walked. -/
namespace Go.Proofs.Ytibmfpcbjopojaa
open Go.RowKit
def a13 : Blk := ⟨1, 0, zid, 0⟩
def b13 : Blk := ⟨1, 0, zid, 1⟩
def c13 : Cfg := ⟨[1, 19], 0, 1, 0, 4⟩
def v13 : List Vote := [⟨0, 1, nameOf a13⟩]
theorem q13_b : boostC c13 50 = 10 := by kernel_rfl
theorem q13_w : lmdW c13 [a13, b13] (lastL v13 1) (nameOf b13) 50 (nameOf b13) = 10 := by kernel_rfl
theorem q13_t : Tree [a13, b13] := by
  rcases plc_tree [a13, b13] with ⟨_, h⟩ | ⟨h, _⟩
  · exact h
  · have : (plc [a13, b13]).isSome = true := by kernel_rfl
    rw [h] at this
    cases this
theorem q13_k0 : kids [a13, b13] zid = [nameOf a13, nameOf b13] := by
  have : kidsOf [a13, b13] zid = [nameOf a13, nameOf b13] := by kernel_rfl
  rw [← this]
  simp [kids, q13_t]
theorem q13_ka : kids [a13, b13] (nameOf a13) = [] := by
  have : kidsOf [a13, b13] (nameOf a13) = [] := by kernel_rfl
  rw [← this]
  simp [kids, q13_t]
theorem q13_kb : kids [a13, b13] (nameOf b13) = [] := by
  have : kidsOf [a13, b13] (nameOf b13) = [] := by kernel_rfl
  rw [← this]
  simp [kids, q13_t]
theorem q13_hb : lmdHead c13 [a13, b13] (lastL v13 1) (nameOf b13) 50 = nameOf b13 := by
  unfold lmdHead headBy
  have hb : beats (lmdW c13 [a13, b13] (lastL v13 1) (nameOf b13) 50) (nameOf a13) (nameOf b13) = true := by kernel_rfl
  show headGo [a13, b13] _ (1 + 1) zid = _
  rw [headGo_cons q13_k0]
  simp only [List.foldl_cons, List.foldl_nil]
  unfold pick
  rw [if_pos hb, headGo_nil q13_kb]
theorem q13_ha : lmdHead c13 [a13, b13] (lastL v13 1) zid 50 = nameOf a13 := by
  unfold lmdHead headBy
  have hb : beats (lmdW c13 [a13, b13] (lastL v13 1) zid 50) (nameOf a13) (nameOf b13) = false := by kernel_rfl
  show headGo [a13, b13] _ (1 + 1) zid = _
  rw [headGo_cons q13_k0]
  simp only [List.foldl_cons, List.foldl_nil]
  unfold pick
  rw [if_neg (by rw [hb]; simp), headGo_nil q13_ka]
/-- What the example's blocks hold when its slices lie. -/
structure Aw13At (w V : World) (na : ID) (Bl Bv : Nat) : Prop where
  hB : Below w.heap.size w V
  hw : V.heap[w.heap.size]? = some (.cells #[.int .i64 1, .int .i64 19] 3 (0, 0))
  hc : V.heap[w.heap.size + 1]? = some (.cells #[.slice (some ⟨w.heap.size, 0, none⟩) 2 2, .int .u64 0, .int .i64 1, .int .i64 0, .int .i64 4] 25 (0, 0))
  ha : V.heap[w.heap.size + 1 + 1]? = some (.cells #[.int .i64 1, .int .i64 0, .int .u64 0, .int .u64 0, .int .u64 0] 56 (0, 0))
  hb : V.heap[w.heap.size + 1 + 1 + 1]? = some (.cells #[.int .i64 1, .int .i64 0, .int .u64 0, .int .u64 0, .int .u64 1] 56 (0, 0))
  hl : V.heap[Bl]? = some (.cells #[.int .i64 1, .int .i64 0, .int .u64 0, .int .u64 0, .int .u64 0, .int .i64 1, .int .i64 0, .int .u64 0, .int .u64 0, .int .u64 1] 56 (0, 0))
  hv : V.heap[Bv]? = some (.cells #[.int .i64 0, .int .i64 1, .int .u64 na.hi, .int .u64 na.lo] 37 (0, 0))
theorem Aw13At.own {w V V' : World} {na : ID} {Bl Bv : Nat} (h : Aw13At w V na Bl Bv) (hV : Below V.heap.size V V') : Aw13At w V' na Bl Bv :=
  ⟨below_call h.hB h.hB.size hV, bl_own hV h.hw, bl_own hV h.hc, bl_own hV h.ha, bl_own hV h.hb, bl_own hV h.hl, bl_own hV h.hv⟩
theorem Aw13At.r1 {w V : World} {na : ID} {Bl Bv : Nat} (h : Aw13At w V na Bl Bv) : Rd 1 encI V (some ⟨w.heap.size, 0, none⟩) [1, 19] := Rd_flat encI_len (by simp) h.hw rfl
theorem Aw13At.r2 {w V : World} {na : ID} {Bl Bv : Nat} (h : Aw13At w V na Bl Bv) : Rd 5 encBlk V (some ⟨Bl, 0, none⟩) [⟨1, 0, ⟨0, 0⟩, 0⟩, ⟨1, 0, ⟨0, 0⟩, 1⟩] := Rd_flat encBlk_len (by simp) h.hl rfl
theorem Aw13At.r3 {w V : World} {na : ID} {Bl Bv : Nat} (h : Aw13At w V na Bl Bv) : Rd 4 encVote V (some ⟨Bv, 0, none⟩) [⟨0, 1, na⟩] := Rd_flat encVote_len (by simp) h.hv rfl
set_option maxRecDepth 100000 in
set_option maxHeartbeats 8000000 in
theorem awake13_any (w : World) : Calls Try.prog 11 #[] w fun e w' => e = .returned (.bool true) ∧ Below w.heap.size w w' := by
  have q1 := q13_b
  have q2 := q13_hb
  have q3 := q13_ha
  have q4 := q13_w
  have hna := fun V => name_any a13 V
  have hnb := fun V => name_any b13 V
  unfold v13 at q2 q3 q4
  obtain ⟨na, hnae⟩ : ∃ na, nameOf a13 = na := ⟨_, rfl⟩
  obtain ⟨nb, hnbe⟩ : ∃ nb, nameOf b13 = nb := ⟨_, rfl⟩
  rw [hnae] at hna q2 q3 q4
  rw [hnbe] at hnb q2 q4
  clear hnae hnbe
  unfold a13 b13 c13 zid at *
  unfold idv at hna hnb
  dsimp only at hna hnb
  have heb := eql_idw nb nb
  have hea := eql_idw na na
  rw [decide_eq_true (rfl : nb = nb)] at heb
  rw [decide_eq_true (rfl : na = na)] at hea
  have q1' := Lib.hid q1
  have q2' := Lib.hid q2
  have q3' := Lib.hid q3
  have q4' := Lib.hid q4
  clear q1 q2 q3 q4
  go_enter Try.func11, Try.ntmps11
  go_wp2_with fail
  have hW : ∃ W, ((((w.alloc (.cells #[.int .i64 1, .int .i64 19] 3)).alloc (.cells #[.slice (some ⟨w.heap.size, 0, none⟩) 2 2, .int .u64 0, .int .i64 1, .int .i64 0, .int .i64 4] 25)).alloc (.cells #[.int .i64 1, .int .i64 0, .int .u64 0, .int .u64 0, .int .u64 0] 56)).alloc (.cells #[.int .i64 1, .int .i64 0, .int .u64 0, .int .u64 0, .int .u64 1] 56)).alloc (.cells #[.int .i64 1, .int .i64 0, .int .u64 0, .int .u64 0, .int .u64 0, .int .i64 1, .int .i64 0, .int .u64 0, .int .u64 0, .int .u64 1] 56) = W := ⟨_, rfl⟩
  obtain ⟨W, hW⟩ := hW
  have hB : Below w.heap.size w W := by subst hW; exact (((((Below.refl _ w).alloc (Nat.le_refl _) _).alloc (by simp) _).alloc (by simp <;> omega) _).alloc (by simp <;> omega) _).alloc (by simp <;> omega) _
  have b0 : W.heap[w.heap.size]? = some (.cells #[.int .i64 1, .int .i64 19] 3 (0, 0)) := by subst hW; exact ha_lt (ha_lt (ha_lt (ha_lt (ha_at rfl))))
  have b1 : W.heap[w.heap.size + 1]? = some (.cells #[.slice (some ⟨w.heap.size, 0, none⟩) 2 2, .int .u64 0, .int .i64 1, .int .i64 0, .int .i64 4] 25 (0, 0)) := by subst hW; exact ha_lt (ha_lt (ha_lt (ha_at (by simp))))
  have b2 : W.heap[w.heap.size + 1 + 1]? = some (.cells #[.int .i64 1, .int .i64 0, .int .u64 0, .int .u64 0, .int .u64 0] 56 (0, 0)) := by subst hW; exact ha_lt (ha_lt (ha_at (by simp)))
  have b3 : W.heap[w.heap.size + 1 + 1 + 1]? = some (.cells #[.int .i64 1, .int .i64 0, .int .u64 0, .int .u64 0, .int .u64 1] 56 (0, 0)) := by subst hW; exact ha_lt (ha_at (by simp))
  have b4 : W.heap[w.heap.size + 1 + 1 + 1 + 1]? = some (.cells #[.int .i64 1, .int .i64 0, .int .u64 0, .int .u64 0, .int .u64 0, .int .i64 1, .int .i64 0, .int .u64 0, .int .u64 0, .int .u64 1] 56 (0, 0)) := by subst hW; exact ha_at (by simp)
  rw [hW]
  clear hW
  refine (hna _).mono ?_
  rintro e w1 ⟨rfl, hb1⟩
  have hAw : Aw13At w (w1.alloc (.cells #[.int .i64 0, .int .i64 1, .int .u64 na.hi, .int .u64 na.lo] 37)) na (w.heap.size + 1 + 1 + 1 + 1) w1.heap.size :=
    ⟨(below_call hB hB.size hb1).alloc (Nat.le_trans hB.size hb1.size) _, ha_lt (bl_own hb1 b0), ha_lt (bl_own hb1 b1), ha_lt (bl_own hb1 b2), ha_lt (bl_own hb1 b3), ha_lt (bl_own hb1 b4), ha_at rfl⟩
  have hna' := Lib.hid hna
  have hnb' := Lib.hid hnb
  clear hna hnb b0 b1 b2 b3 b4 hb1 hB
  go_wp2_with fail
  obtain ⟨V, hV⟩ : ∃ V, w1.alloc (.cells #[.int .i64 0, .int .i64 1, .int .u64 na.hi, .int .u64 na.lo] 37) = V := ⟨_, rfl⟩
  rw [hV] at hAw ⊢
  clear hV
  have hbo := fun p => boost_any ⟨[1, 19], 0, 1, 0, 4⟩ 50 (some ⟨w.heap.size, 0, none⟩) 2 (gr V p) (hAw.own (gr_below V p)).r1
  have hh := fun bo p => lhead_any ⟨[1, 19], 0, 1, 0, 4⟩ [⟨1, 0, ⟨0, 0⟩, 0⟩, ⟨1, 0, ⟨0, 0⟩, 1⟩] [⟨0, 1, na⟩] 1 bo 50 (some ⟨w.heap.size, 0, none⟩) (some ⟨w.heap.size + 1 + 1 + 1 + 1, 0, none⟩) (some ⟨w1.heap.size, 0, none⟩) 2 2 1 (gr V p) (hAw.own (gr_below V p)).r1 (hAw.own (gr_below V p)).r2 (hAw.own (gr_below V p)).r3 (by simp) (by simp)
  have hon := fun p => lon_any ⟨[1, 19], 0, 1, 0, 4⟩ [⟨1, 0, ⟨0, 0⟩, 0⟩, ⟨1, 0, ⟨0, 0⟩, 1⟩] [⟨0, 1, na⟩] 1 nb 50 nb (some ⟨w.heap.size, 0, none⟩) (some ⟨w.heap.size + 1 + 1 + 1 + 1, 0, none⟩) (some ⟨w1.heap.size, 0, none⟩) 2 2 1 (gr V p) (hAw.own (gr_below V p)).r1 (hAw.own (gr_below V p)).r2 (hAw.own (gr_below V p)).r3 (by simp) (by simp)
  have hh1 := hh nb
  have hh2 := hh ⟨0, 0⟩
  clear hh
  simp only [q1'.out] at hbo
  simp only [q2'.out] at hh1
  simp only [q3'.out] at hh2
  simp only [q4'.out] at hon
  unfold cfgv idv at *
  dsimp only [List.length_cons, List.length_nil] at hbo hh1 hh2 hon
  obtain ⟨c0, c1, c2, c3, c4⟩ := blk5 hAw.ha
  obtain ⟨c5, c6, c7, c8, c9⟩ := blk5 hAw.hb
  obtain ⟨c10, c11, c12, c13, c14⟩ := blk5 hAw.hc
  have g0 := gr_cell c0
  have g1 := gr_cell c1
  have g2 := gr_cell c2
  have g3 := gr_cell c3
  have g4 := gr_cell c4
  have g5 := gr_cell c5
  have g6 := gr_cell c6
  have g7 := gr_cell c7
  have g8 := gr_cell c8
  have g9 := gr_cell c9
  have g10 := gr_cell c10
  have g11 := gr_cell c11
  have g12 := gr_cell c12
  have g13 := gr_cell c13
  have g14 := gr_cell c14
  clear c0 c1 c2 c3 c4 c5 c6 c7 c8 c9 c10 c11 c12 c13 c14
  have hBV := hAw.hB
  clear hAw
  have ha' := hna'.out
  have hb' := hnb'.out
  refine wp_region_gr (by kernel_rfl) (by kernel_rfl) ?_
  repeat (go_big_quiet_step ((first
    | (go_at_call 31; with_reducible exact Calls.gr_of (ha' _))
    | (go_at_call 31; with_reducible exact Calls.gr_of (hb' _))
    | (go_at_call 15; with_reducible exact Calls.gr_of (hbo _))
    | (go_at_call 18; with_reducible exact Calls.gr_of (hh1 _))
    | (go_at_call 18; with_reducible exact Calls.gr_of (hh2 _))
    | (go_at_call 17; with_reducible exact Calls.gr_of (hon _)))))
  refine wpQuiet_nil ?_
  rintro _ ⟨pq, rfl⟩
  go_wp2
  go_ret
  exact ⟨rfl, hBV.trans ((gr_below V pq).mono hBV.size)⟩
end Go.Proofs.Ytibmfpcbjopojaa
