/- GJ: several texts in one. -/
import Derived.Test.YtaohkcdfjjiggaaGreatGA
import Derived.Test.YtaohkcdfjjiggaaGreatGC
import Derived.ProofKit
import Derived.OpenShut
import Derived.ShutString
import Derived.ChangeOld
import Derived.Below
import Derived.Deep.Slices
/-! Arguments read as data: a conf, blocks, votes, an ID. -/
namespace Go.Proofs.YtaohkcdfjjiggaaGreat
open Go.RowKit Go.ChangeShapes Go.WideShapes Go.ChangeAt
theorem addr_add (b o j : Nat) : (⟨b, o, none⟩ : Addr).add j = ⟨b, o + j, none⟩ := by unfold Addr.add; split <;> simp_all
section
variable {H : Type} {en : TypeId × Value → H} {P : Program} {W : World} {base : Nat} {spare : Nat → Bool} {held : Bool}
theorem trd_field {t : TypeId} {fs : Array Field} {n : Nat} {cs : List Value} {x : DataW H × List MemPlace} (ht : P.underlying t = some (.struct fs)) (h : DataW.trod en P W base spare held n t cs = some x) :
    cs.length = P.cellsOf t ∧ ∃ m, ∀ f ∈ fs.toList, ∃ y, DataW.trod en P W base spare held m f.type ((cs.drop f.offset).take (P.cellsOf f.type)) = some y := by
  obtain ⟨xs, m, _, _, hl, hx, hf⟩ := DataW.trod_struct ht h
  refine ⟨hl, m, fun f hm => ?_⟩
  obtain ⟨i, hi⟩ := List.mem_iff_getElem?.1 hm
  have hi' : fs[i]? = some f := by simpa using hi
  have hlt : i < xs.length := by rw [hx]; exact (Array.getElem?_eq_some_iff.1 hi').1
  exact ⟨xs[i], (hf i f hi').trans (List.getElem?_eq_getElem hlt)⟩
set_option maxRecDepth 100000 in
theorem open_sl {α : Type} [Inhabited α] {t e : TypeId} {k : Nat} {enc : α → List Value} {ok : α → Prop} (hlen : ∀ x, (enc x).length = k) (ht : P.underlying t = some (.slice e)) (hk : P.cellsOf e = k) (hk0 : 0 < k)
    (hel : ∀ n cs y, DataW.trod en P W 0 (fun _ => true) held n e cs = some y → ∃ x, cs = enc x ∧ ok x) {n : Nat} {A : Option Addr} {len cap : Nat} {y : DataW H × List MemPlace} (h : DataW.trod en P W 0 (fun _ => true) held n t [.slice A len cap] = some y) :
    ∃ l : List α, len = l.length ∧ len ≤ cap ∧ cap ≤ maxLen ∧ Rd k enc W A l ∧ ∀ x ∈ l, ok x := by
  rcases Go.Deep.open_slice ht h with ⟨hcs, _⟩ | ⟨a, len', cap', m, n', D, Pl, hcs, _, hlc, hcm, hm, _, hall⟩
  · simp only [List.cons.injEq, Value.slice.injEq, and_true] at hcs
    obtain ⟨rfl, rfl, rfl⟩ := hcs
    exact ⟨[], rfl, Nat.le_refl _, by decide, Rd_nil _ _ _ _, by simp⟩
  · simp only [List.cons.injEq, Value.slice.injEq, and_true] at hcs
    obtain ⟨rfl, rfl, rfl⟩ := hcs
    have hm' : m = cap := by rw [hm]; simp
    subst hm'
    have hx : ∀ i, i < m → ∃ x : α, W.cells? 0 (a.add (i * k)) k = some (enc x) ∧ ok x := fun i hi => by
      obtain ⟨cs', h1, h2⟩ := hall i hi
      obtain ⟨x, rfl, hok⟩ := hel _ _ _ h2
      rw [hk] at h1
      exact ⟨x, h1, hok⟩
    obtain ⟨f, hf⟩ := Go.Deep.choose_lt hx
    refine ⟨(List.range len).map f, by simp, hlc, hcm, ⟨by
      have : maxLen ≤ 9223372036854775807 := by decide
      simp
      omega, fun hne => ?_⟩, ?_⟩
    · have hl0 : 0 < len := by
        rcases Nat.eq_zero_or_pos len with h0 | h0
        · subst h0; simp at hne
        · exact h0
      have hcell : ∀ i, i < m → ∀ j, j < k → W.cell? (a.add (i * k + j)) = (enc (f i))[j]? := fun i hi j hj => by
        have := (World.cells?_some (hf i hi).1).2.2 j hj
        rwa [Go.Deep.add_add] at this
      have hc0 := hcell 0 (by omega) 0 hk0
      obtain ⟨u, hu⟩ : ∃ u, (enc (f 0))[0]? = some u := ⟨_, List.getElem?_eq_getElem (by rw [hlen]; exact hk0)⟩
      rw [hu] at hc0
      have hsp := World.cell?_spot hc0
      obtain ⟨b, o, sp⟩ := a
      have hadd : ∀ j, (⟨b, o, none⟩ : Addr).add j = ⟨b, o + j, none⟩ := addr_add b o
      have hsp' : sp = none := by simpa [Addr.add] using hsp
      subst hsp'
      refine ⟨b, o, rfl, ?_, fun i x hi j v hv => ?_⟩
      · have := World.block_lt_of_cell? W _ hc0
        simpa [hadd] using this
      · rw [List.getElem?_map] at hi
        rw [Option.map_eq_some_iff] at hi
        obtain ⟨i', hi', rfl⟩ := hi
        have hi2 : i < len ∧ i = i' := by
          have := List.getElem?_eq_some_iff.1 hi'
          obtain ⟨h1, h2⟩ := this
          simp at h1 h2
          exact ⟨h1, h2⟩
        obtain ⟨hil, rfl⟩ := hi2
        have hj : j < k := by rw [← hlen (f i)]; exact (List.getElem?_eq_some_iff.1 hv).1
        have := hcell i (by omega) j hj
        rw [hadd, hv] at this
        rw [Nat.add_assoc]
        exact this
    · intro x hx
      obtain ⟨i, hi, rfl⟩ := List.mem_map.1 hx
      exact (hf i (by have := List.mem_range.1 hi; omega)).2
end
/-- An ID whose words fit. -/
def ID.Ok (x : ID) : Prop := U64 x.hi ∧ U64 x.lo
def I64 (x : Int) : Prop := -9223372036854775808 ≤ x ∧ x ≤ 9223372036854775807
def Vote.Ok (v : Vote) : Prop := I64 v.frm ∧ I64 v.slot ∧ v.head.Ok
theorem wfU {x : Int} (h : (Lit.int .u64 x).wf = true) : U64 x := by have := bounds_u64 h; exact this
theorem wfI {x : Int} (h : (Lit.int .i64 x).wf = true) : I64 x := by have := bounds_i64 h; exact this
theorem cells_int : Tryz.prog.cellsOf 3 = 1 := by kernel_rfl
theorem cells_u64 : Tryz.prog.cellsOf 23 = 1 := by kernel_rfl
theorem cells_id : Tryz.prog.cellsOf 35 = 2 := by kernel_rfl
theorem cells_blk : Tryz.prog.cellsOf 64 = 5 := by kernel_rfl
theorem cells_vote : Tryz.prog.cellsOf 42 = 4 := by kernel_rfl
theorem cells_conf : Tryz.prog.cellsOf 25 = 5 := by kernel_rfl
theorem cells_ints : Tryz.prog.cellsOf 22 = 1 := by kernel_rfl
theorem l2 {α : Type} {l : List α} (h : l.length = 2) : ∃ a b, l = [a, b] := by
  match l, h with
  | [a, b], _ => exact ⟨a, b, rfl⟩
theorem l4 {α : Type} {l : List α} (h : l.length = 4) : ∃ a b c d, l = [a, b, c, d] := by
  match l, h with
  | [a, b, c, d], _ => exact ⟨a, b, c, d, rfl⟩
theorem l5 {α : Type} {l : List α} (h : l.length = 5) : ∃ a b c d e, l = [a, b, c, d, e] := by
  match l, h with
  | [a, b, c, d, e], _ => exact ⟨a, b, c, d, e, rfl⟩
section
variable {H : Type} {en : TypeId × Value → H} {W : World} {base : Nat} {spare : Nat → Bool} {held : Bool} {n : Nat} {cs : List Value} {y : DataW H × List MemPlace}
theorem read_i64 (h : DataW.trod en Tryz.prog W base spare held n 3 cs = some y) : ∃ x, cs = [.int .i64 x] ∧ I64 x := by
  obtain ⟨x, rfl, _, hw⟩ := DataW.trod_int Tryz.underlying3 h
  exact ⟨x, rfl, wfI hw⟩
theorem read_u64 (h : DataW.trod en Tryz.prog W base spare held n 23 cs = some y) : ∃ x, cs = [.int .u64 x] ∧ U64 x := by
  obtain ⟨x, rfl, _, hw⟩ := DataW.trod_int Tryz.underlying23 h
  exact ⟨x, rfl, wfU hw⟩
set_option maxRecDepth 100000 in
theorem read_id (h : DataW.trod en Tryz.prog W base spare held n 35 cs = some y) : ∃ x : ID, cs = encID x ∧ x.Ok := by
  obtain ⟨xs, m, _, _, hl, hx, hf⟩ := DataW.trod_array Tryz.underlying35 h
  rw [cells_id] at hl
  obtain ⟨a, b, rfl⟩ := l2 hl
  have h0 := hf 0 (by decide)
  have h1 := hf 1 (by decide)
  rw [List.getElem?_eq_getElem (by omega)] at h0 h1
  simp only [cells_u64] at h0 h1
  obtain ⟨p, hp, kp⟩ := read_u64 h0
  obtain ⟨q, hq, kq⟩ := read_u64 h1
  simp only [Nat.zero_mul, Nat.one_mul, List.drop_zero, List.drop_succ_cons, List.take_succ_cons, List.take_zero, List.cons.injEq, and_true] at hp hq
  subst hp hq
  exact ⟨⟨p, q⟩, rfl, kp, kq⟩
theorem read_blk (h : DataW.trod en Tryz.prog W base spare held n 64 cs = some y) : ∃ b : Blk, cs = encBlk b ∧ b.Ok := by
  obtain ⟨hl, m, hf⟩ := trd_field Tryz.underlying64 h
  rw [cells_blk] at hl
  obtain ⟨a, b, c, d, e, rfl⟩ := l5 hl
  simp only [List.mem_cons, List.not_mem_nil, or_false, forall_eq_or_imp, forall_eq] at hf
  obtain ⟨⟨_, h0⟩, ⟨_, h1⟩, ⟨_, h2⟩, ⟨_, h3⟩⟩ := hf
  simp only [cells_int, cells_id, cells_u64, List.drop_zero, List.drop_succ_cons, List.take_succ_cons, List.take_zero] at h0 h1 h2 h3
  obtain ⟨x0, e0, k0⟩ := read_i64 h0
  obtain ⟨x1, e1, k1⟩ := read_i64 h1
  obtain ⟨x2, e2, k2⟩ := read_id h2
  obtain ⟨x3, e3, k3⟩ := read_u64 h3
  simp only [encID, List.cons.injEq, and_true] at e0 e1 e2 e3
  obtain ⟨rfl, rfl⟩ := e2
  subst e0 e1 e3
  exact ⟨⟨x0, x1, x2, x3⟩, rfl, ⟨k0, k1, k2.1, k2.2, k3⟩⟩
theorem read_vote (h : DataW.trod en Tryz.prog W base spare held n 42 cs = some y) : ∃ v : Vote, cs = encVote v ∧ v.Ok := by
  obtain ⟨hl, m, hf⟩ := trd_field Tryz.underlying42 h
  rw [cells_vote] at hl
  obtain ⟨a, b, c, d, rfl⟩ := l4 hl
  simp only [List.mem_cons, List.not_mem_nil, or_false, forall_eq_or_imp, forall_eq] at hf
  obtain ⟨⟨_, h0⟩, ⟨_, h1⟩, ⟨_, h2⟩⟩ := hf
  simp only [cells_int, cells_id, List.drop_zero, List.drop_succ_cons, List.take_succ_cons, List.take_zero] at h0 h1 h2
  obtain ⟨x0, e0, k0⟩ := read_i64 h0
  obtain ⟨x1, e1, k1⟩ := read_i64 h1
  obtain ⟨x2, e2, k2⟩ := read_id h2
  simp only [encID, List.cons.injEq, and_true] at e0 e1 e2
  obtain ⟨rfl, rfl⟩ := e2
  subst e0 e1
  exact ⟨⟨x0, x1, x2⟩, rfl, k0, k1, k2⟩
end
instance instInhIDr : Inhabited ID := ⟨⟨0, 0⟩⟩
instance : Inhabited Blk := ⟨⟨0, 0, default, 0⟩⟩
instance : Inhabited Vote := ⟨⟨0, 0, default⟩⟩
section
variable {H : Type} {en : TypeId × Value → H} {W : World} {held : Bool} {r : Reach} {b0 : Nat} {v : Value} {d : DataW H} {p : List MemPlace}
/-- What a conf that is handed in holds. -/
def Cfg.Ok (c : Cfg) : Prop := U64 c.seed ∧ I64 c.epoch ∧ I64 c.num ∧ I64 c.den ∧ ∀ x ∈ c.W, I64 x
set_option maxRecDepth 100000 in
theorem open_ints1 {n : Nat} {A : Option Addr} {len cap : Nat} {y : DataW H × List MemPlace} (h : DataW.trod en Tryz.prog W 0 (fun _ => true) held n 22 [.slice A len cap] = some y) :
    ∃ l : List Int, len = l.length ∧ len ≤ cap ∧ cap ≤ maxLen ∧ Rd 1 encI W A l ∧ ∀ x ∈ l, I64 x :=
  open_sl encI_len Tryz.underlying22 cells_int (by decide) (fun n cs y h => by obtain ⟨x, rfl, k⟩ := read_i64 h; exact ⟨x, rfl, k⟩) h
set_option maxRecDepth 100000 in
theorem open_conf (hv : Value.okWide Tryz.prog W r b0 25 v) (h : DataW.Trod en Tryz.prog W 0 (fun _ => true) held 25 v d p) :
    ∃ (A : Option Addr) (c : Cfg) (k : Nat), v = cfgv A k c ∧ c.W.length ≤ k ∧ k ≤ maxLen ∧ Rd 1 encI W A c.W ∧ c.Ok := by
  obtain ⟨cs, rfl, hsz⟩ := okWide_struct Tryz.underlying25 hv
  obtain ⟨fuel, hf⟩ := h
  obtain ⟨hl, m, hf⟩ := trd_field Tryz.underlying25 hf
  simp only [Value.cells] at hl hf
  obtain ⟨l⟩ := cs
  simp only at hl hf
  rw [cells_conf] at hl
  obtain ⟨a, b, c, d, e, rfl⟩ := l5 hl
  simp only [List.mem_cons, List.not_mem_nil, or_false, forall_eq_or_imp, forall_eq] at hf
  obtain ⟨⟨_, h0⟩, ⟨_, h1⟩, ⟨_, h2⟩, ⟨_, h3⟩, ⟨_, h4⟩⟩ := hf
  simp only [cells_int, cells_ints, cells_u64, List.drop_zero, List.drop_succ_cons, List.take_succ_cons, List.take_zero] at h0 h1 h2 h3 h4
  obtain ⟨x1, e1, k1⟩ := read_u64 h1
  obtain ⟨x2, e2, k2⟩ := read_i64 h2
  obtain ⟨x3, e3, k3⟩ := read_i64 h3
  obtain ⟨x4, e4, k4⟩ := read_i64 h4
  simp only [List.cons.injEq, and_true] at e1 e2 e3 e4
  subst e1 e2 e3 e4
  have hsl : ∃ A len cap, a = Value.slice A len cap := by
    rcases DataW.trod_slice Tryz.underlying22 h0 with ⟨hc, _⟩ | ⟨a', len, cap, _, _, _, _, hc, _⟩
    · simp only [List.cons.injEq, and_true] at hc; exact ⟨_, _, _, hc⟩
    · simp only [List.cons.injEq, and_true] at hc; exact ⟨_, _, _, hc⟩
  obtain ⟨A, len, cap, rfl⟩ := hsl
  obtain ⟨l, rfl, hc, hm, hR, hk⟩ := open_ints1 h0
  exact ⟨A, ⟨l, x1, x2, x3, x4⟩, cap, rfl, hc, hm, hR, k1, k2, k3, k4, hk⟩
set_option maxRecDepth 100000 in
theorem open_blks (hv : Value.okWide Tryz.prog W r b0 26 v) (h : DataW.Trod en Tryz.prog W 0 (fun _ => true) held 26 v d p) :
    ∃ (A : Option Addr) (l : List Blk) (k : Nat), v = .slice A l.length k ∧ l.length ≤ k ∧ k ≤ maxLen ∧ Rd 5 encBlk W A l ∧ ∀ b ∈ l, b.Ok := by
  obtain ⟨A, len, cap, rfl⟩ := okWide_slice Tryz.underlying26 hv
  obtain ⟨fuel, hf⟩ := h
  obtain ⟨l, rfl, hc, hm, hR, hk⟩ := open_sl encBlk_len Tryz.underlying26 cells_blk (by decide) (fun n cs y h => read_blk h) hf
  exact ⟨A, l, cap, rfl, hc, hm, hR, hk⟩
set_option maxRecDepth 100000 in
theorem open_votes (hv : Value.okWide Tryz.prog W r b0 27 v) (h : DataW.Trod en Tryz.prog W 0 (fun _ => true) held 27 v d p) :
    ∃ (A : Option Addr) (l : List Vote) (k : Nat), v = .slice A l.length k ∧ l.length ≤ k ∧ k ≤ maxLen ∧ Rd 4 encVote W A l ∧ ∀ b ∈ l, b.Ok := by
  obtain ⟨A, len, cap, rfl⟩ := okWide_slice Tryz.underlying27 hv
  obtain ⟨fuel, hf⟩ := h
  obtain ⟨l, rfl, hc, hm, hR, hk⟩ := open_sl encVote_len Tryz.underlying27 cells_vote (by decide) (fun n cs y h => read_vote h) hf
  exact ⟨A, l, cap, rfl, hc, hm, hR, hk⟩
set_option maxRecDepth 100000 in
theorem open_id (hv : Value.okWide Tryz.prog W r b0 35 v) (h : DataW.Trod en Tryz.prog W 0 (fun _ => true) held 35 v d p) : ∃ x : ID, v = idv x ∧ x.Ok := by
  have hv' := hv
  obtain ⟨cs, rfl⟩ : ∃ cs, v = .agg cs := by
    have ht := Tryz.underlying35
    simp only [Value.okWide, ht] at hv'
    obtain ⟨cs, h1, _⟩ := hv'
    exact ⟨cs, h1⟩
  obtain ⟨fuel, hf⟩ := h
  obtain ⟨x, hx, k⟩ := read_id hf
  obtain ⟨l⟩ := cs
  simp only [Value.cells] at hx
  subst hx
  exact ⟨x, rfl, k⟩
end
end Go.Proofs.YtaohkcdfjjiggaaGreat
/-! More arguments read as data: a whole number, a vote, a block; a nil slice has no room. -/
namespace Go.Proofs.YtaohkcdfjjiggaaGreat
open Go.RowKit Go.ChangeShapes Go.WideShapes Go.ChangeAt
section
variable {H : Type} {en : TypeId × Value → H} {W : World} {held : Bool} {r : Reach} {b0 : Nat} {v : Value} {d : DataW H} {p : List MemPlace}
theorem none_cap {P : Program} {t e : TypeId} {n len cap : Nat} {A : Option Addr} {y : DataW H × List MemPlace} (ht : P.underlying t = some (.slice e)) (h : DataW.trod en P W 0 (fun _ => true) held n t [.slice A len cap] = some y) : A = none → cap = 0 := by
  intro e
  subst e
  rcases DataW.trod_slice ht h with ⟨hc, _⟩ | ⟨a', len, cap, _, _, _, _, hc, _⟩
  · simp only [List.cons.injEq, Value.slice.injEq, and_true] at hc
    exact hc.2.2
  · simp at hc
set_option maxRecDepth 100000 in
theorem open_blksN (hv : Value.okWide Tryz.prog W r b0 26 v) (h : DataW.Trod en Tryz.prog W 0 (fun _ => true) held 26 v d p) :
    ∃ (A : Option Addr) (l : List Blk) (k : Nat), v = .slice A l.length k ∧ l.length ≤ k ∧ k ≤ maxLen ∧ Rd 5 encBlk W A l ∧ (∀ b ∈ l, b.Ok) ∧ (A = none → k = 0) := by
  obtain ⟨A, l, k, rfl, h1, h2, h3, h4⟩ := open_blks hv h
  obtain ⟨fuel, hf⟩ := h
  exact ⟨A, l, k, rfl, h1, h2, h3, h4, none_cap Tryz.underlying26 hf⟩
set_option maxRecDepth 100000 in
theorem open_votesN (hv : Value.okWide Tryz.prog W r b0 27 v) (h : DataW.Trod en Tryz.prog W 0 (fun _ => true) held 27 v d p) :
    ∃ (A : Option Addr) (l : List Vote) (k : Nat), v = .slice A l.length k ∧ l.length ≤ k ∧ k ≤ maxLen ∧ Rd 4 encVote W A l ∧ (∀ b ∈ l, b.Ok) ∧ (A = none → k = 0) := by
  obtain ⟨A, l, k, rfl, h1, h2, h3, h4⟩ := open_votes hv h
  obtain ⟨fuel, hf⟩ := h
  exact ⟨A, l, k, rfl, h1, h2, h3, h4, none_cap Tryz.underlying27 hf⟩
set_option maxRecDepth 100000 in
theorem open_i (hv : Value.okWide Tryz.prog W r b0 3 v) (h : DataW.Trod en Tryz.prog W 0 (fun _ => true) held 3 v d p) : ∃ x : Int, v = .int .i64 x ∧ I64 x := by
  obtain ⟨x, rfl, _, _, w⟩ := open_int Tryz.underlying3 hv h
  exact ⟨x, rfl, wfI w⟩
set_option maxRecDepth 100000 in
theorem open_vote (hv : Value.okWide Tryz.prog W r b0 42 v) (h : DataW.Trod en Tryz.prog W 0 (fun _ => true) held 42 v d p) : ∃ x : Vote, v = votev x ∧ x.Ok := by
  obtain ⟨cs, rfl, _⟩ := okWide_struct Tryz.underlying42 hv
  obtain ⟨fuel, hf⟩ := h
  obtain ⟨x, hx, k⟩ := read_vote hf
  obtain ⟨l⟩ := cs
  simp only [Value.cells] at hx
  subst hx
  exact ⟨x, rfl, k⟩
def blkv (b : Blk) : Value := .agg #[.int .i64 b.slot, .int .i64 b.frm, .int .u64 b.par.hi, .int .u64 b.par.lo, .int .u64 b.salt]
set_option maxRecDepth 100000 in
theorem open_block (hv : Value.okWide Tryz.prog W r b0 64 v) (h : DataW.Trod en Tryz.prog W 0 (fun _ => true) held 64 v d p) : ∃ x : Blk, v = blkv x ∧ x.Ok := by
  obtain ⟨cs, rfl, _⟩ := okWide_struct Tryz.underlying64 hv
  obtain ⟨fuel, hf⟩ := h
  obtain ⟨x, hx, k⟩ := read_blk hf
  obtain ⟨l⟩ := cs
  simp only [Value.cells] at hx
  subst hx
  exact ⟨x, rfl, k⟩
end
end Go.Proofs.YtaohkcdfjjiggaaGreat
/-! A view that comes in: blocks, and votes. -/
namespace Go.Proofs.YtaohkcdfjjiggaaGreat
open Go.RowKit Go.ChangeShapes Go.WideShapes Go.ChangeAt
theorem cells_blks : Tryz.prog.cellsOf 26 = 1 := by kernel_rfl
theorem cells_votes : Tryz.prog.cellsOf 27 = 1 := by kernel_rfl
theorem cells_view : Tryz.prog.cellsOf 29 = 2 := by kernel_rfl
section
variable {H : Type} {en : TypeId × Value → H} {W : World} {held : Bool} {r : Reach} {b0 : Nat} {v : Value} {d : DataW H} {p : List MemPlace}
theorem is_sl {P : Program} {t e : TypeId} {n : Nat} {a : Value} {y : DataW H × List MemPlace} (ht : P.underlying t = some (.slice e)) (h : DataW.trod en P W 0 (fun _ => true) held n t [a] = some y) : ∃ A len cap, a = Value.slice A len cap := by
  rcases DataW.trod_slice ht h with ⟨hc, _⟩ | ⟨a', len, cap, _, _, _, _, hc, _⟩
  · simp only [List.cons.injEq, and_true] at hc; exact ⟨_, _, _, hc⟩
  · simp only [List.cons.injEq, and_true] at hc; exact ⟨_, _, _, hc⟩
set_option maxRecDepth 100000 in
theorem open_view (hv : Value.okWide Tryz.prog W r b0 29 v) (h : DataW.Trod en Tryz.prog W 0 (fun _ => true) held 29 v d p) :
    ∃ (A2 : Option Addr) (l : List Blk) (k2 : Nat) (A3 : Option Addr) (vs : List Vote) (k3 : Nat), v = .agg #[.slice A2 l.length k2, .slice A3 vs.length k3] ∧ l.length ≤ k2 ∧ k2 ≤ maxLen ∧ Rd 5 encBlk W A2 l ∧ (∀ b ∈ l, b.Ok) ∧ (A2 = none → k2 = 0) ∧ vs.length ≤ k3 ∧ k3 ≤ maxLen ∧ Rd 4 encVote W A3 vs ∧ (∀ b ∈ vs, b.Ok) ∧ (A3 = none → k3 = 0) := by
  obtain ⟨cs, rfl, hsz⟩ := okWide_struct Tryz.underlying29 hv
  obtain ⟨fuel, hf⟩ := h
  obtain ⟨hl, m, hf⟩ := trd_field Tryz.underlying29 hf
  simp only [Value.cells] at hl hf
  obtain ⟨l⟩ := cs
  simp only at hl hf
  rw [cells_view] at hl
  obtain ⟨a, b, rfl⟩ := l2 hl
  simp only [List.mem_cons, List.not_mem_nil, or_false, forall_eq_or_imp, forall_eq] at hf
  obtain ⟨⟨_, h0⟩, ⟨_, h1⟩⟩ := hf
  simp only [cells_blks, cells_votes, List.drop_zero, List.drop_succ_cons, List.take_succ_cons, List.take_zero] at h0 h1
  obtain ⟨A, len, cap, rfl⟩ := is_sl Tryz.underlying26 h0
  obtain ⟨A', len', cap', rfl⟩ := is_sl Tryz.underlying27 h1
  obtain ⟨l, rfl, hc, hm, hR, hk⟩ := open_sl encBlk_len Tryz.underlying26 cells_blk (by decide) (fun n cs y h => read_blk h) h0
  obtain ⟨l', rfl, hc', hm', hR', hk'⟩ := open_sl encVote_len Tryz.underlying27 cells_vote (by decide) (fun n cs y h => read_vote h) h1
  exact ⟨A, l, cap, A', l', cap', rfl, hc, hm, hR, hk, none_cap Tryz.underlying26 h0, hc', hm', hR', hk', none_cap Tryz.underlying27 h1⟩
set_option maxRecDepth 100000 in
theorem open_intsN (hv : Value.okWide Tryz.prog W r b0 22 v) (h : DataW.Trod en Tryz.prog W 0 (fun _ => true) held 22 v d p) :
    ∃ (A : Option Addr) (l : List Int) (k : Nat), v = .slice A l.length k ∧ l.length ≤ k ∧ k ≤ maxLen ∧ Rd 1 encI W A l ∧ (∀ b ∈ l, I64 b) ∧ (A = none → k = 0) := by
  obtain ⟨A, len, cap, rfl⟩ := okWide_slice Tryz.underlying22 hv
  obtain ⟨fuel, hf⟩ := h
  obtain ⟨l, rfl, hc, hm, hR, hk⟩ := open_ints1 hf
  exact ⟨A, l, cap, rfl, hc, hm, hR, hk, none_cap Tryz.underlying22 hf⟩
end
end Go.Proofs.YtaohkcdfjjiggaaGreat
/-! marigoldlaw09.Few, walked. -/
namespace Go.Proofs.YtaohkcdfjjiggaaGreat
open Go.RowKit
set_option maxRecDepth 100000 in
set_option maxHeartbeats 1000000 in
theorem fewN_any (c : Cfg) (nl nv : Nat) (A A2 A3 : Option Addr) (k k2 k3 : Nat) (w : World) (h1 : c.W.length ≤ 9223372036854775807) (h2 : nl ≤ 9223372036854775807) (h3 : nv ≤ 9223372036854775807) :
    Calls Tryz.prog 17 #[cfgv A k c, .slice A2 nl k2, .slice A3 nv k3] w fun e w' => e = .returned (.bool (decide (c.W.length ≤ 40 ∧ nl ≤ 20 ∧ nv ≤ 30))) ∧ Below w.heap.size w w' := by
  unfold cfgv
  have hW : ∃ W, w.alloc (.cells #[.slice A c.W.length k, .int .u64 c.seed, .int .i64 c.epoch, .int .i64 c.num, .int .i64 c.den] 25) = W := ⟨_, rfl⟩
  obtain ⟨W, hW⟩ := hW
  have hB : Below w.heap.size w W := by subst hW; exact (Below.refl _ w).alloc (Nat.le_refl _) _
  have hb : W.heap[w.heap.size]? = some (.cells #[.slice A c.W.length k, .int .u64 c.seed, .int .i64 c.epoch, .int .i64 c.num, .int .i64 c.den] 25 (0, 0)) := by subst hW; exact ha_at rfl
  have c0 := blk_cell hb 0
  obtain ⟨n, hn⟩ : ∃ n, c.W.length = n := ⟨_, rfl⟩
  rw [hn] at c0 h1 ⊢
  rw [hn] at hW
  clear hn hb
  go_enter Tryz.func17, Tryz.ntmps17
  go_wp2_with fail
  all_goals
    go_ret
    refine ⟨ret_bool ?_, hB⟩
    rw [Bool.eq_iff_iff]
    simp only [Bool.and_eq_true, decide_eq_true_eq, Bool.false_eq_true, false_iff]
    omega
end Go.Proofs.YtaohkcdfjjiggaaGreat
/-! marigoldlaw14.has, walked. -/
namespace Go.Proofs.YtaohkcdfjjiggaaGreat
open Go.RowKit
set_option linter.unusedVariables false
set_option maxRecDepth 100000 in
set_option maxHeartbeats 1000000 in
theorem has14_any (x : Int) (xs : List Int) (A : Option Addr) (c : Nat) (w : World) (hr : Rd 1 encI w A xs) :
    Calls Tryz.prog 27 #[.slice A xs.length c, .int .i64 x] w fun e w' => e = .returned (.bool (decide (x ∈ xs))) ∧ w' = w := by
  go_enter Tryz.func27, Tryz.ntmps27
  go_wp2_with fail
  have hm := hr.1
  go_loop [5] (fun i => ∃ k : Nat, k ≤ xs.length ∧ i = .int .i64 k ∧ Hid (x ∉ xs.take k)) (fun i => xs.length - (intOf i).toNat)
  case atStart => exact ⟨0, Nat.zero_le _, rfl, Lib.hid (by simp)⟩
  case round =>
    obtain ⟨k, hk, rfl, hno⟩ := hrel
    by_cases hlt : k < xs.length
    · obtain ⟨b, o, rfl, hbo, d⟩ := hr.atI hlt
      have hmem := List.getElem_mem hlt
      have hst := fun h : ¬ x = xs[k] => not_mem_step hlt hno.out h
      obtain ⟨y, hy⟩ : ∃ y, xs[k] = y := ⟨_, rfl⟩
      rw [hy] at d hst hmem
      by_cases hx : x = y
      · have hd : decide (x ∈ xs) = true := by rw [hx]; simpa using hmem
        have hd' := Lib.hid hd
        have he : (y == x) = true := by simp [hx]
        clear hst hx hmem hd hy
        go_wp2_with fail
        go_ret
        exact ⟨ret_bool hd'.out.symm, rfl⟩
      · have hst' := Lib.hid (hst hx)
        have he : (y == x) = false := by simpa using fun e => hx e.symm
        clear hst hx hmem hy
        go_wp2_with fail
        go_round
        case rel => exact ⟨k + 1, hlt, by go_num, hst'⟩
        case measure => simp [intOf]; omega
    · obtain rfl : k = xs.length := by omega
      have hd' := Lib.hid (show decide (x ∈ xs) = false by simpa using hno.out)
      go_wp2_with fail
      go_ret
      exact ⟨ret_bool hd'.out.symm, rfl⟩
end Go.Proofs.YtaohkcdfjjiggaaGreat
