/- GD: several texts in one. -/
import Derived.Test.YtdocgemfedohdaaGreatGA
import Derived.Test.YtdocgemfedohdaaGreatGC
import Derived.ProofKit
import Derived.OpenShut
import Derived.ShutString
import Derived.ChangeOld
import Derived.Below
import Derived.Deep.Slices
import Derived.RangeFuncNested
import Derived.RangeFuncBound
import Derived.RangeFuncCalls
import Derived.RangeFuncLeaves
import Derived.Shelf.Abstract
import Derived.Shelf.RegionOpen
import Derived.WalkKit
import Derived.OwnWalkIn
import Derived.TacticsInMore
import Derived.LoopNIn
import Derived.LoopIn
/-! Arguments read as data: a conf, blocks, votes, an ID. -/
namespace Go.Proofs.YtdocgemfedohdaaGreat
open Go.RowKit Go.ChangeShapes Go.WideShapes Go.ChangeAt
theorem addr_add (b o j : Nat) : (⟨b, o, none⟩ : Addr).add j = ⟨b, o + j, none⟩ := by unfold Addr.add; split <;> simp_all
section
variable {H : Type} {en : TypeId × Value → H} {P : Program} {W : World} {base : Nat} {spare : Nat → Bool} {held : Bool}
theorem trd_field {t : TypeId} {fs : Array Field} {n : Nat} {cs : List Value} {x : DataW H × List MemPlace} (ht : P.underlying t = some (.struct fs)) (h : DataW.trod en P W base spare held n t cs = some x) :
    cs.length = P.cellsOf t ∧ ∃ m, ∀ f ∈ fs.toList, ∃ y, DataW.trod en P W base spare held m f.type ((cs.drop f.offset).take (P.cellsOf f.type)) = some y := by
  obtain ⟨xs, m, _, _, hl, hx, hf⟩ := DataW.trod_struct ht h
  refine ⟨hl, m, fun f hm => ?_⟩
  obtain ⟨i, hi⟩ := List.mem_iff_getElem?.1 hm
  have hi' : fs[i]? = some f := by simpa using hi
  have hlt : i < xs.length := by rw [hx]; exact (Array.getElem?_eq_some_iff.1 hi').1
  exact ⟨xs[i], (hf i f hi').trans (List.getElem?_eq_getElem hlt)⟩
set_option maxRecDepth 100000 in
theorem open_sl {α : Type} [Inhabited α] {t e : TypeId} {k : Nat} {enc : α → List Value} {ok : α → Prop} (hlen : ∀ x, (enc x).length = k) (ht : P.underlying t = some (.slice e)) (hk : P.cellsOf e = k) (hk0 : 0 < k)
    (hel : ∀ n cs y, DataW.trod en P W 0 (fun _ => true) held n e cs = some y → ∃ x, cs = enc x ∧ ok x) {n : Nat} {A : Option Addr} {len cap : Nat} {y : DataW H × List MemPlace} (h : DataW.trod en P W 0 (fun _ => true) held n t [.slice A len cap] = some y) :
    ∃ l : List α, len = l.length ∧ len ≤ cap ∧ cap ≤ maxLen ∧ Rd k enc W A l ∧ ∀ x ∈ l, ok x := by
  rcases Go.Deep.open_slice ht h with ⟨hcs, _⟩ | ⟨a, len', cap', m, n', D, Pl, hcs, _, hlc, hcm, hm, _, hall⟩
  · simp only [List.cons.injEq, Value.slice.injEq, and_true] at hcs
    obtain ⟨rfl, rfl, rfl⟩ := hcs
    exact ⟨[], rfl, Nat.le_refl _, by decide, Rd_nil _ _ _ _, by simp⟩
  · simp only [List.cons.injEq, Value.slice.injEq, and_true] at hcs
    obtain ⟨rfl, rfl, rfl⟩ := hcs
    have hm' : m = cap := by rw [hm]; simp
    subst hm'
    have hx : ∀ i, i < m → ∃ x : α, W.cells? 0 (a.add (i * k)) k = some (enc x) ∧ ok x := fun i hi => by
      obtain ⟨cs', h1, h2⟩ := hall i hi
      obtain ⟨x, rfl, hok⟩ := hel _ _ _ h2
      rw [hk] at h1
      exact ⟨x, h1, hok⟩
    obtain ⟨f, hf⟩ := Go.Deep.choose_lt hx
    refine ⟨(List.range len).map f, by simp, hlc, hcm, ⟨by
      have : maxLen ≤ 9223372036854775807 := by decide
      simp
      omega, fun hne => ?_⟩, ?_⟩
    · have hl0 : 0 < len := by
        rcases Nat.eq_zero_or_pos len with h0 | h0
        · subst h0; simp at hne
        · exact h0
      have hcell : ∀ i, i < m → ∀ j, j < k → W.cell? (a.add (i * k + j)) = (enc (f i))[j]? := fun i hi j hj => by
        have := (World.cells?_some (hf i hi).1).2.2 j hj
        rwa [Go.Deep.add_add] at this
      have hc0 := hcell 0 (by omega) 0 hk0
      obtain ⟨u, hu⟩ : ∃ u, (enc (f 0))[0]? = some u := ⟨_, List.getElem?_eq_getElem (by rw [hlen]; exact hk0)⟩
      rw [hu] at hc0
      have hsp := World.cell?_spot hc0
      obtain ⟨b, o, sp⟩ := a
      have hadd : ∀ j, (⟨b, o, none⟩ : Addr).add j = ⟨b, o + j, none⟩ := addr_add b o
      have hsp' : sp = none := by simpa [Addr.add] using hsp
      subst hsp'
      refine ⟨b, o, rfl, ?_, fun i x hi j v hv => ?_⟩
      · have := World.block_lt_of_cell? W _ hc0
        simpa [hadd] using this
      · rw [List.getElem?_map] at hi
        rw [Option.map_eq_some_iff] at hi
        obtain ⟨i', hi', rfl⟩ := hi
        have hi2 : i < len ∧ i = i' := by
          have := List.getElem?_eq_some_iff.1 hi'
          obtain ⟨h1, h2⟩ := this
          simp at h1 h2
          exact ⟨h1, h2⟩
        obtain ⟨hil, rfl⟩ := hi2
        have hj : j < k := by rw [← hlen (f i)]; exact (List.getElem?_eq_some_iff.1 hv).1
        have := hcell i (by omega) j hj
        rw [hadd, hv] at this
        rw [Nat.add_assoc]
        exact this
    · intro x hx
      obtain ⟨i, hi, rfl⟩ := List.mem_map.1 hx
      exact (hf i (by have := List.mem_range.1 hi; omega)).2
end
/-- An ID whose words fit. -/
def ID.Ok (x : ID) : Prop := U64 x.hi ∧ U64 x.lo
def I64 (x : Int) : Prop := -9223372036854775808 ≤ x ∧ x ≤ 9223372036854775807
def Vote.Ok (v : Vote) : Prop := I64 v.frm ∧ I64 v.slot ∧ v.head.Ok
theorem wfU {x : Int} (h : (Lit.int .u64 x).wf = true) : U64 x := by have := bounds_u64 h; exact this
theorem wfI {x : Int} (h : (Lit.int .i64 x).wf = true) : I64 x := by have := bounds_i64 h; exact this
theorem cells_int : Tryz.prog.cellsOf 3 = 1 := by kernel_rfl
theorem cells_u64 : Tryz.prog.cellsOf 23 = 1 := by kernel_rfl
theorem cells_id : Tryz.prog.cellsOf 28 = 2 := by kernel_rfl
theorem cells_blk : Tryz.prog.cellsOf 51 = 5 := by kernel_rfl
theorem cells_vote : Tryz.prog.cellsOf 37 = 4 := by kernel_rfl
theorem cells_conf : Tryz.prog.cellsOf 25 = 5 := by kernel_rfl
theorem cells_ints : Tryz.prog.cellsOf 22 = 1 := by kernel_rfl
theorem l2 {α : Type} {l : List α} (h : l.length = 2) : ∃ a b, l = [a, b] := by
  match l, h with
  | [a, b], _ => exact ⟨a, b, rfl⟩
theorem l4 {α : Type} {l : List α} (h : l.length = 4) : ∃ a b c d, l = [a, b, c, d] := by
  match l, h with
  | [a, b, c, d], _ => exact ⟨a, b, c, d, rfl⟩
theorem l5 {α : Type} {l : List α} (h : l.length = 5) : ∃ a b c d e, l = [a, b, c, d, e] := by
  match l, h with
  | [a, b, c, d, e], _ => exact ⟨a, b, c, d, e, rfl⟩
section
variable {H : Type} {en : TypeId × Value → H} {W : World} {base : Nat} {spare : Nat → Bool} {held : Bool} {n : Nat} {cs : List Value} {y : DataW H × List MemPlace}
theorem read_i64 (h : DataW.trod en Tryz.prog W base spare held n 3 cs = some y) : ∃ x, cs = [.int .i64 x] ∧ I64 x := by
  obtain ⟨x, rfl, _, hw⟩ := DataW.trod_int Tryz.underlying3 h
  exact ⟨x, rfl, wfI hw⟩
theorem read_u64 (h : DataW.trod en Tryz.prog W base spare held n 23 cs = some y) : ∃ x, cs = [.int .u64 x] ∧ U64 x := by
  obtain ⟨x, rfl, _, hw⟩ := DataW.trod_int Tryz.underlying23 h
  exact ⟨x, rfl, wfU hw⟩
set_option maxRecDepth 100000 in
theorem read_id (h : DataW.trod en Tryz.prog W base spare held n 28 cs = some y) : ∃ x : ID, cs = encID x ∧ x.Ok := by
  obtain ⟨xs, m, _, _, hl, hx, hf⟩ := DataW.trod_array Tryz.underlying28 h
  rw [cells_id] at hl
  obtain ⟨a, b, rfl⟩ := l2 hl
  have h0 := hf 0 (by decide)
  have h1 := hf 1 (by decide)
  rw [List.getElem?_eq_getElem (by omega)] at h0 h1
  simp only [cells_u64] at h0 h1
  obtain ⟨p, hp, kp⟩ := read_u64 h0
  obtain ⟨q, hq, kq⟩ := read_u64 h1
  simp only [Nat.zero_mul, Nat.one_mul, List.drop_zero, List.drop_succ_cons, List.take_succ_cons, List.take_zero, List.cons.injEq, and_true] at hp hq
  subst hp hq
  exact ⟨⟨p, q⟩, rfl, kp, kq⟩
theorem read_blk (h : DataW.trod en Tryz.prog W base spare held n 51 cs = some y) : ∃ b : Blk, cs = encBlk b ∧ b.Ok := by
  obtain ⟨hl, m, hf⟩ := trd_field Tryz.underlying51 h
  rw [cells_blk] at hl
  obtain ⟨a, b, c, d, e, rfl⟩ := l5 hl
  simp only [List.mem_cons, List.not_mem_nil, or_false, forall_eq_or_imp, forall_eq] at hf
  obtain ⟨⟨_, h0⟩, ⟨_, h1⟩, ⟨_, h2⟩, ⟨_, h3⟩⟩ := hf
  simp only [cells_int, cells_id, cells_u64, List.drop_zero, List.drop_succ_cons, List.take_succ_cons, List.take_zero] at h0 h1 h2 h3
  obtain ⟨x0, e0, k0⟩ := read_i64 h0
  obtain ⟨x1, e1, k1⟩ := read_i64 h1
  obtain ⟨x2, e2, k2⟩ := read_id h2
  obtain ⟨x3, e3, k3⟩ := read_u64 h3
  simp only [encID, List.cons.injEq, and_true] at e0 e1 e2 e3
  obtain ⟨rfl, rfl⟩ := e2
  subst e0 e1 e3
  exact ⟨⟨x0, x1, x2, x3⟩, rfl, ⟨k0, k1, k2.1, k2.2, k3⟩⟩
theorem read_vote (h : DataW.trod en Tryz.prog W base spare held n 37 cs = some y) : ∃ v : Vote, cs = encVote v ∧ v.Ok := by
  obtain ⟨hl, m, hf⟩ := trd_field Tryz.underlying37 h
  rw [cells_vote] at hl
  obtain ⟨a, b, c, d, rfl⟩ := l4 hl
  simp only [List.mem_cons, List.not_mem_nil, or_false, forall_eq_or_imp, forall_eq] at hf
  obtain ⟨⟨_, h0⟩, ⟨_, h1⟩, ⟨_, h2⟩⟩ := hf
  simp only [cells_int, cells_id, List.drop_zero, List.drop_succ_cons, List.take_succ_cons, List.take_zero] at h0 h1 h2
  obtain ⟨x0, e0, k0⟩ := read_i64 h0
  obtain ⟨x1, e1, k1⟩ := read_i64 h1
  obtain ⟨x2, e2, k2⟩ := read_id h2
  simp only [encID, List.cons.injEq, and_true] at e0 e1 e2
  obtain ⟨rfl, rfl⟩ := e2
  subst e0 e1
  exact ⟨⟨x0, x1, x2⟩, rfl, k0, k1, k2⟩
end
instance instInhIDr : Inhabited ID := ⟨⟨0, 0⟩⟩
instance : Inhabited Blk := ⟨⟨0, 0, default, 0⟩⟩
instance : Inhabited Vote := ⟨⟨0, 0, default⟩⟩
section
variable {H : Type} {en : TypeId × Value → H} {W : World} {held : Bool} {r : Reach} {b0 : Nat} {v : Value} {d : DataW H} {p : List MemPlace}
/-- What a conf that is handed in holds. -/
def Cfg.Ok (c : Cfg) : Prop := U64 c.seed ∧ I64 c.epoch ∧ I64 c.num ∧ I64 c.den ∧ ∀ x ∈ c.W, I64 x
set_option maxRecDepth 100000 in
theorem open_ints1 {n : Nat} {A : Option Addr} {len cap : Nat} {y : DataW H × List MemPlace} (h : DataW.trod en Tryz.prog W 0 (fun _ => true) held n 22 [.slice A len cap] = some y) :
    ∃ l : List Int, len = l.length ∧ len ≤ cap ∧ cap ≤ maxLen ∧ Rd 1 encI W A l ∧ ∀ x ∈ l, I64 x :=
  open_sl encI_len Tryz.underlying22 cells_int (by decide) (fun n cs y h => by obtain ⟨x, rfl, k⟩ := read_i64 h; exact ⟨x, rfl, k⟩) h
set_option maxRecDepth 100000 in
theorem open_conf (hv : Value.okWide Tryz.prog W r b0 25 v) (h : DataW.Trod en Tryz.prog W 0 (fun _ => true) held 25 v d p) :
    ∃ (A : Option Addr) (c : Cfg) (k : Nat), v = cfgv A k c ∧ c.W.length ≤ k ∧ k ≤ maxLen ∧ Rd 1 encI W A c.W ∧ c.Ok := by
  obtain ⟨cs, rfl, hsz⟩ := okWide_struct Tryz.underlying25 hv
  obtain ⟨fuel, hf⟩ := h
  obtain ⟨hl, m, hf⟩ := trd_field Tryz.underlying25 hf
  simp only [Value.cells] at hl hf
  obtain ⟨l⟩ := cs
  simp only at hl hf
  rw [cells_conf] at hl
  obtain ⟨a, b, c, d, e, rfl⟩ := l5 hl
  simp only [List.mem_cons, List.not_mem_nil, or_false, forall_eq_or_imp, forall_eq] at hf
  obtain ⟨⟨_, h0⟩, ⟨_, h1⟩, ⟨_, h2⟩, ⟨_, h3⟩, ⟨_, h4⟩⟩ := hf
  simp only [cells_int, cells_ints, cells_u64, List.drop_zero, List.drop_succ_cons, List.take_succ_cons, List.take_zero] at h0 h1 h2 h3 h4
  obtain ⟨x1, e1, k1⟩ := read_u64 h1
  obtain ⟨x2, e2, k2⟩ := read_i64 h2
  obtain ⟨x3, e3, k3⟩ := read_i64 h3
  obtain ⟨x4, e4, k4⟩ := read_i64 h4
  simp only [List.cons.injEq, and_true] at e1 e2 e3 e4
  subst e1 e2 e3 e4
  have hsl : ∃ A len cap, a = Value.slice A len cap := by
    rcases DataW.trod_slice Tryz.underlying22 h0 with ⟨hc, _⟩ | ⟨a', len, cap, _, _, _, _, hc, _⟩
    · simp only [List.cons.injEq, and_true] at hc; exact ⟨_, _, _, hc⟩
    · simp only [List.cons.injEq, and_true] at hc; exact ⟨_, _, _, hc⟩
  obtain ⟨A, len, cap, rfl⟩ := hsl
  obtain ⟨l, rfl, hc, hm, hR, hk⟩ := open_ints1 h0
  exact ⟨A, ⟨l, x1, x2, x3, x4⟩, cap, rfl, hc, hm, hR, k1, k2, k3, k4, hk⟩
set_option maxRecDepth 100000 in
theorem open_blks (hv : Value.okWide Tryz.prog W r b0 26 v) (h : DataW.Trod en Tryz.prog W 0 (fun _ => true) held 26 v d p) :
    ∃ (A : Option Addr) (l : List Blk) (k : Nat), v = .slice A l.length k ∧ l.length ≤ k ∧ k ≤ maxLen ∧ Rd 5 encBlk W A l ∧ ∀ b ∈ l, b.Ok := by
  obtain ⟨A, len, cap, rfl⟩ := okWide_slice Tryz.underlying26 hv
  obtain ⟨fuel, hf⟩ := h
  obtain ⟨l, rfl, hc, hm, hR, hk⟩ := open_sl encBlk_len Tryz.underlying26 cells_blk (by decide) (fun n cs y h => read_blk h) hf
  exact ⟨A, l, cap, rfl, hc, hm, hR, hk⟩
set_option maxRecDepth 100000 in
theorem open_votes (hv : Value.okWide Tryz.prog W r b0 35 v) (h : DataW.Trod en Tryz.prog W 0 (fun _ => true) held 35 v d p) :
    ∃ (A : Option Addr) (l : List Vote) (k : Nat), v = .slice A l.length k ∧ l.length ≤ k ∧ k ≤ maxLen ∧ Rd 4 encVote W A l ∧ ∀ b ∈ l, b.Ok := by
  obtain ⟨A, len, cap, rfl⟩ := okWide_slice Tryz.underlying35 hv
  obtain ⟨fuel, hf⟩ := h
  obtain ⟨l, rfl, hc, hm, hR, hk⟩ := open_sl encVote_len Tryz.underlying35 cells_vote (by decide) (fun n cs y h => read_vote h) hf
  exact ⟨A, l, cap, rfl, hc, hm, hR, hk⟩
set_option maxRecDepth 100000 in
theorem open_id (hv : Value.okWide Tryz.prog W r b0 28 v) (h : DataW.Trod en Tryz.prog W 0 (fun _ => true) held 28 v d p) : ∃ x : ID, v = idv x ∧ x.Ok := by
  have hv' := hv
  obtain ⟨cs, rfl⟩ : ∃ cs, v = .agg cs := by
    have ht := Tryz.underlying28
    simp only [Value.okWide, ht] at hv'
    obtain ⟨cs, h1, _⟩ := hv'
    exact ⟨cs, h1⟩
  obtain ⟨fuel, hf⟩ := h
  obtain ⟨x, hx, k⟩ := read_id hf
  obtain ⟨l⟩ := cs
  simp only [Value.cells] at hx
  subst hx
  exact ⟨x, rfl, k⟩
end
end Go.Proofs.YtdocgemfedohdaaGreat
/-! More arguments read as data: a whole number, a vote, a block; a nil slice has no room. -/
namespace Go.Proofs.YtdocgemfedohdaaGreat
open Go.RowKit Go.ChangeShapes Go.WideShapes Go.ChangeAt
section
variable {H : Type} {en : TypeId × Value → H} {W : World} {held : Bool} {r : Reach} {b0 : Nat} {v : Value} {d : DataW H} {p : List MemPlace}
theorem none_cap {P : Program} {t e : TypeId} {n len cap : Nat} {A : Option Addr} {y : DataW H × List MemPlace} (ht : P.underlying t = some (.slice e)) (h : DataW.trod en P W 0 (fun _ => true) held n t [.slice A len cap] = some y) : A = none → cap = 0 := by
  intro e
  subst e
  rcases DataW.trod_slice ht h with ⟨hc, _⟩ | ⟨a', len, cap, _, _, _, _, hc, _⟩
  · simp only [List.cons.injEq, Value.slice.injEq, and_true] at hc
    exact hc.2.2
  · simp at hc
set_option maxRecDepth 100000 in
theorem open_blksN (hv : Value.okWide Tryz.prog W r b0 26 v) (h : DataW.Trod en Tryz.prog W 0 (fun _ => true) held 26 v d p) :
    ∃ (A : Option Addr) (l : List Blk) (k : Nat), v = .slice A l.length k ∧ l.length ≤ k ∧ k ≤ maxLen ∧ Rd 5 encBlk W A l ∧ (∀ b ∈ l, b.Ok) ∧ (A = none → k = 0) := by
  obtain ⟨A, l, k, rfl, h1, h2, h3, h4⟩ := open_blks hv h
  obtain ⟨fuel, hf⟩ := h
  exact ⟨A, l, k, rfl, h1, h2, h3, h4, none_cap Tryz.underlying26 hf⟩
set_option maxRecDepth 100000 in
theorem open_votesN (hv : Value.okWide Tryz.prog W r b0 35 v) (h : DataW.Trod en Tryz.prog W 0 (fun _ => true) held 35 v d p) :
    ∃ (A : Option Addr) (l : List Vote) (k : Nat), v = .slice A l.length k ∧ l.length ≤ k ∧ k ≤ maxLen ∧ Rd 4 encVote W A l ∧ (∀ b ∈ l, b.Ok) ∧ (A = none → k = 0) := by
  obtain ⟨A, l, k, rfl, h1, h2, h3, h4⟩ := open_votes hv h
  obtain ⟨fuel, hf⟩ := h
  exact ⟨A, l, k, rfl, h1, h2, h3, h4, none_cap Tryz.underlying35 hf⟩
set_option maxRecDepth 100000 in
theorem open_i (hv : Value.okWide Tryz.prog W r b0 3 v) (h : DataW.Trod en Tryz.prog W 0 (fun _ => true) held 3 v d p) : ∃ x : Int, v = .int .i64 x ∧ I64 x := by
  obtain ⟨x, rfl, _, _, w⟩ := open_int Tryz.underlying3 hv h
  exact ⟨x, rfl, wfI w⟩
set_option maxRecDepth 100000 in
theorem open_vote (hv : Value.okWide Tryz.prog W r b0 37 v) (h : DataW.Trod en Tryz.prog W 0 (fun _ => true) held 37 v d p) : ∃ x : Vote, v = votev x ∧ x.Ok := by
  obtain ⟨cs, rfl, _⟩ := okWide_struct Tryz.underlying37 hv
  obtain ⟨fuel, hf⟩ := h
  obtain ⟨x, hx, k⟩ := read_vote hf
  obtain ⟨l⟩ := cs
  simp only [Value.cells] at hx
  subst hx
  exact ⟨x, rfl, k⟩
def blkv (b : Blk) : Value := .agg #[.int .i64 b.slot, .int .i64 b.frm, .int .u64 b.par.hi, .int .u64 b.par.lo, .int .u64 b.salt]
set_option maxRecDepth 100000 in
theorem open_block (hv : Value.okWide Tryz.prog W r b0 51 v) (h : DataW.Trod en Tryz.prog W 0 (fun _ => true) held 51 v d p) : ∃ x : Blk, v = blkv x ∧ x.Ok := by
  obtain ⟨cs, rfl, _⟩ := okWide_struct Tryz.underlying51 hv
  obtain ⟨fuel, hf⟩ := h
  obtain ⟨x, hx, k⟩ := read_blk hf
  obtain ⟨l⟩ := cs
  simp only [Value.cells] at hx
  subst hx
  exact ⟨x, rfl, k⟩
end
end Go.Proofs.YtdocgemfedohdaaGreat
/-! A view that comes in: blocks, and votes. -/
namespace Go.Proofs.YtdocgemfedohdaaGreat
open Go.RowKit Go.ChangeShapes Go.WideShapes Go.ChangeAt
theorem cells_blks : Tryz.prog.cellsOf 26 = 1 := by kernel_rfl
theorem cells_votes : Tryz.prog.cellsOf 35 = 1 := by kernel_rfl
theorem cells_view : Tryz.prog.cellsOf 40 = 2 := by kernel_rfl
section
variable {H : Type} {en : TypeId × Value → H} {W : World} {held : Bool} {r : Reach} {b0 : Nat} {v : Value} {d : DataW H} {p : List MemPlace}
theorem is_sl {P : Program} {t e : TypeId} {n : Nat} {a : Value} {y : DataW H × List MemPlace} (ht : P.underlying t = some (.slice e)) (h : DataW.trod en P W 0 (fun _ => true) held n t [a] = some y) : ∃ A len cap, a = Value.slice A len cap := by
  rcases DataW.trod_slice ht h with ⟨hc, _⟩ | ⟨a', len, cap, _, _, _, _, hc, _⟩
  · simp only [List.cons.injEq, and_true] at hc; exact ⟨_, _, _, hc⟩
  · simp only [List.cons.injEq, and_true] at hc; exact ⟨_, _, _, hc⟩
set_option maxRecDepth 100000 in
theorem open_view (hv : Value.okWide Tryz.prog W r b0 40 v) (h : DataW.Trod en Tryz.prog W 0 (fun _ => true) held 40 v d p) :
    ∃ (A2 : Option Addr) (l : List Blk) (k2 : Nat) (A3 : Option Addr) (vs : List Vote) (k3 : Nat), v = .agg #[.slice A2 l.length k2, .slice A3 vs.length k3] ∧ l.length ≤ k2 ∧ k2 ≤ maxLen ∧ Rd 5 encBlk W A2 l ∧ (∀ b ∈ l, b.Ok) ∧ (A2 = none → k2 = 0) ∧ vs.length ≤ k3 ∧ k3 ≤ maxLen ∧ Rd 4 encVote W A3 vs ∧ (∀ b ∈ vs, b.Ok) ∧ (A3 = none → k3 = 0) := by
  obtain ⟨cs, rfl, hsz⟩ := okWide_struct Tryz.underlying40 hv
  obtain ⟨fuel, hf⟩ := h
  obtain ⟨hl, m, hf⟩ := trd_field Tryz.underlying40 hf
  simp only [Value.cells] at hl hf
  obtain ⟨l⟩ := cs
  simp only at hl hf
  rw [cells_view] at hl
  obtain ⟨a, b, rfl⟩ := l2 hl
  simp only [List.mem_cons, List.not_mem_nil, or_false, forall_eq_or_imp, forall_eq] at hf
  obtain ⟨⟨_, h0⟩, ⟨_, h1⟩⟩ := hf
  simp only [cells_blks, cells_votes, List.drop_zero, List.drop_succ_cons, List.take_succ_cons, List.take_zero] at h0 h1
  obtain ⟨A, len, cap, rfl⟩ := is_sl Tryz.underlying26 h0
  obtain ⟨A', len', cap', rfl⟩ := is_sl Tryz.underlying35 h1
  obtain ⟨l, rfl, hc, hm, hR, hk⟩ := open_sl encBlk_len Tryz.underlying26 cells_blk (by decide) (fun n cs y h => read_blk h) h0
  obtain ⟨l', rfl, hc', hm', hR', hk'⟩ := open_sl encVote_len Tryz.underlying35 cells_vote (by decide) (fun n cs y h => read_vote h) h1
  exact ⟨A, l, cap, A', l', cap', rfl, hc, hm, hR, hk, none_cap Tryz.underlying26 h0, hc', hm', hR', hk', none_cap Tryz.underlying35 h1⟩
set_option maxRecDepth 100000 in
theorem open_intsN (hv : Value.okWide Tryz.prog W r b0 22 v) (h : DataW.Trod en Tryz.prog W 0 (fun _ => true) held 22 v d p) :
    ∃ (A : Option Addr) (l : List Int) (k : Nat), v = .slice A l.length k ∧ l.length ≤ k ∧ k ≤ maxLen ∧ Rd 1 encI W A l ∧ (∀ b ∈ l, I64 b) ∧ (A = none → k = 0) := by
  obtain ⟨A, len, cap, rfl⟩ := okWide_slice Tryz.underlying22 hv
  obtain ⟨fuel, hf⟩ := h
  obtain ⟨l, rfl, hc, hm, hR, hk⟩ := open_ints1 hf
  exact ⟨A, l, cap, rfl, hc, hm, hR, hk, none_cap Tryz.underlying22 hf⟩
end
end Go.Proofs.YtdocgemfedohdaaGreat
/-! Numbers that may be, and products of them: the plain law, and the document's walks. -/
namespace Go.Proofs.YtdocgemfedohdaaGreat
open Go.RowKit
def NumOk (n : Int) : Prop := 0 ≤ n ∧ n ≤ 4611686018427387904
instance (n : Int) : Decidable (NumOk n) := by unfold NumOk; exact inferInstance
/-- Is a times b more than c times d, and may all be? -/
def moreB (a b c d : Int) : Bool := decide ((NumOk a ∧ NumOk b ∧ NumOk c ∧ NumOk d) ∧ c * d < a * b)
set_option maxHeartbeats 400000 in
theorem rtmay_any (n : Int) (w : World) :
    Calls Tryz.prog 67 #[.int .i64 n] w fun e w' => e = .returned (.bool (decide (NumOk n))) ∧ w' = w := by
  have hd : decide (NumOk n) = (decide (0 ≤ n) && decide (n ≤ 4611686018427387904)) := by rw [Bool.eq_iff_iff]; simp only [Bool.and_eq_true, decide_eq_true_eq]; exact Iff.rfl
  rw [hd]
  go_enter Tryz.func67, Tryz.ntmps67
  go_wp2_with fail
  all_goals
    go_ret
    refine ⟨ret_bool ?_, rfl⟩
    rw [Bool.eq_iff_iff]
    simp only [Bool.and_eq_true, decide_eq_true_eq, Bool.false_eq_true, false_iff]
    omega
set_option maxHeartbeats 400000 in
theorem fine1_any (n : Int) (w : World) :
    Calls Tryz.prog 66 #[.int .i64 n] w fun e w' => e = .returned (.bool (!decide (NumOk n))) ∧ w' = w := by
  have h := rtmay_any n w
  generalize decide (NumOk n) = d at h ⊢
  go_enter Tryz.func66, Tryz.ntmps66
  go_wp2_with (go_at_call 67; refine h.mono ?_; rintro e w' ⟨rfl, hw⟩; subst hw)
  go_ret
  exact ⟨rfl, rfl⟩
set_option maxRecDepth 100000 in
set_option maxHeartbeats 1000000 in
theorem rtindex_any (l : List Int) (A : Option Addr) (k : Nat) (w : World) (hr : Rd 1 encI w A l) :
    Calls Tryz.prog 76 #[.slice A l.length k, .func (.func 66) #[] #[]] w fun e w' => (∃ j : Int, e = .returned (.int .i64 j) ∧ decide (0 ≤ j) = !decide (∀ x ∈ l, NumOk x)) ∧ w' = w := by
  have hm := hr.1
  go_enter Tryz.func76, Tryz.ntmps76
  go_wp2_with fail
  go_loopw [5, 8] (fun _ i wr => ∃ j : Nat, j ≤ l.length ∧ i = .int .i64 j ∧ Hid (∀ x ∈ l.take j, NumOk x) ∧ wr = w) (fun _ i _ => l.length - (intOf i).toNat)
  case atStart => exact ⟨0, by omega, rfl, Lib.hid (by simp), rfl⟩
  case round =>
    obtain ⟨j, hj, rfl, hn, rfl⟩ := hrel
    by_cases hlt : j < l.length
    · obtain ⟨b, o, rfl, hbo, d0⟩ := hr.atI hlt
      have hou := fine1_any l[j] wr
      by_cases he : NumOk l[j]
      · have hst := Lib.hid (show ∀ x ∈ l.take (j + 1), NumOk x by
          intro x hx
          rw [← List.take_append_getElem hlt] at hx
          rcases List.mem_append.1 hx with h | h
          · exact hn.out x h
          · rw [List.mem_singleton.1 h]; exact he)
        have hd : (!decide (NumOk l[j])) = false := by simpa using he
        rw [hd] at hou
        clear he hd
        go_wp2_with (go_at_call 66; refine hou.mono ?_; clear hou; rintro e w' ⟨rfl, hw⟩; subst hw)
        go_roundw
        case rel => exact ⟨j + 1, hlt, by go_num, hst, trivial⟩
        case measure => simp [intOf]; omega
      · have hd : (!decide (NumOk l[j])) = true := by simpa using he
        rw [hd] at hou
        have he' := Lib.hid (show decide (∀ x ∈ l, NumOk x) = false from decide_eq_false fun h => he (h _ (List.getElem_mem hlt)))
        clear he hd
        go_wp2_with (go_at_call 66; refine hou.mono ?_; clear hou; rintro e w' ⟨rfl, hw⟩; subst hw)
        go_ret
        exact ⟨⟨_, rfl, by rw [he'.out]; simp⟩, rfl⟩
    · obtain rfl : j = l.length := by omega
      have hnn := Lib.hid (show decide (∀ x ∈ l, NumOk x) = true from decide_eq_true (by simpa using hn.out))
      go_wp2_with fail
      go_ret
      exact ⟨⟨_, rfl, by rw [hnn.out]; rfl⟩, rfl⟩
set_option maxRecDepth 100000 in
theorem rtcontains_any (l : List Int) (A : Option Addr) (k : Nat) (w : World) (hr : Rd 1 encI w A l) :
    Calls Tryz.prog 65 #[.slice A l.length k, .func (.func 66) #[] #[]] w fun e w' => e = .returned (.bool (!decide (∀ x ∈ l, NumOk x))) ∧ w' = w := by
  have hi := rtindex_any l A k w hr
  go_enter Tryz.func65, Tryz.ntmps65
  go_wp2_with (go_at_call 76; refine hi.mono ?_; clear hi; rintro e w' ⟨⟨j, rfl, hj⟩, hw⟩; subst hw)
  go_ret
  exact ⟨rfl, rfl⟩
set_option maxRecDepth 100000 in
theorem rtfine_any (l : List Int) (A : Option Addr) (k : Nat) (w : World) (hr : Rd 1 encI w A l) :
    Calls Tryz.prog 57 #[.slice A l.length k] w fun e w' => e = .returned (.bool (decide (∀ x ∈ l, NumOk x))) ∧ w' = w := by
  have hi := rtcontains_any l A k w hr
  generalize decide (∀ x ∈ l, NumOk x) = d at hi ⊢
  go_enter Tryz.func57, Tryz.ntmps57
  go_wp2_with (go_at_call 65; refine hi.mono ?_; clear hi; rintro e w' ⟨rfl, hw⟩; subst hw)
  go_ret
  exact ⟨ret_bool (by simp), rfl⟩
/-! A product in four parts. -/
def wU (a b : Int) : Int := a % 4294967296 * (b % 4294967296)
def wQ (a b : Int) : Int := a / 4294967296 * (b % 4294967296) + wU a b / 4294967296
def wR (a b : Int) : Int := a % 4294967296 * (b / 4294967296) + wQ a b % 4294967296
def wS (a b : Int) : Int := a / 4294967296 * (b / 4294967296) + wQ a b / 4294967296 + wR a b / 4294967296
theorem mul_bd {x y m n : Int} (h1 : 0 ≤ x) (h2 : x ≤ m) (h3 : 0 ≤ y) (h4 : y ≤ n) : 0 ≤ x * y ∧ x * y ≤ m * n := ⟨Int.mul_nonneg h1 h3, Int.mul_le_mul h2 h4 h3 (by omega)⟩
theorem wide_parts {a b : Int} (ha : NumOk a) (hb : NumOk b) :
    (0 ≤ wU a b ∧ wU a b < 18446744073709551616) ∧ (0 ≤ wQ a b ∧ wQ a b < 18446744073709551616) ∧ (0 ≤ wR a b ∧ wR a b < 18446744073709551616) ∧ (0 ≤ wS a b ∧ wS a b < 18446744073709551616) ∧ (0 ≤ a / 4294967296 * (b / 4294967296) + wQ a b / 4294967296 ∧ a / 4294967296 * (b / 4294967296) + wQ a b / 4294967296 < 18446744073709551616) ∧
    (0 ≤ a / 4294967296 * (b % 4294967296) ∧ a / 4294967296 * (b % 4294967296) < 18446744073709551616) ∧ (0 ≤ a % 4294967296 * (b / 4294967296) ∧ a % 4294967296 * (b / 4294967296) < 18446744073709551616) ∧ (0 ≤ a / 4294967296 * (b / 4294967296) ∧ a / 4294967296 * (b / 4294967296) < 18446744073709551616) ∧
    a * b = wS a b * 18446744073709551616 + wR a b % 4294967296 * 4294967296 + wU a b % 4294967296 := by
  obtain ⟨ha1, ha2⟩ := ha
  obtain ⟨hb1, hb2⟩ := hb
  have e : a * b = (a / 4294967296 * (b / 4294967296)) * 18446744073709551616 + (a / 4294967296 * (b % 4294967296) + a % 4294967296 * (b / 4294967296)) * 4294967296 + a % 4294967296 * (b % 4294967296) := by
    have h1 : a = a / 4294967296 * 4294967296 + a % 4294967296 := by omega
    have h2 : b = b / 4294967296 * 4294967296 + b % 4294967296 := by omega
    generalize a / 4294967296 = x at h1 ⊢
    generalize a % 4294967296 = y at h1 ⊢
    generalize b / 4294967296 = z at h2 ⊢
    generalize b % 4294967296 = t at h2 ⊢
    subst h1 h2
    simp only [Int.add_mul, Int.mul_add]
    have e1 : x * 4294967296 * (z * 4294967296) = x * z * 18446744073709551616 := by
      rw [show x * 4294967296 * (z * 4294967296) = x * z * (4294967296 * 4294967296) by ac_rfl]; rfl
    have e2 : y * (z * 4294967296) = y * z * 4294967296 := by ac_rfl
    have e3 : x * 4294967296 * t = x * t * 4294967296 := by ac_rfl
    omega
  have p00 := mul_bd (x := a % 4294967296) (y := b % 4294967296) (m := 4294967295) (n := 4294967295) (by omega) (by omega) (by omega) (by omega)
  have p10 := mul_bd (x := a / 4294967296) (y := b % 4294967296) (m := 1073741824) (n := 4294967295) (by omega) (by omega) (by omega) (by omega)
  have p01 := mul_bd (x := a % 4294967296) (y := b / 4294967296) (m := 4294967295) (n := 1073741824) (by omega) (by omega) (by omega) (by omega)
  have p11 := mul_bd (x := a / 4294967296) (y := b / 4294967296) (m := 1073741824) (n := 1073741824) (by omega) (by omega) (by omega) (by omega)
  unfold wS wR wQ wU
  generalize a / 4294967296 * (b / 4294967296) = x at *
  generalize a / 4294967296 * (b % 4294967296) = y at *
  generalize a % 4294967296 * (b / 4294967296) = z at *
  generalize a % 4294967296 * (b % 4294967296) = t at *
  omega
end Go.Proofs.YtdocgemfedohdaaGreat
/-! What some weigh: marigoldref05.Weight. -/
namespace Go.Proofs.YtdocgemfedohdaaGreat
open Go.RowKit
/-- What those below k weigh of which p is so. -/
def wsumTo (W : List Int) (p : Nat → Bool) : Nat → Int
  | 0 => 0
  | k + 1 => wsumTo W p k + (if p k then W[k]?.getD 0 else 0)
def weightC (c : Cfg) (who : List Int) : Int := if MayC c then wsumTo c.W (fun i => decide ((i : Int) ∈ who)) c.W.length else 0
def totalC (c : Cfg) : Int := if MayC c then wsumTo c.W (fun _ => true) c.W.length else 0
theorem wsumTo_bd {W : List Int} (h : ∀ x ∈ W, 0 ≤ x ∧ x ≤ 1099511627776) (p : Nat → Bool) (k : Nat) : 0 ≤ wsumTo W p k ∧ wsumTo W p k ≤ k * 1099511627776 := by
  induction k with
  | zero => simp [wsumTo]
  | succ k ih =>
    simp only [wsumTo]
    have hx : 0 ≤ W[k]?.getD 0 ∧ W[k]?.getD 0 ≤ 1099511627776 := by
      cases hk : W[k]? with
      | none => simp
      | some x => exact h x (List.mem_of_getElem? hk)
    split <;> omega
theorem MayC.W {c : Cfg} (h : MayC c) : ∀ x ∈ c.W, 0 ≤ x ∧ x ≤ 1099511627776 := h.1.2.2
theorem MayC.len {c : Cfg} (h : MayC c) : c.W.length ≤ 12 := h.1.2.1
end Go.Proofs.YtdocgemfedohdaaGreat
/-! The walks of duty.those's iterator, and of duty.sum over it. -/
namespace Go.Proofs.YtdocgemfedohdaaGreat
open Go.RowKit Go.Shelf
attribute [local go_sem] Oper.semAt_some
/-- Those below k, of m, of which p is so. -/
def those (m : Nat) (p : Nat → Bool) : Nat → List (Fin m)
  | 0 => []
  | k + 1 => if h : k < m then (if p k then those m p k ++ [⟨k, h⟩] else those m p k) else those m p k
theorem those_len (m : Nat) (p : Nat → Bool) (k : Nat) : (those m p k).length ≤ k := by
  induction k with
  | zero => simp [those]
  | succ k ih => simp only [those]; split <;> (try split) <;> (try simp only [List.length_append, List.length_singleton]) <;> omega
theorem those_yes {m k : Nat} {p : Nat → Bool} (h : k < m) (hp : p k = true) : those m p (k + 1) = those m p k ++ [⟨k, h⟩] := by simp [those, h, hp]
theorem those_no {m k : Nat} {p : Nat → Bool} (hp : p k = false) : those m p (k + 1) = those m p k := by simp [those, hp]
/-- What some weigh. -/
def sumF (W : List Int) (l : List (Fin W.length)) : Int := l.foldl (fun s i => s + W[i]) 0
theorem sumF_snoc (W : List Int) (l : List (Fin W.length)) (i : Fin W.length) : sumF W (l ++ [i]) = sumF W l + W[i] := by simp [sumF]
theorem sumF_those (W : List Int) (p : Nat → Bool) (k : Nat) (hk : k ≤ W.length) : sumF W (those W.length p k) = wsumTo W p k := by
  induction k with
  | zero => rfl
  | succ k ih =>
    have h : k < W.length := hk
    have ih := ih (by omega)
    cases hp : p k with
    | true => rw [those_yes h hp, sumF_snoc, ih]; simp [wsumTo, hp, h]
    | false => rw [those_no hp, ih]; simp [wsumTo, hp]
theorem sumF_bd {W : List Int} (h : ∀ x ∈ W, 0 ≤ x ∧ x ≤ 1099511627776) (l : List (Fin W.length)) : 0 ≤ sumF W l ∧ sumF W l ≤ l.length * 1099511627776 := by
  suffices H : ∀ (l : List (Fin W.length)) (s : Int), s ≤ l.foldl (fun s i => s + W[i]) s ∧ l.foldl (fun s i => s + W[i]) s ≤ s + l.length * 1099511627776 by
    have := H l 0; simpa [sumF] using this
  intro l
  induction l with
  | nil => intro s; simp
  | cons i l ih =>
    intro s
    have := ih (s + W[i])
    have hx := h W[i] (List.getElem_mem _)
    simp only [List.foldl_cons, List.length_cons]
    omega
/-- A conf lies in a block. -/
def ConfAt (w : World) (B : Nat) (A : Option Addr) (k : Nat) (c : Cfg) : Prop := w.heap[B]? = some (.cells #[.slice A c.W.length k, .int .u64 c.seed, .int .i64 c.epoch, .int .i64 c.num, .int .i64 c.den] 25 (0, 0))
theorem ConfAt.own {w w' : World} {B : Nat} {A : Option Addr} {k : Nat} {c : Cfg} (h : ConfAt w B A k c) (hb : Below w.heap.size w w') : ConfAt w' B A k c := bl_own hb h
set_option maxRecDepth 100000 in
set_option maxHeartbeats 2000000 in
/-- duty.those's closure, where what is asked of each is whether a map has it. -/
theorem those1_wt (F : Fence) (n : Nat) (h47 : F.fn 41) (hpf : F.fn 28) (hro : F.round = none) (hn : 1 ≤ n) (l Bc Bf n₀ : Nat) (c : Cfg) (A : Option Addr) (kc : Nat) (Bm : Nat) (p : Nat → Bool) (J Jx : List (Fin c.W.length) → World → Prop)
    (W : World) (hA : Rd 1 encI W A c.W) (hc : ConfAt W Bc A kc c) (hf : W.heap[Bf]? = some (.cells #[.func (.func 28) #[] #[.pointer (some ⟨Bm, 0, none⟩)]] 65 (0, 0))) (_ : n₀ ≤ W.heap.size) (_ : Bc < n₀) (hfn : Bf < n₀)
    (hP : ∀ (i : Nat) W', i < c.W.length → Below n₀ W W' → CallsIn F (n - 1) Tryz.prog 28 #[.int .i64 (i : Int), .pointer (some ⟨Bm, 0, none⟩)] W' fun e w' => e = .returned (.bool (p i)) ∧ w' = W')
    (hY : ∀ pre (x : Fin c.W.length) W, J pre W → pre.length < c.W.length → YieldAt F (n - 1) Tryz.prog l #[.int .i64 (x.val : Int)] W fun e W' =>
      (e = .returned (.bool true) ∧ J (pre ++ [x]) W' ∧ Below n₀ W W') ∨ (e = .returned (.bool false) ∧ Jx (pre ++ [x]) W')) (h0 : J [] W) :
    CallsIn F n Tryz.prog 41 #[.func (.yield l) #[] #[], .pointer (some ⟨Bc, 0, none⟩), .pointer (some ⟨Bf, 0, none⟩)] W fun e W' => (∃ v, e = .returned v) ∧
      ((∃ ys, ys = those c.W.length p c.W.length ∧ J ys W') ∨ (∃ pre, (∃ k, k < c.W.length ∧ p k = true ∧ pre = those c.W.length p (k + 1)) ∧ Jx pre W')) := by
  have hm := hA.1
  have c0 := blk_cell hc 0
  have hf0 := blk_cell hf 0
  refine callsIn_of_wp Tryz.func41 rfl h47 ?_ hro
  simp only [Tryz.ntmps41, List.size_toArray, List.length_cons, List.length_nil, Nat.reduceAdd, Nat.reduceSub, Array.replicate_succ, Array.replicate_zero, List.push_toArray, List.append_toArray, List.nil_append, List.cons_append]
  gi_wp2
  gi_loopw [8, 4] (fun i _x wr => ∃ k : Nat, k ≤ c.W.length ∧ i = .int .i64 k ∧ J (those c.W.length p k) wr ∧ Below n₀ W wr)
    (fun i _ _ => c.W.length - (intOf i).toNat)
  case atStart => exact ⟨0, Nat.zero_le _, rfl, h0, Below.refl _ _⟩
  case round =>
    obtain ⟨k, hk, rfl, hJs, hnx⟩ := hrel
    have hfx : wr.heap[Bf]? = some (.cells #[.func (.func 28) #[] #[.pointer (some ⟨Bm, 0, none⟩)]] 65 (0, 0)) := bl_blk hnx hf hfn
    have e0 := blk_cell hfx 0
    by_cases hlt : k < c.W.length
    · have hPk := hP k wr hlt hnx
      have hlen := those_len c.W.length p k
      cases hpk : p k with
      | true =>
        rw [hpk] at hPk
        obtain ⟨fn, tmps, assign, body, hy, hR⟩ := hY _ ⟨k, hlt⟩ wr hJs (Nat.lt_of_le_of_lt hlen hlt)
        dsimp only at hy
        have hth := Lib.hid (those_yes hlt hpk)
        have hpk' := Lib.hid hpk
        clear hpk hlen
        gi_wp2_with (gi_at_call 28; refine hPk.mono ?_; clear hPk; rintro e w' ⟨rfl, rfl⟩)
        refine hR.mono ?_
        rintro e W3 (⟨rfl, hJ3, hk3⟩ | ⟨rfl, hJx3⟩)
        · gi_wp2
          go_roundw
          case rel => exact ⟨k + 1, hlt, by go_num, by rw [hth.out]; exact hJ3, hnx.trans hk3⟩
          case measure => simp [intOf]; omega
        · gi_wp2
          refine bodyPost_ret (results_none rfl _ _ _) rfl ?_
          exact ⟨⟨_, rfl⟩, .inr ⟨_, ⟨k, hlt, hpk'.out, hth.out.symm⟩, hJx3⟩⟩
      | false =>
        rw [hpk] at hPk
        have hth := Lib.hid (those_no (m := c.W.length) hpk)
        clear hpk hlen
        gi_wp2_with (gi_at_call 28; refine hPk.mono ?_; clear hPk; rintro e w' ⟨rfl, rfl⟩)
        refine ⟨fun _ h => (by cases h), ?_⟩
        gi_wp2
        go_roundw
        case rel => exact ⟨k + 1, hlt, by go_num, by rw [hth.out]; exact hJs, hnx⟩
        case measure => simp [intOf]; omega
    · obtain rfl : k = c.W.length := by omega
      gi_wp2
      go_end0
      exact ⟨⟨_, rfl⟩, .inl ⟨_, rfl, hJs⟩⟩
end Go.Proofs.YtdocgemfedohdaaGreat
/-! The walk of duty.sum over duty.those. -/
namespace Go.Proofs.YtdocgemfedohdaaGreat
open Go.RowKit Go.Shelf
attribute [local go_sem] Oper.semAt_some
theorem blk_setCell_other (W : World) (p q : Addr) (v : Value) (h : q.block ≠ p.block) : (W.setCell p v).cell? q = W.cell? q := by simp only [World.cell?, heap_setCell_other W p q.block v h]
/-- What those weigh of whom p is so. -/
def sumC (c : Cfg) (p : Nat → Bool) : Int := if MayC c then wsumTo c.W p c.W.length else 0
def encF {m : Nat} (x : Fin m) : Array Value := #[.int .i64 (x.val : Int)]
/-- The iterator of those of whom p is so. -/
def ThoseK (F : Fence) (n : Nat) (Bc Bf n₀ : Nat) (m : Nat) (p : Nat → Bool) (w : World) : Prop :=
  SeqStopsK F n Tryz.prog 41 #[.pointer (some ⟨Bc, 0, none⟩), .pointer (some ⟨Bf, 0, none⟩)] (encF (m := m)) (Below n₀) (fun ys => ys = those m p m) (fun pre => ∃ k, k < m ∧ p k = true ∧ pre = those m p (k + 1)) m w
set_option maxRecDepth 100000 in
set_option maxHeartbeats 2000000 in
theorem sum_any (c : Cfg) (A : Option Addr) (k Bc Bf : Nat) (p : Nat → Bool) (w : World) (hr : Rd 1 encI w A c.W)
    (hseq : ∀ W, Below w.heap.size w W → ThoseK Fence.wide 2 Bc Bf w.heap.size c.W.length p W) :
    Calls Tryz.prog 27 #[cfgv A k c, .func (.func 41) #[] #[.pointer (some ⟨Bc, 0, none⟩), .pointer (some ⟨Bf, 0, none⟩)]] w fun e w' => e = .returned (.int .i64 (sumC c p)) ∧ Below w.heap.size w w' := by
  have hm := hr.1
  have hmay := fun W (hW : Below w.heap.size w W) => dmay_any c A k W (hr.below hW)
  have hmx : Tryz.prog.follows .mixedOrders = true := by kernel_rfl
  unfold cfgv at *
  have hW : ∃ W, w.alloc (.cells #[.slice A c.W.length k, .int .u64 c.seed, .int .i64 c.epoch, .int .i64 c.num, .int .i64 c.den] 25) = W := ⟨_, rfl⟩
  obtain ⟨W, hW⟩ := hW
  have hB : Below w.heap.size w W := by subst hW; exact (Below.refl _ w).alloc (Nat.le_refl _) _
  have hb : W.heap[w.heap.size]? = some (.cells #[.slice A c.W.length k, .int .u64 c.seed, .int .i64 c.epoch, .int .i64 c.num, .int .i64 c.den] 25 (0, 0)) := by subst hW; exact ha_at rfl
  have hsz : W.heap.size = w.heap.size + 1 := by subst hW; simp
  have c0 := blk_cell hb 0
  have hV : ∃ V, W.alloc (.cells #[.int .i64 0] 3) = V := ⟨_, rfl⟩
  obtain ⟨V, hV⟩ := hV
  have hBV : Below w.heap.size w V := by subst hV; exact hB.alloc hB.size _
  have hbV : V.heap[w.heap.size]? = some (.cells #[.slice A c.W.length k, .int .u64 c.seed, .int .i64 c.epoch, .int .i64 c.num, .int .i64 c.den] 25 (0, 0)) := by subst hV; exact ha_lt hb
  have hbn : V.heap[w.heap.size + 1]? = some (.cells #[.int .i64 0] 3 (0, 0)) := by subst hV; rw [← hsz]; exact ha_at rfl
  obtain ⟨cn, fn⟩ := blk1 hbn
  have hU : ∃ U, V.setCell ⟨w.heap.size + 1, 0, none⟩ (.int .i64 0) = U := ⟨_, rfl⟩
  obtain ⟨U, hU⟩ := hU
  have hBU : Below w.heap.size w U := by subst hU; exact hBV.setCell (p := ⟨w.heap.size + 1, 0, none⟩) (by simp) _
  have hbU : U.heap[w.heap.size]? = some (.cells #[.slice A c.W.length k, .int .u64 c.seed, .int .i64 c.epoch, .int .i64 c.num, .int .i64 c.den] 25 (0, 0)) := by subst hU; exact grown_own (grown_set _ _ _) hbV (by simp)
  have hbn2 : U.heap[w.heap.size + 1]? = some (.cells #[.int .i64 0] 3 (0, 0)) := by subst hU; exact Boxed.set _ hbn
  have d0 := blk_cell hbU 0
  have d1 := blk_cell hbU 1
  have d2 := blk_cell hbU 2
  have d3 := blk_cell hbU 3
  have d4 := blk_cell hbU 4
  obtain ⟨dn, gn⟩ := blk1 hbn2
  have hmay := hmay U hBU
  by_cases hmc : MayC c
  · have hd : decide (MayC c) = true := by simpa using hmc
    rw [hd] at hmay
    unfold sumC
    rw [if_pos hmc]
    have hWx := Lib.hid hmc.W
    have hlen := hmc.len
    clear hmc hd
    refine (callsIn_wide (n := 3)).1 ?_
    refine callsIn_of_wp_marks Tryz.func27 rfl trivial ?_ rfl
    simp only [Tryz.ntmps27, List.size_toArray, List.length_cons, List.length_nil, Nat.reduceAdd, Nat.reduceSub, Array.replicate_succ, Array.replicate_zero, List.push_toArray, List.append_toArray, List.nil_append, List.cons_append]
    gi_wp2_with (refine ⟨trivial, ?_⟩; gi_at_call 7; refine (callsIn_wide.2 hmay).mono ?_; clear hmay; rintro e w1 ⟨rfl, hb1⟩)
    have hB1 := below_call hBU hBU.size hb1
    have hbb := bl_own hb1 hbU
    have hbn1 := bl_own hb1 hbn2
    refine wpIn_rangeFunc_ownG rfl (by decide) (gf := 41) (lb := #[.pointer (some ⟨Bc, 0, none⟩), .pointer (some ⟨Bf, 0, none⟩)]) rfl trivial (enters_of Tryz.func41 (by kernel_rfl) rfl)
      (hseq w1 hB1) belowK_t (belowK_b hB1.size) (Below.refl _ _) (fun _ => rfl)
      (fun pre W => (W.cell? ⟨w.heap.size + 1, 0, none⟩ = some (.int .i64 (sumF c.W pre)) ∧ W.frozen? ⟨w.heap.size + 1, 0, none⟩ = false ∧ W.cell? ⟨w.heap.size, 0, none⟩ = some (.slice A c.W.length k)) ∧ Below w.heap.size w W)
      (fun _ _ _ => False)
      (OwnFrom.and (Own.from (fun s A B row hs hg hr => ⟨cell_kept hs.1 hg hr, (frozen_kept hs.1 hg hr).trans hs.2.1, cell_kept hs.2.2 hg hr⟩) _) (ownFrom_below (Nat.le_refl _) hB1.size))
      (fun _ _ _ _ _ hs _ _ => hs)
      ⟨⟨(blk1 hbn1).1, (blk1 hbn1).2, blk_cell hbb 0⟩, hB1⟩
      (fun x => { tmps := #[.agg #[.slice A c.W.length k, .int .u64 c.seed, .int .i64 c.epoch, .int .i64 c.num, .int .i64 c.den], .func (.func 41) #[] #[.pointer (some ⟨Bc, 0, none⟩), .pointer (some ⟨Bf, 0, none⟩)], .pointer (some ⟨w.heap.size, 0, none⟩), undef, .int .i64 0, .pointer (some ⟨w.heap.size + 1, 0, none⟩), .int .i64 (x.val : Int), .agg #[.slice A c.W.length k, .int .u64 c.seed, .int .i64 c.epoch, .int .i64 c.num, .int .i64 c.den], .bool true, .bool false, undef, .func (.func 41) #[] #[.pointer (some ⟨Bc, 0, none⟩), .pointer (some ⟨Bf, 0, none⟩)], .int .i64 (x.val : Int), undef, undef, undef, undef, undef, undef, undef, undef], defers := [] }) ?assign ?body ?done ?stop
    case assign =>
      intro l x W K hK
      unfold encF
      gi_wp2
      exact hK
    case body =>
      rintro l pre x W ⟨⟨hcn, hfn, hcc⟩, hBW⟩ hpl
      obtain ⟨b, o, rfl, hbo, d⟩ := (hr.below hBW).atI x.2
      have hbd := sumF_bd hWx.out pre
      have hsn := show sumF c.W (pre ++ [x]) = sumF c.W pre + c.W[x.val] from sumF_snoc c.W pre x
      obtain ⟨hy0, hy1⟩ := hWx.out _ (List.getElem_mem x.2)
      obtain ⟨y, hy⟩ : ∃ y, c.W[x.val] = y := ⟨_, rfl⟩
      rw [hy] at d hsn hy0 hy1
      clear hy
      obtain ⟨s, hs⟩ : ∃ s, sumF c.W pre = s := ⟨_, rfl⟩
      rw [hs] at hcn hbd hsn
      obtain ⟨hb1, hb2⟩ := hbd
      have hx12 := x.2
      have hb3 : s ≤ 13194139533312 := by omega
      have hsn' := Lib.hid hsn
      clear hsn hs
      gi_wp2
      gi_region_with_o fail
      all_goals gi_wp2
      all_goals (try go_bits)
      all_goals
        exact ⟨((KeepsOthers.setCell _ _ _).trans (KeepsOthers.drew _)).from _, ((Below.refl w.heap.size W).setCell (p := ⟨w.heap.size + 1, 0, none⟩) (by simp) _).drew,
          ⟨by rw [hsn'.out, cell_drew_own]; exact World.cell?_setCell_same' _ _ _ (by rw [hcn]; rfl), by rw [frozen_drew_own, World.frozen?_setCell]; exact hfn, by rw [cell_drew_own]; exact (Eq.trans (blk_setCell_other _ _ _ _ (by simp)) hcc)⟩, (hBW.setCell (p := ⟨w.heap.size + 1, 0, none⟩) (by simp) _).drew⟩
    case done =>
      rintro D ys W hD rfl ⟨⟨hcn, _, _⟩, hBW⟩ hK
      rw [sumF_those c.W p _ (Nat.le_refl _)] at hcn
      gi_wp2
      refine ⟨by simp, .inl ⟨_, _, rfl, run_takeDeferred hK, ?_⟩⟩
      exact ⟨_, results_tmp rfl _ _ _, rfl, hBW.trans (belowK_b (w := w1) hB1.size W D _ _ hD hK rfl rfl)⟩
    case stop =>
      rintro D c pre W _ _ h _
      exact h.elim
  · have hd : decide (MayC c) = false := by simpa using hmc
    rw [hd] at hmay
    unfold sumC
    rw [if_neg hmc]
    clear hmc hd
    go_enter Tryz.func27, Tryz.ntmps27
    go_wp2_with (go_at_call 7; refine hmay.mono ?_; clear hmay; rintro e w1 ⟨rfl, hb1⟩; have hB1 := below_call hBU hBU.size hb1; obtain ⟨dn1, gn1⟩ := blk1 (bl_own hb1 hbn2))
    go_ret
    exact ⟨rfl, hB1⟩
end Go.Proofs.YtdocgemfedohdaaGreat
