/- HD: several texts in one. -/
import Derived.Test.YtdocgemfedohdaaHA
import Derived.Test.YtdocgemfedohdaaHC
import Derived.ProofKit
import Derived.OpenShut
import Derived.ShutString
import Derived.ChangeOld
import Derived.Below
import Derived.Deep.Slices
import Derived.Lib.SliceRun
/-! Arguments read as data: a conf, blocks, votes, an ID. -/
namespace Go.Proofs.Ytdocgemfedohdaa
open Go.RowKit Go.ChangeShapes Go.WideShapes Go.ChangeAt
theorem addr_add (b o j : Nat) : (⟨b, o, none⟩ : Addr).add j = ⟨b, o + j, none⟩ := by unfold Addr.add; split <;> simp_all
section
variable {H : Type} {en : TypeId × Value → H} {P : Program} {W : World} {base : Nat} {spare : Nat → Bool} {held : Bool}
theorem trd_field {t : TypeId} {fs : Array Field} {n : Nat} {cs : List Value} {x : DataW H × List MemPlace} (ht : P.underlying t = some (.struct fs)) (h : DataW.trod en P W base spare held n t cs = some x) :
    cs.length = P.cellsOf t ∧ ∃ m, ∀ f ∈ fs.toList, ∃ y, DataW.trod en P W base spare held m f.type ((cs.drop f.offset).take (P.cellsOf f.type)) = some y := by
  obtain ⟨xs, m, _, _, hl, hx, hf⟩ := DataW.trod_struct ht h
  refine ⟨hl, m, fun f hm => ?_⟩
  obtain ⟨i, hi⟩ := List.mem_iff_getElem?.1 hm
  have hi' : fs[i]? = some f := by simpa using hi
  have hlt : i < xs.length := by rw [hx]; exact (Array.getElem?_eq_some_iff.1 hi').1
  exact ⟨xs[i], (hf i f hi').trans (List.getElem?_eq_getElem hlt)⟩
set_option maxRecDepth 100000 in
theorem open_sl {α : Type} [Inhabited α] {t e : TypeId} {k : Nat} {enc : α → List Value} {ok : α → Prop} (hlen : ∀ x, (enc x).length = k) (ht : P.underlying t = some (.slice e)) (hk : P.cellsOf e = k) (hk0 : 0 < k)
    (hel : ∀ n cs y, DataW.trod en P W 0 (fun _ => true) held n e cs = some y → ∃ x, cs = enc x ∧ ok x) {n : Nat} {A : Option Addr} {len cap : Nat} {y : DataW H × List MemPlace} (h : DataW.trod en P W 0 (fun _ => true) held n t [.slice A len cap] = some y) :
    ∃ l : List α, len = l.length ∧ len ≤ cap ∧ cap ≤ maxLen ∧ Rd k enc W A l ∧ ∀ x ∈ l, ok x := by
  rcases Go.Deep.open_slice ht h with ⟨hcs, _⟩ | ⟨a, len', cap', m, n', D, Pl, hcs, _, hlc, hcm, hm, _, hall⟩
  · simp only [List.cons.injEq, Value.slice.injEq, and_true] at hcs
    obtain ⟨rfl, rfl, rfl⟩ := hcs
    exact ⟨[], rfl, Nat.le_refl _, by decide, Rd_nil _ _ _ _, by simp⟩
  · simp only [List.cons.injEq, Value.slice.injEq, and_true] at hcs
    obtain ⟨rfl, rfl, rfl⟩ := hcs
    have hm' : m = cap := by rw [hm]; simp
    subst hm'
    have hx : ∀ i, i < m → ∃ x : α, W.cells? 0 (a.add (i * k)) k = some (enc x) ∧ ok x := fun i hi => by
      obtain ⟨cs', h1, h2⟩ := hall i hi
      obtain ⟨x, rfl, hok⟩ := hel _ _ _ h2
      rw [hk] at h1
      exact ⟨x, h1, hok⟩
    obtain ⟨f, hf⟩ := Go.Deep.choose_lt hx
    refine ⟨(List.range len).map f, by simp, hlc, hcm, ⟨by
      have : maxLen ≤ 9223372036854775807 := by decide
      simp
      omega, fun hne => ?_⟩, ?_⟩
    · have hl0 : 0 < len := by
        rcases Nat.eq_zero_or_pos len with h0 | h0
        · subst h0; simp at hne
        · exact h0
      have hcell : ∀ i, i < m → ∀ j, j < k → W.cell? (a.add (i * k + j)) = (enc (f i))[j]? := fun i hi j hj => by
        have := (World.cells?_some (hf i hi).1).2.2 j hj
        rwa [Go.Deep.add_add] at this
      have hc0 := hcell 0 (by omega) 0 hk0
      obtain ⟨u, hu⟩ : ∃ u, (enc (f 0))[0]? = some u := ⟨_, List.getElem?_eq_getElem (by rw [hlen]; exact hk0)⟩
      rw [hu] at hc0
      have hsp := World.cell?_spot hc0
      obtain ⟨b, o, sp⟩ := a
      have hadd : ∀ j, (⟨b, o, none⟩ : Addr).add j = ⟨b, o + j, none⟩ := addr_add b o
      have hsp' : sp = none := by simpa [Addr.add] using hsp
      subst hsp'
      refine ⟨b, o, rfl, ?_, fun i x hi j v hv => ?_⟩
      · have := World.block_lt_of_cell? W _ hc0
        simpa [hadd] using this
      · rw [List.getElem?_map] at hi
        rw [Option.map_eq_some_iff] at hi
        obtain ⟨i', hi', rfl⟩ := hi
        have hi2 : i < len ∧ i = i' := by
          have := List.getElem?_eq_some_iff.1 hi'
          obtain ⟨h1, h2⟩ := this
          simp at h1 h2
          exact ⟨h1, h2⟩
        obtain ⟨hil, rfl⟩ := hi2
        have hj : j < k := by rw [← hlen (f i)]; exact (List.getElem?_eq_some_iff.1 hv).1
        have := hcell i (by omega) j hj
        rw [hadd, hv] at this
        rw [Nat.add_assoc]
        exact this
    · intro x hx
      obtain ⟨i, hi, rfl⟩ := List.mem_map.1 hx
      exact (hf i (by have := List.mem_range.1 hi; omega)).2
end
/-- An ID whose words fit. -/
def ID.Ok (x : ID) : Prop := U64 x.hi ∧ U64 x.lo
def I64 (x : Int) : Prop := -9223372036854775808 ≤ x ∧ x ≤ 9223372036854775807
def Vote.Ok (v : Vote) : Prop := I64 v.frm ∧ I64 v.slot ∧ v.head.Ok
theorem wfU {x : Int} (h : (Lit.int .u64 x).wf = true) : U64 x := by have := bounds_u64 h; exact this
theorem wfI {x : Int} (h : (Lit.int .i64 x).wf = true) : I64 x := by have := bounds_i64 h; exact this
theorem cells_int : Try.prog.cellsOf 3 = 1 := by kernel_rfl
theorem cells_u64 : Try.prog.cellsOf 23 = 1 := by kernel_rfl
theorem cells_id : Try.prog.cellsOf 29 = 2 := by kernel_rfl
theorem cells_blk : Try.prog.cellsOf 49 = 5 := by kernel_rfl
theorem cells_conf : Try.prog.cellsOf 25 = 5 := by kernel_rfl
theorem cells_ints : Try.prog.cellsOf 22 = 1 := by kernel_rfl
theorem l2 {α : Type} {l : List α} (h : l.length = 2) : ∃ a b, l = [a, b] := by
  match l, h with
  | [a, b], _ => exact ⟨a, b, rfl⟩
theorem l4 {α : Type} {l : List α} (h : l.length = 4) : ∃ a b c d, l = [a, b, c, d] := by
  match l, h with
  | [a, b, c, d], _ => exact ⟨a, b, c, d, rfl⟩
theorem l5 {α : Type} {l : List α} (h : l.length = 5) : ∃ a b c d e, l = [a, b, c, d, e] := by
  match l, h with
  | [a, b, c, d, e], _ => exact ⟨a, b, c, d, e, rfl⟩
section
variable {H : Type} {en : TypeId × Value → H} {W : World} {base : Nat} {spare : Nat → Bool} {held : Bool} {n : Nat} {cs : List Value} {y : DataW H × List MemPlace}
theorem read_i64 (h : DataW.trod en Try.prog W base spare held n 3 cs = some y) : ∃ x, cs = [.int .i64 x] ∧ I64 x := by
  obtain ⟨x, rfl, _, hw⟩ := DataW.trod_int Try.underlying3 h
  exact ⟨x, rfl, wfI hw⟩
theorem read_u64 (h : DataW.trod en Try.prog W base spare held n 23 cs = some y) : ∃ x, cs = [.int .u64 x] ∧ U64 x := by
  obtain ⟨x, rfl, _, hw⟩ := DataW.trod_int Try.underlying23 h
  exact ⟨x, rfl, wfU hw⟩
set_option maxRecDepth 100000 in
theorem read_id (h : DataW.trod en Try.prog W base spare held n 29 cs = some y) : ∃ x : ID, cs = encID x ∧ x.Ok := by
  obtain ⟨xs, m, _, _, hl, hx, hf⟩ := DataW.trod_array Try.underlying29 h
  rw [cells_id] at hl
  obtain ⟨a, b, rfl⟩ := l2 hl
  have h0 := hf 0 (by decide)
  have h1 := hf 1 (by decide)
  rw [List.getElem?_eq_getElem (by omega)] at h0 h1
  simp only [cells_u64] at h0 h1
  obtain ⟨p, hp, kp⟩ := read_u64 h0
  obtain ⟨q, hq, kq⟩ := read_u64 h1
  simp only [Nat.zero_mul, Nat.one_mul, List.drop_zero, List.drop_succ_cons, List.take_succ_cons, List.take_zero, List.cons.injEq, and_true] at hp hq
  subst hp hq
  exact ⟨⟨p, q⟩, rfl, kp, kq⟩
theorem read_blk (h : DataW.trod en Try.prog W base spare held n 49 cs = some y) : ∃ b : Blk, cs = encBlk b ∧ b.Ok := by
  obtain ⟨hl, m, hf⟩ := trd_field Try.underlying49 h
  rw [cells_blk] at hl
  obtain ⟨a, b, c, d, e, rfl⟩ := l5 hl
  simp only [List.mem_cons, List.not_mem_nil, or_false, forall_eq_or_imp, forall_eq] at hf
  obtain ⟨⟨_, h0⟩, ⟨_, h1⟩, ⟨_, h2⟩, ⟨_, h3⟩⟩ := hf
  simp only [cells_int, cells_id, cells_u64, List.drop_zero, List.drop_succ_cons, List.take_succ_cons, List.take_zero] at h0 h1 h2 h3
  obtain ⟨x0, e0, k0⟩ := read_i64 h0
  obtain ⟨x1, e1, k1⟩ := read_i64 h1
  obtain ⟨x2, e2, k2⟩ := read_id h2
  obtain ⟨x3, e3, k3⟩ := read_u64 h3
  simp only [encID, List.cons.injEq, and_true] at e0 e1 e2 e3
  obtain ⟨rfl, rfl⟩ := e2
  subst e0 e1 e3
  exact ⟨⟨x0, x1, x2, x3⟩, rfl, ⟨k0, k1, k2.1, k2.2, k3⟩⟩
end
instance instInhIDr : Inhabited ID := ⟨⟨0, 0⟩⟩
instance : Inhabited Blk := ⟨⟨0, 0, default, 0⟩⟩
instance : Inhabited Vote := ⟨⟨0, 0, default⟩⟩
section
variable {H : Type} {en : TypeId × Value → H} {W : World} {held : Bool} {r : Reach} {b0 : Nat} {v : Value} {d : DataW H} {p : List MemPlace}
/-- What a conf that is handed in holds. -/
def Cfg.Ok (c : Cfg) : Prop := U64 c.seed ∧ I64 c.epoch ∧ I64 c.num ∧ I64 c.den ∧ ∀ x ∈ c.W, I64 x
set_option maxRecDepth 100000 in
theorem open_ints1 {n : Nat} {A : Option Addr} {len cap : Nat} {y : DataW H × List MemPlace} (h : DataW.trod en Try.prog W 0 (fun _ => true) held n 22 [.slice A len cap] = some y) :
    ∃ l : List Int, len = l.length ∧ len ≤ cap ∧ cap ≤ maxLen ∧ Rd 1 encI W A l ∧ ∀ x ∈ l, I64 x :=
  open_sl encI_len Try.underlying22 cells_int (by decide) (fun n cs y h => by obtain ⟨x, rfl, k⟩ := read_i64 h; exact ⟨x, rfl, k⟩) h
set_option maxRecDepth 100000 in
theorem open_conf (hv : Value.okWide Try.prog W r b0 25 v) (h : DataW.Trod en Try.prog W 0 (fun _ => true) held 25 v d p) :
    ∃ (A : Option Addr) (c : Cfg) (k : Nat), v = cfgv A k c ∧ c.W.length ≤ k ∧ k ≤ maxLen ∧ Rd 1 encI W A c.W ∧ c.Ok := by
  obtain ⟨cs, rfl, hsz⟩ := okWide_struct Try.underlying25 hv
  obtain ⟨fuel, hf⟩ := h
  obtain ⟨hl, m, hf⟩ := trd_field Try.underlying25 hf
  simp only [Value.cells] at hl hf
  obtain ⟨l⟩ := cs
  simp only at hl hf
  rw [cells_conf] at hl
  obtain ⟨a, b, c, d, e, rfl⟩ := l5 hl
  simp only [List.mem_cons, List.not_mem_nil, or_false, forall_eq_or_imp, forall_eq] at hf
  obtain ⟨⟨_, h0⟩, ⟨_, h1⟩, ⟨_, h2⟩, ⟨_, h3⟩, ⟨_, h4⟩⟩ := hf
  simp only [cells_int, cells_ints, cells_u64, List.drop_zero, List.drop_succ_cons, List.take_succ_cons, List.take_zero] at h0 h1 h2 h3 h4
  obtain ⟨x1, e1, k1⟩ := read_u64 h1
  obtain ⟨x2, e2, k2⟩ := read_i64 h2
  obtain ⟨x3, e3, k3⟩ := read_i64 h3
  obtain ⟨x4, e4, k4⟩ := read_i64 h4
  simp only [List.cons.injEq, and_true] at e1 e2 e3 e4
  subst e1 e2 e3 e4
  have hsl : ∃ A len cap, a = Value.slice A len cap := by
    rcases DataW.trod_slice Try.underlying22 h0 with ⟨hc, _⟩ | ⟨a', len, cap, _, _, _, _, hc, _⟩
    · simp only [List.cons.injEq, and_true] at hc; exact ⟨_, _, _, hc⟩
    · simp only [List.cons.injEq, and_true] at hc; exact ⟨_, _, _, hc⟩
  obtain ⟨A, len, cap, rfl⟩ := hsl
  obtain ⟨l, rfl, hc, hm, hR, hk⟩ := open_ints1 h0
  exact ⟨A, ⟨l, x1, x2, x3, x4⟩, cap, rfl, hc, hm, hR, k1, k2, k3, k4, hk⟩
set_option maxRecDepth 100000 in
theorem open_blks (hv : Value.okWide Try.prog W r b0 26 v) (h : DataW.Trod en Try.prog W 0 (fun _ => true) held 26 v d p) :
    ∃ (A : Option Addr) (l : List Blk) (k : Nat), v = .slice A l.length k ∧ l.length ≤ k ∧ k ≤ maxLen ∧ Rd 5 encBlk W A l ∧ ∀ b ∈ l, b.Ok := by
  obtain ⟨A, len, cap, rfl⟩ := okWide_slice Try.underlying26 hv
  obtain ⟨fuel, hf⟩ := h
  obtain ⟨l, rfl, hc, hm, hR, hk⟩ := open_sl encBlk_len Try.underlying26 cells_blk (by decide) (fun n cs y h => read_blk h) hf
  exact ⟨A, l, cap, rfl, hc, hm, hR, hk⟩
set_option maxRecDepth 100000 in
theorem open_id (hv : Value.okWide Try.prog W r b0 29 v) (h : DataW.Trod en Try.prog W 0 (fun _ => true) held 29 v d p) : ∃ x : ID, v = idv x ∧ x.Ok := by
  have hv' := hv
  obtain ⟨cs, rfl⟩ : ∃ cs, v = .agg cs := by
    have ht := Try.underlying29
    simp only [Value.okWide, ht] at hv'
    obtain ⟨cs, h1, _⟩ := hv'
    exact ⟨cs, h1⟩
  obtain ⟨fuel, hf⟩ := h
  obtain ⟨x, hx, k⟩ := read_id hf
  obtain ⟨l⟩ := cs
  simp only [Value.cells] at hx
  subst hx
  exact ⟨x, rfl, k⟩
end
end Go.Proofs.Ytdocgemfedohdaa
/-! More arguments read as data: a whole number, a vote, a block; a nil slice has no room. -/
namespace Go.Proofs.Ytdocgemfedohdaa
open Go.RowKit Go.ChangeShapes Go.WideShapes Go.ChangeAt
section
variable {H : Type} {en : TypeId × Value → H} {W : World} {held : Bool} {r : Reach} {b0 : Nat} {v : Value} {d : DataW H} {p : List MemPlace}
theorem none_cap {P : Program} {t e : TypeId} {n len cap : Nat} {A : Option Addr} {y : DataW H × List MemPlace} (ht : P.underlying t = some (.slice e)) (h : DataW.trod en P W 0 (fun _ => true) held n t [.slice A len cap] = some y) : A = none → cap = 0 := by
  intro e
  subst e
  rcases DataW.trod_slice ht h with ⟨hc, _⟩ | ⟨a', len, cap, _, _, _, _, hc, _⟩
  · simp only [List.cons.injEq, Value.slice.injEq, and_true] at hc
    exact hc.2.2
  · simp at hc
set_option maxRecDepth 100000 in
theorem open_blksN (hv : Value.okWide Try.prog W r b0 26 v) (h : DataW.Trod en Try.prog W 0 (fun _ => true) held 26 v d p) :
    ∃ (A : Option Addr) (l : List Blk) (k : Nat), v = .slice A l.length k ∧ l.length ≤ k ∧ k ≤ maxLen ∧ Rd 5 encBlk W A l ∧ (∀ b ∈ l, b.Ok) ∧ (A = none → k = 0) := by
  obtain ⟨A, l, k, rfl, h1, h2, h3, h4⟩ := open_blks hv h
  obtain ⟨fuel, hf⟩ := h
  exact ⟨A, l, k, rfl, h1, h2, h3, h4, none_cap Try.underlying26 hf⟩
set_option maxRecDepth 100000 in
theorem open_i (hv : Value.okWide Try.prog W r b0 3 v) (h : DataW.Trod en Try.prog W 0 (fun _ => true) held 3 v d p) : ∃ x : Int, v = .int .i64 x ∧ I64 x := by
  obtain ⟨x, rfl, _, _, w⟩ := open_int Try.underlying3 hv h
  exact ⟨x, rfl, wfI w⟩
def blkv (b : Blk) : Value := .agg #[.int .i64 b.slot, .int .i64 b.frm, .int .u64 b.par.hi, .int .u64 b.par.lo, .int .u64 b.salt]
set_option maxRecDepth 100000 in
theorem open_block (hv : Value.okWide Try.prog W r b0 49 v) (h : DataW.Trod en Try.prog W 0 (fun _ => true) held 49 v d p) : ∃ x : Blk, v = blkv x ∧ x.Ok := by
  obtain ⟨cs, rfl, _⟩ := okWide_struct Try.underlying49 hv
  obtain ⟨fuel, hf⟩ := h
  obtain ⟨x, hx, k⟩ := read_blk hf
  obtain ⟨l⟩ := cs
  simp only [Value.cells] at hx
  subst hx
  exact ⟨x, rfl, k⟩
end
end Go.Proofs.Ytdocgemfedohdaa
/-! Votes that nobody may have both (the plain law). -/
namespace Go.Proofs.Ytdocgemfedohdaa
structure Chk where
  epoch : Int
  root : ID
  deriving DecidableEq
structure Lnk where
  frm : Int
  src : Chk
  tgt : Chk
  deriving DecidableEq
def encLnk (x : Lnk) : List Value := [.int .i64 x.frm, .int .i64 x.src.epoch, .int .u64 x.src.root.hi, .int .u64 x.src.root.lo, .int .i64 x.tgt.epoch, .int .u64 x.tgt.root.hi, .int .u64 x.tgt.root.lo]
def lnkv (x : Lnk) : Value := .agg #[.int .i64 x.frm, .int .i64 x.src.epoch, .int .u64 x.src.root.hi, .int .u64 x.src.root.lo, .int .i64 x.tgt.epoch, .int .u64 x.tgt.root.hi, .int .u64 x.tgt.root.lo]
def Spans (a b : Lnk) : Prop := a.src.epoch < b.src.epoch ∧ b.tgt.epoch < a.tgt.epoch
def Pair (a b : Lnk) : Prop := a.frm = b.frm ∧ (Spans a b ∨ Spans b a ∨ (a ≠ b ∧ a.tgt.epoch = b.tgt.epoch))
instance (a b : Lnk) : Decidable (Spans a b) := by unfold Spans; exact inferInstance
instance (a b : Lnk) : Decidable (Pair a b) := by unfold Pair; exact inferInstance
theorem pair_symm {a b : Lnk} : Pair a b ↔ Pair b a := by
  unfold Pair
  constructor
  · rintro ⟨h, h1 | h1 | ⟨h1, h2⟩⟩
    · exact ⟨h.symm, .inr (.inl h1)⟩
    · exact ⟨h.symm, .inl h1⟩
    · exact ⟨h.symm, .inr (.inr ⟨fun e => h1 e.symm, h2.symm⟩)⟩
  · rintro ⟨h, h1 | h1 | ⟨h1, h2⟩⟩
    · exact ⟨h.symm, .inr (.inl h1)⟩
    · exact ⟨h.symm, .inl h1⟩
    · exact ⟨h.symm, .inr (.inr ⟨fun e => h1 e.symm, h2.symm⟩)⟩
theorem pair_irrefl (a : Lnk) : ¬ Pair a a := by
  rintro ⟨_, h1 | h1 | ⟨h1, _⟩⟩
  · unfold Spans at h1; omega
  · unfold Spans at h1; omega
  · exact h1 rfl
/-- f has two such. -/
def Guilt (v : List Lnk) (f : Int) : Prop := ∃ x ∈ v, ∃ y ∈ v, Pair x y ∧ x.frm = f
/-- The numbers rise. -/
def Rises : List Int → Prop
  | [] => True
  | x :: xs => (∀ y ∈ xs, x < y) ∧ Rises xs
def IsGuilty (v : List Lnk) (g : List Int) : Prop := Rises g ∧ ∀ f, f ∈ g ↔ Guilt v f
theorem rises_uniq : ∀ {g h : List Int}, Rises g → Rises h → (∀ f, f ∈ g ↔ f ∈ h) → g = h
  | [], [], _, _, _ => rfl
  | [], y :: ys, _, _, e => by have := (e y).2 (by simp); simp at this
  | x :: xs, [], _, _, e => by have := (e x).1 (by simp); simp at this
  | x :: xs, y :: ys, hg, hh, e => by
    have hxy : x = y := by
      have h1 := (e x).1 (by simp)
      have h2 := (e y).2 (by simp)
      simp only [List.mem_cons] at h1 h2
      rcases h1 with h1 | h1
      · exact h1
      · rcases h2 with h2 | h2
        · exact h2.symm
        · have := hh.1 x h1; have := hg.1 y h2; omega
    subst hxy
    congr 1
    refine rises_uniq hg.2 hh.2 (fun f => ?_)
    constructor
    · intro hf
      have := (e f).1 (by simp [hf])
      simp only [List.mem_cons] at this
      rcases this with h | h
      · subst h; have := hg.1 f hf; omega
      · exact h
    · intro hf
      have := (e f).2 (by simp [hf])
      simp only [List.mem_cons] at this
      rcases this with h | h
      · subst h; have := hh.1 f hf; omega
      · exact h
theorem guilty_uniq {v : List Lnk} {g h : List Int} (hg : IsGuilty v g) (hh : IsGuilty v h) : g = h := rises_uniq hg.1 hh.1 (fun f => (hg.2 f).trans (hh.2 f).symm)
/-- Who is found by looking back only. -/
theorem guilt_back (v : List Lnk) (f : Int) : Guilt v f ↔ ∃ i, ∃ h : i < v.length, (∃ x ∈ v.take i, Pair v[i] x) ∧ v[i].frm = f := by
  constructor
  · rintro ⟨x, hx, y, hy, hp, hf⟩
    obtain ⟨i, hi, rfl⟩ := List.getElem_of_mem hx
    obtain ⟨j, hj, rfl⟩ := List.getElem_of_mem hy
    rcases Nat.lt_trichotomy i j with h | h | h
    · exact ⟨j, hj, ⟨v[i], List.mem_take_iff_getElem.2 ⟨i, by omega, rfl⟩, pair_symm.1 hp⟩, by rw [← hf]; exact hp.1.symm⟩
    · subst h; exact absurd hp (pair_irrefl _)
    · exact ⟨i, hi, ⟨v[j], List.mem_take_iff_getElem.2 ⟨j, by omega, rfl⟩, hp⟩, hf⟩
  · rintro ⟨i, hi, ⟨x, hx, hp⟩, hf⟩
    exact ⟨v[i], List.getElem_mem hi, x, List.mem_of_mem_take hx, hp, hf⟩
theorem guilt_more {v : List Lnk} {a : Lnk} {f : Int} (h : Guilt v f) : Guilt (v ++ [a]) f := by
  obtain ⟨x, hx, y, hy, hp, hf⟩ := h
  exact ⟨x, by simp [hx], y, by simp [hy], hp, hf⟩
theorem guilt_new {v : List Lnk} {a : Lnk} {f : Int} (h : Guilt (v ++ [a]) f) : Guilt v f ∨ f = a.frm := by
  obtain ⟨x, hx, y, hy, hp, hf⟩ := h
  rw [List.mem_append, List.mem_singleton] at hx hy
  rcases hx with hx | rfl
  · rcases hy with hy | rfl
    · exact .inl ⟨x, hx, y, hy, hp, hf⟩
    · exact .inr (by rw [← hf]; exact hp.1)
  · exact .inr hf.symm
theorem guilt_twice {a : Lnk} {f : Int} : ¬ Guilt [a, a] f := by
  rintro ⟨x, hx, y, hy, hp, _⟩
  simp at hx hy
  subst hx
  subst hy
  exact pair_irrefl _ hp
/-- Only one's own votes count. -/
theorem guilt_own {v : List Lnk} {w f : Int} : Guilt (v.filter (fun x => decide (x.frm = w))) f ↔ Guilt v f ∧ f = w := by
  constructor
  · rintro ⟨x, hx, y, hy, hp, hf⟩
    simp only [List.mem_filter, decide_eq_true_eq] at hx hy
    exact ⟨⟨x, hx.1, y, hy.1, hp, hf⟩, by rw [← hf]; exact hx.2⟩
  · rintro ⟨⟨x, hx, y, hy, hp, hf⟩, rfl⟩
    refine ⟨x, ?_, y, ?_, hp, hf⟩
    · simp only [List.mem_filter, decide_eq_true_eq]; exact ⟨hx, hf⟩
    · simp only [List.mem_filter, decide_eq_true_eq]; exact ⟨hy, by rw [← hf]; exact hp.1.symm⟩
theorem own_one {v : List Lnk} {w : Int} {g n : List Int} (hg : IsGuilty v g) (hn : IsGuilty (v.filter (fun x => decide (x.frm = w))) n) : n = if w ∈ g then [w] else [] := by
  by_cases h : w ∈ g
  · rw [if_pos h]
    refine rises_uniq hn.1 ⟨by simp, trivial⟩ (fun f => ?_)
    rw [hn.2, guilt_own, List.mem_singleton, ← hg.2]
    constructor
    · exact fun h => h.2
    · rintro rfl; exact ⟨h, rfl⟩
  · rw [if_neg h]
    refine rises_uniq hn.1 trivial (fun f => ?_)
    rw [hn.2, guilt_own, ← hg.2]
    simp only [List.not_mem_nil, iff_false]
    rintro ⟨h1, rfl⟩
    exact h h1
/-- Who has but one vote is not guilty. -/
theorem own_two {v : List Lnk} {w : Int} (h : Guilt v w) : 1 < (v.filter (fun x => decide (x.frm = w))).length := by
  obtain ⟨x, hx, y, hy, hp, hf⟩ := (guilt_own (w := w) (f := w)).2 ⟨h, rfl⟩
  generalize v.filter (fun x => decide (x.frm = w)) = l at hx hy
  match l, hx, hy with
  | [], hx, _ => simp at hx
  | [a], hx, hy =>
    simp at hx hy
    subst hx
    subst hy
    exact absurd hp (pair_irrefl _)
  | a :: b :: r, _, _ => simp
/-! The insertion of one more into rising numbers, and what sorting and dropping doubles leaves. -/
theorem rises_le {g : List Int} (h : Rises g) : ∀ i j (hi : i < g.length) (hj : j < g.length), i < j → g[i] < g[j] := by
  induction g with
  | nil => intro i j hi; simp at hi
  | cons x xs ih =>
    intro i j hi hj hij
    cases j with
    | zero => omega
    | succ j =>
      cases i with
      | zero => exact h.1 _ (List.getElem_mem _)
      | succ i => exact ih h.2 i j (by simpa using hi) (by simpa using hj) (by omega)
theorem rises_of {g : List Int} (h : ∀ i (hi : i + 1 < g.length), g[i] < g[i + 1]) : Rises g := by
  induction g with
  | nil => trivial
  | cons x xs ih =>
    have hr : Rises xs := ih (fun i hi => by have := h (i + 1) (by simpa using hi); simpa using this)
    refine ⟨fun y hy => ?_, hr⟩
    obtain ⟨k, hk, rfl⟩ := List.getElem_of_mem hy
    have h0 := h 0 (by simp; omega)
    simp only [List.getElem_cons_zero, List.getElem_cons_succ] at h0
    cases k with
    | zero => exact h0
    | succ k =>
      have := rises_le hr 0 (k + 1) (by omega) hk (by omega)
      omega
end Go.Proofs.Ytdocgemfedohdaa
/-! Two votes that nobody may have both, walked. -/
namespace Go.Proofs.Ytdocgemfedohdaa
open Go.RowKit
theorem encLnk_len (x : Lnk) : (encLnk x).length = 7 := rfl
theorem encLnk_one (x : Lnk) : ∀ u ∈ encLnk x, u.oneCell' = true := by intro u hu; simp [encLnk] at hu; rcases hu with rfl | rfl | rfl | rfl | rfl | rfl | rfl <;> rfl
theorem infoL : (Try.prog.info? 33).map (fun i => (i.zero, i.size, i.bytes)) = some (some (.agg #[.int .i64 0, .int .i64 0, .int .u64 0, .int .u64 0, .int .i64 0, .int .u64 0, .int .u64 0]), 7, 56) := by kernel_rfl
theorem Rd.atL {w : World} {A : Option Addr} {xs : List Lnk} (h : Rd 7 encLnk w A xs) {i : Nat} (hi : i < xs.length) :
    ∃ b o, A = some ⟨b, o, none⟩ ∧ b < w.heap.size ∧ w.cell? ⟨b, o + i * 7, none⟩ = some (.int .i64 xs[i].frm) ∧ w.cell? ⟨b, o + i * 7 + 1, none⟩ = some (.int .i64 xs[i].src.epoch) ∧
      w.cell? ⟨b, o + i * 7 + 2, none⟩ = some (.int .u64 xs[i].src.root.hi) ∧ w.cell? ⟨b, o + i * 7 + 3, none⟩ = some (.int .u64 xs[i].src.root.lo) ∧ w.cell? ⟨b, o + i * 7 + 4, none⟩ = some (.int .i64 xs[i].tgt.epoch) ∧
      w.cell? ⟨b, o + i * 7 + 5, none⟩ = some (.int .u64 xs[i].tgt.root.hi) ∧ w.cell? ⟨b, o + i * 7 + 6, none⟩ = some (.int .u64 xs[i].tgt.root.lo) := by
  obtain ⟨b, o, hA, hlt, hc⟩ := h.at hi
  exact ⟨b, o, hA, hlt, hc 0 _ rfl, hc 1 _ rfl, hc 2 _ rfl, hc 3 _ rfl, hc 4 _ rfl, hc 5 _ rfl, hc 6 _ rfl⟩
theorem blkL {w : World} {b : Nat} {x0 x1 x2 x3 x4 x5 x6 : Value} {T : TypeId} (h : w.heap[b]? = some (.cells #[x0, x1, x2, x3, x4, x5, x6] T (0, 0))) :
    w.cell? ⟨b, 0, none⟩ = some x0 ∧ w.cell? ⟨b, 1, none⟩ = some x1 ∧ w.cell? ⟨b, 2, none⟩ = some x2 ∧ w.cell? ⟨b, 3, none⟩ = some x3 ∧ w.cell? ⟨b, 4, none⟩ = some x4 ∧ w.cell? ⟨b, 5, none⟩ = some x5 ∧ w.cell? ⟨b, 6, none⟩ = some x6 :=
  ⟨blk_cell h 0, blk_cell h 1, blk_cell h 2, blk_cell h 3, blk_cell h 4, blk_cell h 5, blk_cell h 6⟩
def chkv (x : Chk) : Value := .agg #[.int .i64 x.epoch, .int .u64 x.root.hi, .int .u64 x.root.lo]
theorem eqlIn_chk (d : Nat) (x y : Chk) (w : World) : (Op.equalIn (d + 3) 31 (chkv x) (chkv y)).run Try.prog w = .ok (decide (x = y)) w := by
  have u := Try.underlying31
  have hid := fun (a b c e : Int) w => show (Op.equalIn (d + 2) 29 (.agg #[.int .u64 a, .int .u64 b]) (.agg #[.int .u64 c, .int .u64 e])).run Try.prog w = .ok (decide ((⟨a, b⟩ : ID) = ⟨c, e⟩)) w from eqlIn_id d ⟨a, b⟩ ⟨c, e⟩ w
  have u3 := Try.underlying3
  have u25 := Try.underlying29
  have p := fun cs off v h w => part_int (P := Try.prog) u3 cs off v h w
  have p25 := fun (a b c : Int) w => show (part 29 #[.int .i64 a, .int .u64 b, .int .u64 c] 1).run Try.prog w = .ok (.agg #[.int .u64 b, .int .u64 c]) w by
    simp [part, isAgg, run_underlying u25, Try.sizeOf29]
  unfold chkv
  rw [run_equalIn_struct _ _ _ _ _ (by kernel_rfl) (by kernel_rfl)]
  simp only [Program.fieldsOf, u]
  obtain ⟨x1, x2, x3⟩ := x
  obtain ⟨y1, y2, y3⟩ := y
  by_cases h1 : x1 = y1 <;> by_cases h2 : x2 = y2 <;> by_cases h3 : x3 = y3 <;> simp [Op.eqFields, p, p25, hid, run_equalIn_int _ _ _ _ _ _ _ u3, h1, h2, h3]
theorem eqlIn_lnk (d : Nat) (x y : Lnk) (w : World) : (Op.equalIn (d + 4) 33 (lnkv x) (lnkv y)).run Try.prog w = .ok (decide (x = y)) w := by
  have u := Try.underlying33
  have hid := fun (a b c a' b' c' : Int) w => show (Op.equalIn (d + 3) 31 (.agg #[.int .i64 a, .int .u64 b, .int .u64 c]) (.agg #[.int .i64 a', .int .u64 b', .int .u64 c'])).run Try.prog w = .ok (decide ((⟨a, b, c⟩ : Chk) = ⟨a', b', c'⟩)) w from eqlIn_chk d ⟨a, b, c⟩ ⟨a', b', c'⟩ w
  have u3 := Try.underlying3
  have u25 := Try.underlying31
  have p := fun cs off v h w => part_int (P := Try.prog) u3 cs off v h w
  have p1 := fun (a b c e f g h : Int) w => show (part 31 #[.int .i64 a, .int .i64 b, .int .u64 c, .int .u64 e, .int .i64 f, .int .u64 g, .int .u64 h] 1).run Try.prog w = .ok (.agg #[.int .i64 b, .int .u64 c, .int .u64 e]) w by
    simp [part, isAgg, run_underlying u25, Try.sizeOf31]
  have p2 := fun (a b c e f g h : Int) w => show (part 31 #[.int .i64 a, .int .i64 b, .int .u64 c, .int .u64 e, .int .i64 f, .int .u64 g, .int .u64 h] 4).run Try.prog w = .ok (.agg #[.int .i64 f, .int .u64 g, .int .u64 h]) w by
    simp [part, isAgg, run_underlying u25, Try.sizeOf31]
  unfold lnkv
  rw [run_equalIn_struct _ _ _ _ _ (by kernel_rfl) (by kernel_rfl)]
  simp only [Program.fieldsOf, u]
  obtain ⟨x1, ⟨x2, x3, x4⟩, ⟨x5, x6, x7⟩⟩ := x
  obtain ⟨y1, ⟨y2, y3, y4⟩, ⟨y5, y6, y7⟩⟩ := y
  by_cases e0 : x1 = y1 <;> by_cases e1 : (⟨x2, x3, x4⟩ : Chk) = ⟨y2, y3, y4⟩ <;> by_cases e2 : (⟨x5, x6, x7⟩ : Chk) = ⟨y5, y6, y7⟩ <;> simp [Op.eqFields, p, p1, p2, hid, run_equalIn_int _ _ _ _ _ _ _ u3, e0, e1, e2]
theorem eqlIn_vt (d : Nat) (x y : Lnk) (w : World) : (Op.equalIn (d + 5) 100 (lnkv x) (lnkv y)).run Try.prog w = .ok (decide (x = y)) w := by
  have u := Try.underlying100
  have hid := fun w => eqlIn_lnk d x y w
  have u25 := Try.underlying33
  have p1 := fun (z : Lnk) w => show (part 33 #[.int .i64 z.frm, .int .i64 z.src.epoch, .int .u64 z.src.root.hi, .int .u64 z.src.root.lo, .int .i64 z.tgt.epoch, .int .u64 z.tgt.root.hi, .int .u64 z.tgt.root.lo] 0).run Try.prog w = .ok (.agg #[.int .i64 z.frm, .int .i64 z.src.epoch, .int .u64 z.src.root.hi, .int .u64 z.src.root.lo, .int .i64 z.tgt.epoch, .int .u64 z.tgt.root.hi, .int .u64 z.tgt.root.lo]) w by
    simp [part, isAgg, run_underlying u25, Try.sizeOf33]
  unfold lnkv at *
  rw [run_equalIn_struct _ _ _ _ _ (by kernel_rfl) (by kernel_rfl)]
  simp only [Program.fieldsOf, u]
  by_cases e0 : x = y
  · subst e0; simp [Op.eqFields, p1, hid]
  · simp [Op.eqFields, p1, hid, e0]
theorem neq_vtw (x y : Lnk) (w : World) : (binOp .neq 100 (.agg #[.int .i64 x.frm, .int .i64 x.src.epoch, .int .u64 x.src.root.hi, .int .u64 x.src.root.lo, .int .i64 x.tgt.epoch, .int .u64 x.tgt.root.hi, .int .u64 x.tgt.root.lo]) (.agg #[.int .i64 y.frm, .int .i64 y.src.epoch, .int .u64 y.src.root.hi, .int .u64 y.src.root.lo, .int .i64 y.tgt.epoch, .int .u64 y.tgt.root.hi, .int .u64 y.tgt.root.lo])).run Try.prog w = .ok (.bool (!decide (x = y))) w := by
  have h := eqlIn_vt 9995 x y w
  unfold lnkv at h
  rw [run_neq_struct, h]
  rfl
theorem neq_lnkw (x y : Lnk) (w : World) : (binOp .neq 33 (.agg #[.int .i64 x.frm, .int .i64 x.src.epoch, .int .u64 x.src.root.hi, .int .u64 x.src.root.lo, .int .i64 x.tgt.epoch, .int .u64 x.tgt.root.hi, .int .u64 x.tgt.root.lo]) (.agg #[.int .i64 y.frm, .int .i64 y.src.epoch, .int .u64 y.src.root.hi, .int .u64 y.src.root.lo, .int .i64 y.tgt.epoch, .int .u64 y.tgt.root.hi, .int .u64 y.tgt.root.lo])).run Try.prog w = .ok (.bool (!decide (x = y))) w := by
  have h := eqlIn_lnk 9996 x y w
  unfold lnkv at h
  rw [run_neq_struct, h]
  rfl
theorem spans_dec (a b : Lnk) : decide (Spans a b) = decide (a.src.epoch < b.src.epoch ∧ b.tgt.epoch < a.tgt.epoch) := rfl
set_option maxRecDepth 100000 in
set_option maxHeartbeats 1000000 in
theorem spans_any (a b : Lnk) (w : World) : Calls Try.prog 72 #[lnkv a, lnkv b] w fun e w' => e = .returned (.bool (decide (Spans a b))) ∧ Below w.heap.size w w' := by
  unfold lnkv
  have hW : ∃ W, ((w.alloc (.cells #[.int .i64 a.frm, .int .i64 a.src.epoch, .int .u64 a.src.root.hi, .int .u64 a.src.root.lo, .int .i64 a.tgt.epoch, .int .u64 a.tgt.root.hi, .int .u64 a.tgt.root.lo] 100)).alloc (.cells #[.int .i64 b.frm, .int .i64 b.src.epoch, .int .u64 b.src.root.hi, .int .u64 b.src.root.lo, .int .i64 b.tgt.epoch, .int .u64 b.tgt.root.hi, .int .u64 b.tgt.root.lo] 100)) = W := ⟨_, rfl⟩
  obtain ⟨W, hW⟩ := hW
  have hB : Below w.heap.size w W := by subst hW; exact (((Below.refl _ w).alloc (by simp) _).alloc (by simp) _)
  have b0 : W.heap[w.heap.size]? = some (.cells #[.int .i64 a.frm, .int .i64 a.src.epoch, .int .u64 a.src.root.hi, .int .u64 a.src.root.lo, .int .i64 a.tgt.epoch, .int .u64 a.tgt.root.hi, .int .u64 a.tgt.root.lo] 100 (0, 0)) := by subst hW; exact ha_lt (ha_at (by simp))
  obtain ⟨c0, c1, c2, c3, c4, c5, c6⟩ := blkL b0
  have b1 : W.heap[w.heap.size + 1]? = some (.cells #[.int .i64 b.frm, .int .i64 b.src.epoch, .int .u64 b.src.root.hi, .int .u64 b.src.root.lo, .int .i64 b.tgt.epoch, .int .u64 b.tgt.root.hi, .int .u64 b.tgt.root.lo] 100 (0, 0)) := by subst hW; exact ha_at (by simp)
  obtain ⟨d0, d1, d2, d3, d4, d5, d6⟩ := blkL b1
  go_enter Try.func72, Try.ntmps72
  go_wp2_with fail
  all_goals
    go_ret
    refine ⟨ret_bool ?_, hB⟩
    rw [Bool.eq_iff_iff]
    simp only [decide_eq_true_eq, Bool.false_eq_true, false_iff]
    unfold Spans
    omega
set_option maxRecDepth 100000 in
set_option maxHeartbeats 1000000 in
theorem spanned_any (a b : Lnk) (w : World) : Calls Try.prog 73 #[lnkv a, lnkv b] w fun e w' => e = .returned (.bool (decide (Spans b a))) ∧ Below w.heap.size w w' := by
  have hs := fun V => spans_any b a V
  unfold lnkv at *
  have hW : ∃ W, ((w.alloc (.cells #[.int .i64 a.frm, .int .i64 a.src.epoch, .int .u64 a.src.root.hi, .int .u64 a.src.root.lo, .int .i64 a.tgt.epoch, .int .u64 a.tgt.root.hi, .int .u64 a.tgt.root.lo] 100)).alloc (.cells #[.int .i64 b.frm, .int .i64 b.src.epoch, .int .u64 b.src.root.hi, .int .u64 b.src.root.lo, .int .i64 b.tgt.epoch, .int .u64 b.tgt.root.hi, .int .u64 b.tgt.root.lo] 100)) = W := ⟨_, rfl⟩
  obtain ⟨W, hW⟩ := hW
  have hB : Below w.heap.size w W := by subst hW; exact (((Below.refl _ w).alloc (by simp) _).alloc (by simp) _)
  have b0 : W.heap[w.heap.size]? = some (.cells #[.int .i64 a.frm, .int .i64 a.src.epoch, .int .u64 a.src.root.hi, .int .u64 a.src.root.lo, .int .i64 a.tgt.epoch, .int .u64 a.tgt.root.hi, .int .u64 a.tgt.root.lo] 100 (0, 0)) := by subst hW; exact ha_lt (ha_at (by simp))
  obtain ⟨c0, c1, c2, c3, c4, c5, c6⟩ := blkL b0
  have b1 : W.heap[w.heap.size + 1]? = some (.cells #[.int .i64 b.frm, .int .i64 b.src.epoch, .int .u64 b.src.root.hi, .int .u64 b.src.root.lo, .int .i64 b.tgt.epoch, .int .u64 b.tgt.root.hi, .int .u64 b.tgt.root.lo] 100 (0, 0)) := by subst hW; exact ha_at (by simp)
  obtain ⟨d0, d1, d2, d3, d4, d5, d6⟩ := blkL b1
  obtain ⟨q, hq⟩ : ∃ q, decide (Spans b a) = q := ⟨_, rfl⟩
  rw [hq] at hs ⊢
  clear hq
  go_enter Try.func73, Try.ntmps73
  go_wp2_with (go_at_call 72; with_reducible refine (hs _).mono ?_; clear hs; rintro e w1 ⟨rfl, hb1⟩; have hB1 := below_call hB hB.size hb1)
  go_ret
  exact ⟨rfl, hB1⟩
def Twice (a b : Lnk) : Prop := a ≠ b ∧ a.tgt.epoch = b.tgt.epoch
instance (a b : Lnk) : Decidable (Twice a b) := by unfold Twice; exact inferInstance
set_option maxRecDepth 100000 in
set_option maxHeartbeats 1000000 in
theorem twice_any (a b : Lnk) (w : World) : Calls Try.prog 74 #[lnkv a, lnkv b] w fun e w' => e = .returned (.bool (decide (Twice a b))) ∧ Below w.heap.size w w' := by
  have hne := neq_vtw a b
  unfold lnkv Twice
  have hW : ∃ W, ((w.alloc (.cells #[.int .i64 a.frm, .int .i64 a.src.epoch, .int .u64 a.src.root.hi, .int .u64 a.src.root.lo, .int .i64 a.tgt.epoch, .int .u64 a.tgt.root.hi, .int .u64 a.tgt.root.lo] 100)).alloc (.cells #[.int .i64 b.frm, .int .i64 b.src.epoch, .int .u64 b.src.root.hi, .int .u64 b.src.root.lo, .int .i64 b.tgt.epoch, .int .u64 b.tgt.root.hi, .int .u64 b.tgt.root.lo] 100)) = W := ⟨_, rfl⟩
  obtain ⟨W, hW⟩ := hW
  have hB : Below w.heap.size w W := by subst hW; exact (((Below.refl _ w).alloc (by simp) _).alloc (by simp) _)
  have b0 : W.heap[w.heap.size]? = some (.cells #[.int .i64 a.frm, .int .i64 a.src.epoch, .int .u64 a.src.root.hi, .int .u64 a.src.root.lo, .int .i64 a.tgt.epoch, .int .u64 a.tgt.root.hi, .int .u64 a.tgt.root.lo] 100 (0, 0)) := by subst hW; exact ha_lt (ha_at (by simp))
  obtain ⟨c0, c1, c2, c3, c4, c5, c6⟩ := blkL b0
  have b1 : W.heap[w.heap.size + 1]? = some (.cells #[.int .i64 b.frm, .int .i64 b.src.epoch, .int .u64 b.src.root.hi, .int .u64 b.src.root.lo, .int .i64 b.tgt.epoch, .int .u64 b.tgt.root.hi, .int .u64 b.tgt.root.lo] 100 (0, 0)) := by subst hW; exact ha_at (by simp)
  obtain ⟨d0, d1, d2, d3, d4, d5, d6⟩ := blkL b1
  by_cases he : a = b
  · have hd : decide (a = b) = true := by simpa using he
    rw [hd] at hne
    have he' := Lib.hid he
    clear he hd
    go_enter Try.func74, Try.ntmps74
    go_wp2_with fail
    go_ret
    exact ⟨ret_bool (by simp [he'.out]), hB⟩
  · have hd : decide (a = b) = false := by simpa using he
    rw [hd] at hne
    have he' := Lib.hid he
    clear he hd
    go_enter Try.func74, Try.ntmps74
    go_wp2_with fail
    go_ret
    exact ⟨ret_bool (by rw [Bool.eq_iff_iff]; simp [he'.out]), hB⟩
end Go.Proofs.Ytdocgemfedohdaa
/-! Links, lists of links, ints and IDs that come in. -/
namespace Go.Proofs.Ytdocgemfedohdaa
open Go.RowKit Go.ChangeShapes Go.WideShapes Go.ChangeAt
def Chk.Ok (x : Chk) : Prop := I64 x.epoch ∧ x.root.Ok
def Lnk.Ok (x : Lnk) : Prop := I64 x.frm ∧ x.src.Ok ∧ x.tgt.Ok
theorem cells_chk : Try.prog.cellsOf 31 = 3 := by kernel_rfl
theorem cells_lnk : Try.prog.cellsOf 33 = 7 := by kernel_rfl
theorem l3 {α : Type} {l : List α} (h : l.length = 3) : ∃ a b c, l = [a, b, c] := by
  match l, h with
  | [a, b, c], _ => exact ⟨a, b, c, rfl⟩
theorem l7 {α : Type} {l : List α} (h : l.length = 7) : ∃ a b c d e f g, l = [a, b, c, d, e, f, g] := by
  match l, h with
  | [a, b, c, d, e, f, g], _ => exact ⟨a, b, c, d, e, f, g, rfl⟩
def encChk (x : Chk) : List Value := [.int .i64 x.epoch, .int .u64 x.root.hi, .int .u64 x.root.lo]
instance instInhChk : Inhabited Chk := ⟨⟨0, ⟨0, 0⟩⟩⟩
instance instInhLnk : Inhabited Lnk := ⟨⟨0, default, default⟩⟩
section
variable {H : Type} {en : TypeId × Value → H} {W : World} {base : Nat} {spare : Nat → Bool} {held : Bool} {n : Nat} {cs : List Value} {y : DataW H × List MemPlace}
set_option maxRecDepth 100000 in
theorem read_chk (h : DataW.trod en Try.prog W base spare held n 31 cs = some y) : ∃ v : Chk, cs = encChk v ∧ v.Ok := by
  obtain ⟨hl, m, hf⟩ := trd_field Try.underlying31 h
  rw [cells_chk] at hl
  obtain ⟨a, b, c, rfl⟩ := l3 hl
  simp only [List.mem_cons, List.not_mem_nil, or_false, forall_eq_or_imp, forall_eq] at hf
  obtain ⟨⟨_, h0⟩, ⟨_, h1⟩⟩ := hf
  simp only [cells_int, cells_id, List.drop_zero, List.drop_succ_cons, List.take_succ_cons, List.take_zero] at h0 h1
  obtain ⟨x0, e0, k0⟩ := read_i64 h0
  obtain ⟨x1, e1, k1⟩ := read_id h1
  simp only [encID, List.cons.injEq, and_true] at e0 e1
  obtain ⟨rfl, rfl⟩ := e1
  subst e0
  exact ⟨⟨x0, x1⟩, rfl, k0, k1⟩
set_option maxRecDepth 100000 in
theorem read_lnk (h : DataW.trod en Try.prog W base spare held n 33 cs = some y) : ∃ v : Lnk, cs = encLnk v ∧ v.Ok := by
  obtain ⟨hl, m, hf⟩ := trd_field Try.underlying33 h
  rw [cells_lnk] at hl
  obtain ⟨a, b, c, d, e, f, g, rfl⟩ := l7 hl
  simp only [List.mem_cons, List.not_mem_nil, or_false, forall_eq_or_imp, forall_eq] at hf
  obtain ⟨⟨_, h0⟩, ⟨_, h1⟩, ⟨_, h2⟩⟩ := hf
  simp only [cells_int, cells_chk, List.drop_zero, List.drop_succ_cons, List.take_succ_cons, List.take_zero] at h0 h1 h2
  obtain ⟨x0, e0, k0⟩ := read_i64 h0
  obtain ⟨x1, e1, k1⟩ := read_chk h1
  obtain ⟨x2, e2, k2⟩ := read_chk h2
  simp only [encChk, List.cons.injEq, and_true] at e0 e1 e2
  obtain ⟨rfl, rfl, rfl⟩ := e1
  obtain ⟨rfl, rfl, rfl⟩ := e2
  subst e0
  exact ⟨⟨x0, x1, x2⟩, rfl, k0, k1, k2⟩
end
section
variable {H : Type} {en : TypeId × Value → H} {W : World} {held : Bool} {r : Reach} {b0 : Nat} {v : Value} {d : DataW H} {p : List MemPlace}
set_option maxRecDepth 100000 in
theorem open_lnk (hv : Value.okWide Try.prog W r b0 33 v) (h : DataW.Trod en Try.prog W 0 (fun _ => true) held 33 v d p) : ∃ x : Lnk, v = lnkv x ∧ x.Ok := by
  obtain ⟨cs, rfl, _⟩ := okWide_struct Try.underlying33 hv
  obtain ⟨fuel, hf⟩ := h
  obtain ⟨x, hx, k⟩ := read_lnk hf
  obtain ⟨l⟩ := cs
  simp only [Value.cells] at hx
  subst hx
  exact ⟨x, rfl, k⟩
set_option maxRecDepth 100000 in
theorem open_lnks (hv : Value.okWide Try.prog W r b0 27 v) (h : DataW.Trod en Try.prog W 0 (fun _ => true) held 27 v d p) :
    ∃ (A : Option Addr) (l : List Lnk) (k : Nat), v = .slice A l.length k ∧ l.length ≤ k ∧ k ≤ maxLen ∧ Rd 7 encLnk W A l ∧ (∀ b ∈ l, b.Ok) ∧ (A = none → k = 0) := by
  obtain ⟨A, len, cap, rfl⟩ := okWide_slice Try.underlying27 hv
  obtain ⟨fuel, hf⟩ := h
  obtain ⟨l, rfl, hc, hm, hR, hk⟩ := open_sl encLnk_len Try.underlying27 cells_lnk (by decide) (fun n cs y h => read_lnk h) hf
  exact ⟨A, l, cap, rfl, hc, hm, hR, hk, none_cap Try.underlying27 hf⟩
set_option maxRecDepth 100000 in
theorem open_intsN (hv : Value.okWide Try.prog W r b0 22 v) (h : DataW.Trod en Try.prog W 0 (fun _ => true) held 22 v d p) :
    ∃ (A : Option Addr) (l : List Int) (k : Nat), v = .slice A l.length k ∧ l.length ≤ k ∧ k ≤ maxLen ∧ Rd 1 encI W A l ∧ (∀ b ∈ l, I64 b) ∧ (A = none → k = 0) := by
  obtain ⟨A, len, cap, rfl⟩ := okWide_slice Try.underlying22 hv
  obtain ⟨fuel, hf⟩ := h
  obtain ⟨l, rfl, hc, hm, hR, hk⟩ := open_sl encI_len Try.underlying22 cells_int (by decide) (fun n cs y h => by obtain ⟨x, rfl, k⟩ := read_i64 h; exact ⟨x, rfl, k⟩) hf
  exact ⟨A, l, cap, rfl, hc, hm, hR, hk, none_cap Try.underlying22 hf⟩
theorem encID_len' (x : ID) : (encID x).length = 2 := rfl
set_option maxRecDepth 100000 in
theorem open_idsN (hv : Value.okWide Try.prog W r b0 67 v) (h : DataW.Trod en Try.prog W 0 (fun _ => true) held 67 v d p) :
    ∃ (A : Option Addr) (l : List ID) (k : Nat), v = .slice A l.length k ∧ l.length ≤ k ∧ k ≤ maxLen ∧ Rd 2 encID W A l ∧ (∀ b ∈ l, b.Ok) ∧ (A = none → k = 0) := by
  obtain ⟨A, len, cap, rfl⟩ := okWide_slice Try.underlying67 hv
  obtain ⟨fuel, hf⟩ := h
  obtain ⟨l, rfl, hc, hm, hR, hk⟩ := open_sl encID_len' Try.underlying67 cells_id (by decide) (fun n cs y h => read_id h) hf
  exact ⟨A, l, cap, rfl, hc, hm, hR, hk, none_cap Try.underlying67 hf⟩
end
end Go.Proofs.Ytdocgemfedohdaa
/-! Whether two votes may not both be, walked. -/
namespace Go.Proofs.Ytdocgemfedohdaa
open Go.RowKit
def encWy (v : Value) : List Value := [v]
theorem Rd.atF {w : World} {A : Option Addr} {xs : List Value} (h : Rd 1 encWy w A xs) {i : Nat} (hi : i < xs.length) :
    ∃ b o, A = some ⟨b, o, none⟩ ∧ b < w.heap.size ∧ w.cell? ⟨b, o + i, none⟩ = some xs[i] := by
  obtain ⟨b, o, hA, hlt, hc⟩ := h.at hi
  exact ⟨b, o, hA, hlt, by simpa using hc 0 _ rfl⟩
theorem any_step {α : Type} {p : α → Bool} {xs : List α} {k : Nat} (hlt : k < xs.length) (h : (xs.take k).any p = false) (hk : p xs[k] = false) : (xs.take (k + 1)).any p = false := by
  rw [← List.take_append_getElem hlt, List.any_append, h]
  simp [hk]
theorem any_at {α : Type} {p : α → Bool} {xs : List α} {k : Nat} (hlt : k < xs.length) (hk : p xs[k] = true) : xs.any p = true := List.any_eq_true.2 ⟨_, List.getElem_mem hlt, hk⟩
/-- Where the first one is, or -1. -/
def idxP {α : Type} (p : α → Bool) (xs : List α) : Int := if xs.any p then ((xs.findIdx p : Nat) : Int) else -1
theorem findIdx_at {α : Type} {p : α → Bool} {xs : List α} {k : Nat} (hlt : k < xs.length) (h : (xs.take k).any p = false) (hk : p xs[k] = true) : xs.findIdx p = k := by
  rw [List.findIdx_eq hlt]
  refine ⟨hk, fun j hj => ?_⟩
  rw [List.any_eq_false] at h
  simpa using h xs[j] (List.mem_take_iff_getElem.2 ⟨j, by omega, rfl⟩)
theorem idxP_at {α : Type} {p : α → Bool} {xs : List α} {k : Nat} (hlt : k < xs.length) (h : (xs.take k).any p = false) (hk : p xs[k] = true) : idxP p xs = k := by
  unfold idxP
  rw [if_pos (any_at hlt hk), findIdx_at hlt h hk]
theorem idxP_none {α : Type} {p : α → Bool} {xs : List α} (h : xs.any p = false) : idxP p xs = -1 := by unfold idxP; rw [h]; rfl
theorem idxP_geq {α : Type} {p : α → Bool} (xs : List α) : decide (0 ≤ idxP p xs) = xs.any p := by
  unfold idxP
  cases xs.any p <;> simp
set_option maxRecDepth 100000 in
set_option maxHeartbeats 1000000 in
theorem fidx_any (p : Value → Bool) (fs : List Value) (A : Option Addr) (c : Nat) (p1 p2 : Value) (w : World) (hr : Rd 1 encWy w A fs)
    (h : ∀ f ∈ fs, ∀ V, Below w.heap.size w V → Calls Try.prog 93 #[f, p1, p2] V fun e V' => e = .returned (.bool (p f)) ∧ Below V.heap.size V V') :
    Calls Try.prog 115 #[.slice A fs.length c, .func (.func 93) #[] #[p1, p2]] w fun e w' =>
      e = .returned (.int .i64 (idxP p fs)) ∧ Below w.heap.size w w' := by
  have hm := hr.1
  have hh := Lib.hid h
  clear h
  go_enter Try.func115, Try.ntmps115
  go_wp2_with fail
  go_loopw [5, 8] (fun u5 i wr => ∃ k : Nat, k ≤ fs.length ∧ i = .int .i64 k ∧ Hid ((fs.take k).any p = false) ∧ Below w.heap.size w wr) (fun _ i _ => fs.length - (intOf i).toNat)
  case atStart => exact ⟨0, Nat.zero_le _, rfl, Lib.hid (by simp), Below.refl _ _⟩
  case round =>
    obtain ⟨k, hk, rfl, hno, hB⟩ := hrel
    by_cases hlt : k < fs.length
    · obtain ⟨b, o, rfl, hbo, d⟩ := (hr.below hB).atF hlt
      have hst := Lib.hid (fun e => any_step hlt hno.out e)
      have hst2 := Lib.hid (fun e => idxP_at hlt hno.out e)
      have hc := Lib.hid (hh.out fs[k] (List.getElem_mem hlt))
      obtain ⟨f, hf⟩ : ∃ f, fs[k] = f := ⟨_, rfl⟩
      have hst' := Lib.hid (show p f = false → (fs.take (k + 1)).any p = false from hf ▸ hst.out)
      have hst2' := Lib.hid (show p f = true → idxP p fs = k from hf ▸ hst2.out)
      have hc' := Lib.hid (show ∀ V, Below w.heap.size w V → Calls Try.prog 93 #[f, p1, p2] V fun e V' => e = .returned (.bool (p f)) ∧ Below V.heap.size V V' from hf ▸ hc.out)
      clear hst hst2 hc
      rw [hf] at d
      clear hf
      cases hp : p f with
      | true =>
        have hx := Lib.hid (hst2'.out hp)
        have hcc := hc'.out _ hB
        rw [hp] at hcc
        clear hp hst' hst2' hc'
        go_wp2_with (go_at_call 93; with_reducible refine hcc.mono ?_; clear hcc; rintro e w1 ⟨rfl, hb1⟩)
        go_ret
        exact ⟨ret_int hx.out.symm, below_call hB hB.size hb1⟩
      | false =>
        have hx := Lib.hid (hst'.out hp)
        have hcc := hc'.out _ hB
        rw [hp] at hcc
        clear hp hst' hst2' hc'
        go_wp2_with (go_at_call 93; with_reducible refine hcc.mono ?_; clear hcc; rintro e w1 ⟨rfl, hb1⟩)
        go_roundw
        case rel => exact ⟨k + 1, hlt, by go_num, hx, below_call hB hB.size hb1⟩
        case measure => simp [intOf]; omega
    · obtain rfl : k = fs.length := by omega
      have hx := Lib.hid (show idxP p fs = -1 from idxP_none (by have := hno.out; rwa [List.take_length] at this))
      go_wp2_with fail
      go_ret
      exact ⟨ret_int hx.out.symm, hB⟩
set_option maxRecDepth 100000 in
set_option maxHeartbeats 1000000 in
theorem fany_any (p : Value → Bool) (fs : List Value) (A : Option Addr) (c : Nat) (p1 p2 : Value) (w : World) (hr : Rd 1 encWy w A fs)
    (h : ∀ f ∈ fs, ∀ V, Below w.heap.size w V → Calls Try.prog 93 #[f, p1, p2] V fun e V' => e = .returned (.bool (p f)) ∧ Below V.heap.size V V') :
    Calls Try.prog 92 #[.slice A fs.length c, .func (.func 93) #[] #[p1, p2]] w fun e w' =>
      e = .returned (.bool (fs.any p)) ∧ Below w.heap.size w w' := by
  have hm := hr.1
  have hc := fidx_any p fs A c p1 p2 w hr h
  have hg := idxP_geq (p := p) fs
  clear h
  obtain ⟨r, hr'⟩ : ∃ r, idxP p fs = r := ⟨_, rfl⟩
  rw [hr'] at hc hg
  have hg' := Lib.hid hg
  clear hr' hg
  go_enter Try.func92, Try.ntmps92
  go_wp2_with (go_at_call 115; with_reducible refine hc.mono ?_; clear hc; rintro e w1 ⟨rfl, hb1⟩)
  go_ret
  exact ⟨ret_bool hg'.out, hb1⟩
end Go.Proofs.Ytdocgemfedohdaa
