/- GA: several texts in one. -/
import Derived.Test.YtaohkcdfjjiggaaGreatProg
import Derived.WalkKit
import Derived.WalkSpells
import Derived.WalkLawsBesides
import Derived.OneCell
import Derived.ScopeJumps
import Derived.Maps.AppendAt
import Derived.OwnWalk
import Derived.Deep.QuietTactic
import Derived.BigQuiet
import Derived.Lib.Hide
import Derived.Deep.RegionHeld3
import Derived.StillTailTactics
import Derived.Maps.OwnOps
import Derived.Maps.OwnSet
import Derived.Maps.RangeWalk
import Derived.Laws.StructEq
import Derived.KernelRfl
import Derived.Laws.AppendOwnNone
import Derived.StillTail
/-! Words for what lies in memory: slices that are read, boxes, and what a call leaves as it was. -/
namespace Go.Proofs.YtaohkcdfjjiggaaGreat
open Go.RowKit

theorem ret_int {k : IntKind} {a b : Int} (h : a = b) : Ending.returned (.int k a) = .returned (.int k b) := by rw [h]
theorem ret_bool {a b : Bool} (h : a = b) : Ending.returned (.bool a) = .returned (.bool b) := by rw [h]
theorem pw_below_drewN {B : Nat} {w W : World} (h : Below B w W) (n : Nat) : Below B w (W.drewN n) := ⟨h.os, h.tape, h.output, h.size, h.block⟩
/-- xs lie from A on, k cells each. -/
def Rd {α : Type} (k : Nat) (enc : α → List Value) (w : World) (A : Option Addr) (xs : List α) : Prop :=
  xs.length ≤ 9223372036854775807 ∧ (xs ≠ [] → ∃ b o, A = some ⟨b, o, none⟩ ∧ b < w.heap.size ∧
    ∀ i x, xs[i]? = some x → ∀ j u, (enc x)[j]? = some u → w.cell? ⟨b, o + i * k + j, none⟩ = some u)

theorem Rd.below {α : Type} {k : Nat} {enc : α → List Value} {w W : World} {A : Option Addr} {xs : List α} (h : Rd k enc w A xs) (hb : Below w.heap.size w W) : Rd k enc W A xs := by
  refine ⟨h.1, fun hne => ?_⟩
  obtain ⟨b, o, hA, hlt, hc⟩ := h.2 hne
  exact ⟨b, o, hA, Nat.lt_of_lt_of_le hlt hb.size, fun i x hx j u hu => (hb.cell (p := ⟨b, _, none⟩) hlt).trans (hc i x hx j u hu)⟩

/-- The element at i. -/
theorem Rd.at {α : Type} {k : Nat} {enc : α → List Value} {w : World} {A : Option Addr} {xs : List α} (h : Rd k enc w A xs) {i : Nat} (hi : i < xs.length) :
    ∃ b o, A = some ⟨b, o, none⟩ ∧ b < w.heap.size ∧ ∀ j u, (enc xs[i])[j]? = some u → w.cell? ⟨b, o + i * k + j, none⟩ = some u := by
  obtain ⟨b, o, hA, hlt, hc⟩ := h.2 (by intro e; rw [e] at hi; exact absurd hi (by simp))
  exact ⟨b, o, hA, hlt, hc i xs[i] (List.getElem?_eq_getElem hi)⟩

def encU (x : Int) : List Value := [.int .u64 x]
def encI (x : Int) : List Value := [.int .i64 x]
theorem Rd.atU {w : World} {A : Option Addr} {xs : List Int} (h : Rd 1 encU w A xs) {i : Nat} (hi : i < xs.length) :
    ∃ b o, A = some ⟨b, o, none⟩ ∧ b < w.heap.size ∧ w.cell? ⟨b, o + i, none⟩ = some (.int .u64 xs[i]) := by
  obtain ⟨b, o, hA, hlt, hc⟩ := h.at hi
  exact ⟨b, o, hA, hlt, by simpa using hc 0 _ rfl⟩
theorem Rd.atI {w : World} {A : Option Addr} {xs : List Int} (h : Rd 1 encI w A xs) {i : Nat} (hi : i < xs.length) :
    ∃ b o, A = some ⟨b, o, none⟩ ∧ b < w.heap.size ∧ w.cell? ⟨b, o + i, none⟩ = some (.int .i64 xs[i]) := by
  obtain ⟨b, o, hA, hlt, hc⟩ := h.at hi
  exact ⟨b, o, hA, hlt, by simpa using hc 0 _ rfl⟩

theorem heap_alloc_get (w : World) (o : Obj) (k : Nat) : (w.alloc o).heap[k]? = if k = w.heap.size then some o else w.heap[k]? := by
  show (w.heap.push o)[k]? = _
  rw [Array.getElem?_push]

/-- What is below B, and what block row is, apart: one step of a world that is the call's own. -/
theorem below_step {B : Nat} {w W W' : World} {row : Option Nat} (h : Below B w W) (hB : B ≤ W.heap.size) (hg : W.grownBy W' row) (hr : ∀ k, row = some k → B ≤ k) : Below B w W' := h.grown hg hB hr
theorem below_call {B : Nat} {w W W' : World} (h : Below B w W) (hB : B ≤ W.heap.size) (hg : Below W.heap.size W W') : Below B w W' := h.trans (hg.mono hB)
theorem bl_blk {B : Nat} {w W : World} (h : Below B w W) {k : Nat} {o : Obj} (hk : w.heap[k]? = some o) (hlt : k < B) : W.heap[k]? = some o := (h.block k hlt).trans hk
theorem bl_own {w W : World} (h : Below w.heap.size w W) {k : Nat} {o : Obj} (hk : w.heap[k]? = some o) : W.heap[k]? = some o := (h.block k (lt_of_block hk)).trans hk
theorem grown_own {w W : World} {row : Option Nat} (h : w.grownBy W row) {k : Nat} {o : Obj} (hk : w.heap[k]? = some o) (hne : some k ≠ row) : W.heap[k]? = some o := (h.block k (lt_of_block hk) hne).trans hk
theorem blk_cell {w : World} {b : Nat} {cs : Array Value} {T : TypeId} (h : w.heap[b]? = some (.cells cs T (0, 0))) (j : Nat) : w.cell? ⟨b, j, none⟩ = cs[j]? := by simp [World.cell?, h]
theorem blk_free {w : World} {b : Nat} {cs : Array Value} {T : TypeId} (h : w.heap[b]? = some (.cells cs T (0, 0))) (j : Nat) : w.frozen? ⟨b, j, none⟩ = false := by simp [World.frozen?, h]
theorem blk1 {w : World} {b : Nat} {x : Value} {T : TypeId} (h : w.heap[b]? = some (.cells #[x] T (0, 0))) : w.cell? ⟨b, 0, none⟩ = some x ∧ w.frozen? ⟨b, 0, none⟩ = false := ⟨blk_cell h 0, blk_free h 0⟩
theorem blk2 {w : World} {b : Nat} {x y : Value} {T : TypeId} (h : w.heap[b]? = some (.cells #[x, y] T (0, 0))) : w.cell? ⟨b, 0, none⟩ = some x ∧ w.cell? ⟨b, 1, none⟩ = some y ∧ w.frozen? ⟨b, 0, none⟩ = false ∧ w.frozen? ⟨b, 1, none⟩ = false :=
  ⟨blk_cell h 0, blk_cell h 1, blk_free h 0, blk_free h 1⟩
theorem ha_at {w : World} {o : Obj} {k : Nat} (h : k = w.heap.size) : (w.alloc o).heap[k]? = some o := by rw [heap_alloc_get, if_pos h]
theorem ha_lt {w : World} {o v : Obj} {k : Nat} (h : w.heap[k]? = some v) : (w.alloc o).heap[k]? = some v := by rw [heap_alloc_get, if_neg (by have := lt_of_block h; omega), h]
theorem Rd_nil {α : Type} (k : Nat) (enc : α → List Value) (w : World) (A : Option Addr) : Rd k enc w A [] := ⟨by simp, fun h => absurd rfl h⟩
theorem Rd_blk {α : Type} {k : Nat} {enc : α → List Value} {w : World} {g : Nat} {cs : Array Value} {T : TypeId} {fr : Nat × Nat} {xs : List α} (hl : xs.length ≤ 9223372036854775807) (h : w.heap[g]? = some (.cells cs T fr))
    (hc : ∀ i x, xs[i]? = some x → ∀ j u, (enc x)[j]? = some u → cs[i * k + j]? = some u) : Rd k enc w (some ⟨g, 0, none⟩) xs :=
  ⟨hl, fun _ => ⟨g, 0, rfl, lt_of_block h, fun i x hx j u hu => by simp [World.cell?, h, hc i x hx j u hu]⟩⟩
theorem Rd_newU {w : World} {T : TypeId} {l : List Int} {cs : Array Value} {g : Nat} (hg : g = w.heap.size) (hcs : cs = (l.map (Value.int .u64)).toArray) (hl : l.length ≤ 9223372036854775807) : Rd 1 encU (w.alloc (.cells cs T)) (some ⟨g, 0, none⟩) l :=
  Rd_blk hl (ha_at hg) (fun i x hx j u hu => by
    subst hcs
    cases j with
    | zero => simp [encU] at hu; subst hu; simp [hx]
    | succ j => simp [encU] at hu)
theorem Rd_newI {w : World} {T : TypeId} {l : List Int} {cs : Array Value} {g : Nat} (hg : g = w.heap.size) (hcs : cs = (l.map (Value.int .i64)).toArray) (hl : l.length ≤ 9223372036854775807) : Rd 1 encI (w.alloc (.cells cs T)) (some ⟨g, 0, none⟩) l :=
  Rd_blk hl (ha_at hg) (fun i x hx j u hu => by
    subst hcs
    cases j with
    | zero => simp [encI] at hu; subst hu; simp [hx]
    | succ j => simp [encI] at hu)

structure ID where
  hi : Int
  lo : Int
  deriving DecidableEq
structure Blk where
  slot : Int
  frm : Int
  par : ID
  salt : Int
  deriving DecidableEq
structure Vote where
  frm : Int
  slot : Int
  head : ID
  deriving DecidableEq
def idv (x : ID) : Value := .agg #[.int .u64 x.1, .int .u64 x.2]
def encID (x : ID) : List Value := [.int .u64 x.1, .int .u64 x.2]
def encBlk (b : Blk) : List Value := [.int .i64 b.slot, .int .i64 b.frm, .int .u64 b.par.1, .int .u64 b.par.2, .int .u64 b.salt]
def encVote (v : Vote) : List Value := [.int .i64 v.frm, .int .i64 v.slot, .int .u64 v.head.1, .int .u64 v.head.2]
theorem Rd.atID {w : World} {A : Option Addr} {xs : List ID} (h : Rd 2 encID w A xs) {i : Nat} (hi : i < xs.length) :
    ∃ b o, A = some ⟨b, o, none⟩ ∧ b < w.heap.size ∧ w.cell? ⟨b, o + i * 2, none⟩ = some (.int .u64 xs[i].1) ∧ w.cell? ⟨b, o + i * 2 + 1, none⟩ = some (.int .u64 xs[i].2) := by
  obtain ⟨b, o, hA, hlt, hc⟩ := h.at hi
  exact ⟨b, o, hA, hlt, hc 0 _ rfl, hc 1 _ rfl⟩
theorem Rd.atBlk {w : World} {A : Option Addr} {xs : List Blk} (h : Rd 5 encBlk w A xs) {i : Nat} (hi : i < xs.length) :
    ∃ b o, A = some ⟨b, o, none⟩ ∧ b < w.heap.size ∧ w.cell? ⟨b, o + i * 5, none⟩ = some (.int .i64 xs[i].slot) ∧ w.cell? ⟨b, o + i * 5 + 1, none⟩ = some (.int .i64 xs[i].frm) ∧
      w.cell? ⟨b, o + i * 5 + 2, none⟩ = some (.int .u64 xs[i].par.1) ∧ w.cell? ⟨b, o + i * 5 + 3, none⟩ = some (.int .u64 xs[i].par.2) ∧ w.cell? ⟨b, o + i * 5 + 4, none⟩ = some (.int .u64 xs[i].salt) := by
  obtain ⟨b, o, hA, hlt, hc⟩ := h.at hi
  exact ⟨b, o, hA, hlt, hc 0 _ rfl, hc 1 _ rfl, hc 2 _ rfl, hc 3 _ rfl, hc 4 _ rfl⟩
theorem Rd.atVote {w : World} {A : Option Addr} {xs : List Vote} (h : Rd 4 encVote w A xs) {i : Nat} (hi : i < xs.length) :
    ∃ b o, A = some ⟨b, o, none⟩ ∧ b < w.heap.size ∧ w.cell? ⟨b, o + i * 4, none⟩ = some (.int .i64 xs[i].frm) ∧ w.cell? ⟨b, o + i * 4 + 1, none⟩ = some (.int .i64 xs[i].slot) ∧
      w.cell? ⟨b, o + i * 4 + 2, none⟩ = some (.int .u64 xs[i].head.1) ∧ w.cell? ⟨b, o + i * 4 + 3, none⟩ = some (.int .u64 xs[i].head.2) := by
  obtain ⟨b, o, hA, hlt, hc⟩ := h.at hi
  exact ⟨b, o, hA, hlt, hc 0 _ rfl, hc 1 _ rfl, hc 2 _ rfl, hc 3 _ rfl⟩
/-- A slice of the call's own, from block 'base' on, that holds xs. -/
def Own {α : Type} (w : World) (base : Nat) (e : TypeId) (k : Nat) (enc : α → List Value) (v : Value) (xs : List α) : Prop := w.ownsRow base e k v xs.length (xs.flatMap enc)
theorem flatMap_get {α : Type} {k : Nat} {enc : α → List Value} (hk : ∀ x, (enc x).length = k) : ∀ (xs : List α) (i : Nat) (x : α), xs[i]? = some x → ∀ j u, (enc x)[j]? = some u → (xs.flatMap enc)[i * k + j]? = some u
  | [], i, x, h, _, _, _ => by simp at h
  | y :: xs, 0, x, h, j, u, hu => by
    simp only [List.getElem?_cons_zero, Option.some.injEq] at h
    subst h
    have hj : j < (enc y).length := (List.getElem?_eq_some_iff.1 hu).1
    simp only [List.flatMap_cons, Nat.zero_mul, Nat.zero_add]
    rw [List.getElem?_append_left hj, hu]
  | y :: xs, i + 1, x, h, j, u, hu => by
    simp only [List.getElem?_cons_succ] at h
    simp only [List.flatMap_cons]
    rw [List.getElem?_append_right (by rw [hk, Nat.succ_mul]; omega), hk, show (i + 1) * k + j - k = i * k + j by rw [Nat.succ_mul]; omega]
    exact flatMap_get hk xs i x h j u hu
theorem Own.rd {α : Type} {w : World} {base : Nat} {e : TypeId} {k : Nat} {enc : α → List Value} {v : Value} {xs : List α} (hk : ∀ x, (enc x).length = k) (h : Own w base e k enc v xs) : ∃ A c, v = .slice A xs.length c ∧ Rd k enc w A xs := by
  have h' := h
  obtain ⟨h1, h2⟩ := h
  rcases h2 with ⟨rfl, h0⟩ | ⟨g, cap, cur, rfl, hb, hh, hle, hm, hs, ht⟩
  · obtain rfl := List.eq_nil_of_length_eq_zero h0
    exact ⟨none, 0, rfl, Rd_nil _ _ _ _⟩
  · refine ⟨_, cap, rfl, Rd_blk (by unfold maxLen at hm; omega) hh (fun i x hx j u hu => ?_)⟩
    have hg := flatMap_get hk xs i x hx j u hu
    rw [← ht] at hg
    have := List.getElem?_take_of_lt (l := cur.toList) (i := i * k + j) (j := xs.length * k) (by
      have := (List.getElem?_eq_some_iff.1 hg).1
      rw [List.length_take] at this
      omega)
    rw [this] at hg
    simpa using hg
theorem Own.rdc {α : Type} {w : World} {base : Nat} {e : TypeId} {k : Nat} {enc : α → List Value} {v : Value} {xs : List α} (hk : ∀ x, (enc x).length = k) (h : Own w base e k enc v xs) : ∃ A c, v = .slice A xs.length c ∧ xs.length ≤ c ∧ Rd k enc w A xs := by
  obtain ⟨A, c, rfl, hr⟩ := h.rd hk
  refine ⟨A, c, rfl, ?_, hr⟩
  obtain ⟨h1, h2⟩ := h
  rcases h2 with ⟨he, h0⟩ | ⟨g, cap, cur, he, hb, hh, hle, _⟩
  · rw [h0]; exact Nat.zero_le _
  · cases he; exact hle
theorem Rd.take {α : Type} {k : Nat} {enc : α → List Value} {w : World} {A : Option Addr} {xs : List α} (h : Rd k enc w A xs) (n : Nat) : Rd k enc w A (xs.take n) := by
  refine ⟨by have := h.1; simp; omega, fun hne => ?_⟩
  obtain ⟨b, o, hA, hlt, hc⟩ := h.2 (fun e => hne (by rw [e]; simp))
  refine ⟨b, o, hA, hlt, fun i x hx => hc i x ?_⟩
  rw [List.getElem?_take] at hx
  split at hx
  · exact hx
  · cases hx
theorem Own.nil {α : Type} (w : World) (base : Nat) (e : TypeId) (k : Nat) (enc : α → List Value) : Own w base e k enc (.slice none 0 0) ([] : List α) := World.ownsRow_nil w base e k
theorem Own.below {α : Type} {w W : World} {base : Nat} {e : TypeId} {k : Nat} {enc : α → List Value} {v : Value} {xs : List α} (h : Own w base e k enc v xs) (hb : Below w.heap.size w W) : Own W base e k enc v xs := by
  obtain ⟨h1, h2⟩ := h
  refine ⟨h1, ?_⟩
  rcases h2 with h2 | ⟨g, cap, cur, hv, hg, hh, r⟩
  · exact .inl h2
  · exact .inr ⟨g, cap, cur, hv, hg, bl_own hb hh, r⟩
theorem Own.grown {α : Type} {w W : World} {base : Nat} {e : TypeId} {k : Nat} {enc : α → List Value} {v : Value} {xs : List α} {row : Option Nat} (h : Own w base e k enc v xs) (hg : w.grownBy W row) (hne : row = none ∨ v.ownBlock ≠ row) : Own W base e k enc v xs := by
  obtain ⟨h1, h2⟩ := h
  refine ⟨h1, ?_⟩
  rcases h2 with h2 | ⟨g, cap, cur, rfl, hgb, hh, r⟩
  · exact .inl h2
  · refine .inr ⟨g, cap, cur, rfl, hgb, grown_own hg hh ?_, r⟩
    rcases hne with e | e
    · rw [e]; simp
    · simpa [Value.ownBlock] using e
theorem Own.mono {α : Type} {w : World} {base base' : Nat} {e : TypeId} {k : Nat} {enc : α → List Value} {v : Value} {xs : List α} (h : Own w base e k enc v xs) (hb : base' ≤ base) : Own w base' e k enc v xs := by
  obtain ⟨h1, h2⟩ := h
  refine ⟨h1, ?_⟩
  rcases h2 with h2 | ⟨g, cap, cur, hv, hg, hh, r⟩
  · exact .inl h2
  · exact .inr ⟨g, cap, cur, hv, Nat.le_trans hb hg, hh, r⟩
/-- What an owned slice's block is: not below 'base'. -/
theorem Own.base {α : Type} {w : World} {base : Nat} {e : TypeId} {k : Nat} {enc : α → List Value} {v : Value} {xs : List α} (h : Own w base e k enc v xs) (j : Nat) (hj : v.ownBlock = some j) : base ≤ j ∧ j < w.heap.size := World.ownsRow.lt h j hj
section
variable {P : Program} {ops : Array Oper} {rest : List Oper} {o : Oper} {a : Act} {Q : Exit → Act → World → Prop} {α : Type}
/-- 'append(s, y)': y laid just ahead. -/
theorem wp_append1 {enc : α → List Value} {k base : Nat} {w : World} (hgd : o.guard = none) {s x : Operand} {t e : TypeId} (ho : o.op = .call { callee := .builtin .append, args := #[s, x], argTypes := #[t, t] })
    (ht : P.underlying t = some (.slice e)) {z : Value} {bytes : Nat} (hinfo : (P.info? e).map (fun i => (i.zero, i.size, i.bytes)) = some (some z, k, bytes)) (hz : z.cells.size = k) (hk0 : 0 < k) (hk : ∀ x, (enc x).length = k) (h1 : ∀ x, ∀ u ∈ enc x, u.oneCell' = true)
    {v : Value} {xs : List α} (hs : a.eval s = v) (hown : Own w base e k enc v xs) {g : Nat} {c : Nat} (hx : a.eval x = .slice (some ⟨g, 0, none⟩) 1 c) {y : α} {cs : Array Value} {T : TypeId} (hg : w.heap[g]? = some (.cells cs T (0, 0))) (hcs : cs = (enc y).toArray)
    (hb : (xs.length + 1) * bytes ≤ 140737488355328) (hl : xs.length + 1 ≤ maxLen) (hbase : base ≤ w.heap.size)
    (h : ∀ v' w', Own w' base e k enc v' (xs ++ [y]) → w.grownBy w' v.ownBlock → (v'.ownBlock = v.ownBlock ∨ v'.ownBlock = some w.heap.size) → wpList P ops Q rest (a.put o.dst v') w') : wpList P ops Q (o :: rest) a w := by
  obtain ⟨i0, hi, hz0, hz1, hz2⟩ := info_parts hinfo
  subst hcs
  refine wpList_append_own_at (w := w) hgd s x t ho base e i0 z k bytes ht hi hz0 hz1 hz2 hz hk0 v xs.length _ hs hown ⟨g, 0, none⟩ 1 c (enc y) hx (by rw [hk]; omega) (fun j u hu => ?_) (h1 y) hl hb hbase (fun v' w' h2 h3 _ h4 => h v' w' ?_ h3 h4)
  · have e1 : (⟨g, 0, none⟩ : Addr).add j = ⟨g, j, none⟩ := by unfold Addr.add; split <;> simp_all
    rw [e1, blk_cell hg]
    simpa using hu
  · show w'.ownsRow _ _ _ _ _ _
    rw [List.length_append, List.flatMap_append]
    simpa using h2
end
theorem grown_set (w : World) (p : Addr) (u : Value) : w.grownBy (w.setCell p u) (some p.block) := ⟨rfl, rfl, rfl, by simp [World.setCell], fun k _ hne => heap_setCell_other w p k u (fun e => hne (by rw [e]))⟩
theorem grown_trans {w w1 w2 : World} {row : Option Nat} (h1 : w.grownBy w1 row) (h2 : w1.grownBy w2 row) : w.grownBy w2 row :=
  ⟨h2.os.trans h1.os, h2.tape.trans h1.tape, h2.output.trans h1.output, Nat.le_trans h1.size h2.size, fun k hk hne => (h2.block k (Nat.lt_of_lt_of_le hk h1.size) hne).trans (h1.block k hk hne)⟩
theorem set2 {w : World} {b : Nat} {x y : Value} {T : TypeId} (h : w.heap[b]? = some (.cells #[x, y] T (0, 0))) (u v : Value) :
    ((w.setCell ⟨b, 0, none⟩ u).setCell ⟨b, 1, none⟩ v).heap[b]? = some (.cells #[u, v] T (0, 0)) ∧ w.grownBy ((w.setCell ⟨b, 0, none⟩ u).setCell ⟨b, 1, none⟩ v) (some b) := by
  refine ⟨?_, grown_trans (grown_set _ _ _) (grown_set _ _ _)⟩
  rw [heap_setCell_same _ _ _ _ _ _ (heap_setCell_same _ _ _ _ _ _ h)]
  rfl
def lenV : Value → Nat | .slice _ n _ => n | _ => 0
/-- A scope whose run jumps back to one label: the part behind the label, walked once. -/
theorem wp_scope_loop {P : Program} {a : Act} {w : World} {Q : Exit → Act → World → Prop} {c B : Code} (l : Nat) (J : Act → World → Prop) (μ : Act → World → Nat) (hf : findLabel c l = some (.seq .skip B))
    (pass : ∀ a w, J a w → B.wp P (Exit.jump l (fun a' w' => J a' w' ∧ μ a' w' < μ a w) Q) a w)
    (first : (∀ a w, J a w → B.wp P (Exit.jump l J Q) a w) → c.wp P (Exit.jump l J Q) a w) : (Code.scope c).wp P Q a w := by
  refine wp_scope_jumps l J μ hf (first fun a w h => ?_) fun a w h => ?_
  · refine Code.wp_mono (fun e a' w' hq => ?_) (pass a w h)
    cases e <;> first | exact ⟨hq.1, hq.2.1⟩ | exact hq
  · exact wp_seq (wp_skip (pass a w h))
theorem below_drew0 (w : World) : Below w.heap.size w { w with drawn := w.drawn + 1 } := ⟨rfl, rfl, rfl, Nat.le_refl _, fun _ _ => rfl⟩
/-- How far a world has grown: the draws, the new blocks. -/
structure GB where
  d : Nat
  os : Array Obj
  deriving Inhabited
def gr (w : World) (p : GB) : World := { w with heap := w.heap ++ p.os, drawn := p.d }
theorem gr_below (w : World) (p : GB) : Below w.heap.size w (gr w p) :=
  ⟨rfl, rfl, rfl, by simp [gr], fun k hk => by show (w.heap ++ p.os)[k]? = _; rw [Array.getElem?_append_left hk]⟩
theorem gr_of_below {w W : World} (h : Below w.heap.size w W) : ∃ p, W = gr w p := by
  refine ⟨⟨W.drawn, W.heap.extract w.heap.size W.heap.size⟩, ?_⟩
  obtain ⟨h1, h2, h3, h4, h5⟩ := h
  obtain ⟨heap, tape, drawn, os, output⟩ := W
  simp only at h1 h2 h3 h4 h5 ⊢
  unfold gr
  simp only [World.mk.injEq]
  refine ⟨?_, h2, trivial, h1, h3⟩
  apply Array.ext_getElem?
  intro k
  by_cases hk : k < w.heap.size
  · rw [Array.getElem?_append_left hk, h5 k hk]
  · rw [Array.getElem?_append_right (by omega)]
    by_cases hk2 : k < heap.size
    · rw [Array.getElem?_extract]
      rw [if_pos (by omega)]
      congr 1
      omega
    · rw [Array.getElem?_eq_none (by omega), Array.getElem?_eq_none (by simp; omega)]
theorem gr_cell {w : World} {a : Addr} {v : Value} (h : w.cell? a = some v) (p : GB) : (gr w p).cell? a = some v := ((gr_below w p).cell (World.block_lt_of_cell? w a h)).trans h
theorem gr_blk {w : World} {k : Nat} {o : Obj} (h : w.heap[k]? = some o) (p : GB) : (gr w p).heap[k]? = some o := bl_own (gr_below w p) h
theorem Calls.gr_of {P : Program} {f : FuncId} {args : Array Value} {w : World} {p : GB} {v : Value}
    (h : Calls P f args (gr w p) fun e w' => e = .returned v ∧ Below (gr w p).heap.size (gr w p) w') : Calls P f args (gr w p) fun e w'' => e = .returned v ∧ ∃ q : GB, w'' = gr w q :=
  h.mono fun _ _ ⟨he, hb⟩ => ⟨he, gr_of_below ((gr_below w p).trans (hb.mono (gr_below w p).size))⟩
/-- A region that draws its order, reads, and calls what only grows memory. -/
theorem wp_region_gr {P : Program} {id : Nat} {Q : Exit → Act → World → Prop} {a : Act} {w : World} {l : List Oper} (hm : P.follows .mixedOrders = true) (hB : Region.lexB .any l.toArray = true)
    (h : wpQuiet P l.toArray (fun w' => ∃ p : GB, w' = gr w p) (fun a' => ∀ w', (∃ p : GB, w' = gr w p) → Q .normal a' w') l a) : (Code.region id l.toArray true).wp P Q a w :=
  wp_region_quiet (C := fun w' => ∃ p : GB, w' = gr w p) hm hB (gr_of_below (below_drew0 w)) (by simpa using h)
end Go.Proofs.YtaohkcdfjjiggaaGreat
/-! Small words on blocks and votes in memory. -/
namespace Go.Proofs.YtaohkcdfjjiggaaGreat
open Go.RowKit
theorem Rd_flat {α : Type} {k : Nat} {enc : α → List Value} (hk : ∀ x, (enc x).length = k) {w : World} {g : Nat} {cs : Array Value} {T : TypeId} {fr : Nat × Nat} {xs : List α} (hl : xs.length ≤ 9223372036854775807) (h : w.heap[g]? = some (.cells cs T fr)) (hcs : cs = (xs.flatMap enc).toArray) : Rd k enc w (some ⟨g, 0, none⟩) xs :=
  Rd_blk hl h (fun i x hx j u hu => by subst hcs; simpa using flatMap_get hk xs i x hx j u hu)
theorem encBlk_len (b : Blk) : (encBlk b).length = 5 := rfl
theorem encVote_len (b : Vote) : (encVote b).length = 4 := rfl
theorem blk5 {w : World} {b : Nat} {x0 x1 x2 x3 x4 : Value} {T : TypeId} (h : w.heap[b]? = some (.cells #[x0, x1, x2, x3, x4] T (0, 0))) : w.cell? ⟨b, 0, none⟩ = some x0 ∧ w.cell? ⟨b, 1, none⟩ = some x1 ∧ w.cell? ⟨b, 2, none⟩ = some x2 ∧ w.cell? ⟨b, 3, none⟩ = some x3 ∧ w.cell? ⟨b, 4, none⟩ = some x4 :=
  ⟨blk_cell h 0, blk_cell h 1, blk_cell h 2, blk_cell h 3, blk_cell h 4⟩
theorem infoV : (Tryz.prog.info? 42).map (fun i => (i.zero, i.size, i.bytes)) = some (some (.agg #[.int .i64 0, .int .i64 0, .int .u64 0, .int .u64 0]), 4, 32) := by kernel_rfl
theorem encVote_one (x : Vote) : ∀ u ∈ encVote x, u.oneCell' = true := by intro u hu; simp [encVote] at hu; rcases hu with rfl | rfl | rfl | rfl <;> rfl
theorem infoB : (Tryz.prog.info? 64).map (fun i => (i.zero, i.size, i.bytes)) = some (some (.agg #[.int .i64 0, .int .i64 0, .int .u64 0, .int .u64 0, .int .u64 0]), 5, 40) := by kernel_rfl
theorem encBlk_one (x : Blk) : ∀ u ∈ encBlk x, u.oneCell' = true := by intro u hu; simp [encBlk] at hu; rcases hu with rfl | rfl | rfl | rfl | rfl <;> rfl
theorem blk4 {w : World} {b : Nat} {x0 x1 x2 x3 : Value} {T : TypeId} (h : w.heap[b]? = some (.cells #[x0, x1, x2, x3] T (0, 0))) : w.cell? ⟨b, 0, none⟩ = some x0 ∧ w.cell? ⟨b, 1, none⟩ = some x1 ∧ w.cell? ⟨b, 2, none⟩ = some x2 ∧ w.cell? ⟨b, 3, none⟩ = some x3 :=
  ⟨blk_cell h 0, blk_cell h 1, blk_cell h 2, blk_cell h 3⟩
theorem infoI : (Tryz.prog.info? 3).map (fun i => (i.zero, i.size, i.bytes)) = some (some (.int .i64 0), 1, 8) := by kernel_rfl
theorem encI_len (x : Int) : (encI x).length = 1 := rfl
theorem encI_one (x : Int) : ∀ u ∈ encI x, u.oneCell' = true := by intro u hu; simp [encI] at hu; subst hu; rfl
def votev (v : Vote) : Value := .agg #[.int .i64 v.frm, .int .i64 v.slot, .int .u64 v.head.hi, .int .u64 v.head.lo]
end Go.Proofs.YtaohkcdfjjiggaaGreat
/-! The walks of the packages mix and marigoldref02: what each function computes. -/
namespace Go.Proofs.YtaohkcdfjjiggaaGreat
open Go.RowKit
def mixWord (a : Int) : Int :=
  let x := IntKind.u64.wrap (bits BinOp.xor IntKind.u64 a (a / 1073741824) * 13787848793156543929)
  let y := IntKind.u64.wrap (bits BinOp.xor IntKind.u64 x (x / 134217728) * 10723151780598845931)
  bits BinOp.xor IntKind.u64 y (y / 2147483648)
def mixStep (h x : Int) : Int := mixWord (IntKind.u64.wrap (bits BinOp.xor IntKind.u64 h x + 11400714819323198485))
set_option maxHeartbeats 400000 in
theorem word_any (a : Int) (w : World) :
    Calls Tryz.prog 95 #[.int .u64 a] w fun e w' => e = .returned (.int .u64 (mixWord a)) ∧ w' = w := by
  go_enter Tryz.func95, Tryz.ntmps95
  go_wp2
  go_ret
  exact ⟨rfl, rfl⟩
set_option maxHeartbeats 400000 in
theorem step_any (h x : Int) (w : World) :
    Calls Tryz.prog 57 #[.int .u64 h, .int .u64 x] w fun e w' => e = .returned (.int .u64 (mixStep h x)) ∧ w' = w := by
  go_enter Tryz.func57, Tryz.ntmps57
  go_wp2_with (go_at_call 95; refine (word_any _ _).mono ?_; rintro e w' ⟨rfl, rfl⟩)
  go_ret
  exact ⟨rfl, rfl⟩
set_option maxRecDepth 100000 in
set_option maxHeartbeats 400000 in
theorem of1_any (x a b : Int) (B : Nat) (w : World) (h0 : w.cell? ⟨B, 0, none⟩ = some (.int .u64 a)) (h1 : w.cell? ⟨B, 1, none⟩ = some (.int .u64 b)) (hf0 : w.frozen? ⟨B, 0, none⟩ = false) (hf1 : w.frozen? ⟨B, 1, none⟩ = false) :
    Calls Tryz.prog 110 #[.int .u64 x, .pointer (some ⟨B, 0, none⟩)] w fun e w' => e = .returned (.tuple #[]) ∧ ∃ n, w' = ((w.setCell ⟨B, 0, none⟩ (.int .u64 (mixStep a x))).setCell ⟨B, 1, none⟩ (.int .u64 (mixStep b (bits BinOp.xor IntKind.u64 IntKind.u64.max x)))).drewN n := by
  go_enter Tryz.func110, Tryz.ntmps110
  refine wp_region_still_tail 10 (by kernel_rfl) (by kernel_rfl) ?_
  simp only [List.take_succ_cons, List.take_zero, List.drop_succ_cons, List.drop_zero]
  repeat (first | still_step | still_call (step_any _ _ _))
  refine wpStill_nil ?_
  change wpList _ _ _ _ _ w.drew
  go_wp2
  go_end0
  exact ⟨rfl, 1, rfl⟩
/-- The same, by the block. -/
theorem of1_blk (x a b : Int) (B T : Nat) (w : World) (h : w.heap[B]? = some (.cells #[.int .u64 a, .int .u64 b] T (0, 0))) :
    Calls Tryz.prog 110 #[.int .u64 x, .pointer (some ⟨B, 0, none⟩)] w fun e w' => e = .returned (.tuple #[]) ∧
      w'.heap[B]? = some (.cells #[.int .u64 (mixStep a x), .int .u64 (mixStep b (bits BinOp.xor IntKind.u64 IntKind.u64.max x))] T (0, 0)) ∧ w.grownBy w' (some B) := by
  refine (of1_any x a b B w (by simp [World.cell?, h]) (by simp [World.cell?, h]) (by simp [World.frozen?, h]) (by simp [World.frozen?, h])).mono ?_
  rintro e w' ⟨rfl, n, rfl⟩
  refine ⟨rfl, ?_, ⟨rfl, rfl, rfl, by simp [World.setCell], fun k hk hne => ?_⟩⟩
  · show ((w.setCell _ _).setCell _ _).heap[B]? = _
    rw [heap_setCell_same _ _ _ _ _ _ (heap_setCell_same _ _ _ _ _ _ h)]
    rfl
  · show ((w.setCell _ _).setCell _ _).heap[k]? = _
    have hne' : k ≠ B := fun e => hne (by rw [e])
    rw [heap_setCell_other _ _ _ _ hne', heap_setCell_other _ _ _ _ hne']
/-- What the words come to: one pair. -/
def mixFold : ID → List Int → ID
  | p, [] => p
  | p, x :: l => mixFold ⟨mixStep p.1 x, mixStep p.2 (bits BinOp.xor IntKind.u64 IntKind.u64.max x)⟩ l
theorem mixFold_snoc (p : ID) (l : List Int) (x : Int) : mixFold p (l ++ [x]) = ⟨mixStep (mixFold p l).1 x, mixStep (mixFold p l).2 (bits BinOp.xor IntKind.u64 IntKind.u64.max x)⟩ := by
  induction l generalizing p with
  | nil => rfl
  | cons y l ih => exact ih _
def mixOf (l : List Int) : ID := mixFold ⟨1, 2⟩ (l ++ [(l.length : Int)])
set_option maxRecDepth 100000 in
set_option maxHeartbeats 1000000 in
theorem of_any (l : List Int) (A : Option Addr) (c : Nat) (w : World) (hr : Rd 1 encU w A l) :
    Calls Tryz.prog 74 #[.slice A l.length c] w fun e w' => e = .returned (.agg #[.int .u64 (mixOf l).1, .int .u64 (mixOf l).2]) ∧ Below w.heap.size w w' := by
  go_enter Tryz.func74, Tryz.ntmps74
  go_wp2_with fail
  have hm := hr.1
  go_loopw [6, 11] (fun x i wr => ∃ k : Nat, k ≤ l.length ∧ i = .int .i64 k ∧ wr.heap[w.heap.size + 1]? = some (.cells #[.int .u64 (mixFold ⟨1, 2⟩ (l.take k)).1, .int .u64 (mixFold ⟨1, 2⟩ (l.take k)).2] 35 (0, 0)) ∧ wr.heap[w.heap.size]? = some (.cells #[.int .u64 0, .int .u64 0] 35 (0, 0)) ∧ Below w.heap.size w wr) (fun _ i _ => l.length - (intOf i).toNat)
  case atStart =>
    exact ⟨0, Nat.zero_le _, rfl, by rw [heap_alloc_get, if_pos (by simp)]; rfl, by rw [heap_alloc_get, if_neg (by simp), heap_alloc_get, if_pos rfl], ((Below.refl _ w).alloc (Nat.le_refl _) _).alloc (by simp) _⟩
  case round =>
    obtain ⟨k, hk, rfl, hb1, hb0, hB⟩ := hrel
    by_cases hlt : k < l.length
    · obtain ⟨b, o, rfl, hbo, hc⟩ := (hr.below hB).atU hlt
      go_wp2_with (go_at_call 110; refine (of1_blk _ _ _ _ _ _ hb1).mono ?_; rintro e w' ⟨rfl, hb1', hg⟩)
      go_roundw
      case rel => exact ⟨k + 1, hlt, by go_num, by rw [hb1', ← List.take_append_getElem hlt, mixFold_snoc], grown_own hg hb0 (by simp), below_step hB hB.size hg (by simp)⟩
      case measure => simp [intOf]; omega
    · obtain rfl : k = l.length := by omega
      have hz0 := blk_free hb0
      have hlt0 := lt_of_block hb0
      go_wp2_with (go_at_call 110; refine (of1_blk _ _ _ _ _ _ hb1).mono ?_; rintro e w' ⟨rfl, hb1', hg⟩; obtain ⟨c0, c1, f0, f1⟩ := blk2 hb1'; obtain ⟨d0, d1, g0, g1⟩ := blk2 (grown_own hg hb0 (by simp)))
      refine bodyPost_ret (v := .agg #[.int .u64 (mixOf l).1, .int .u64 (mixOf l).2]) ?_ rfl ⟨rfl, ?_⟩
      · simp [results, Tryz.results74, go_sem, d0, d1, mixOf, mixFold_snoc]
      · exact ((below_step hB hB.size hg (by simp)).setCell (p := ⟨w.heap.size, 0, none⟩) (Nat.le_refl _) _).setCell (p := ⟨w.heap.size, 1, none⟩) (Nat.le_refl _) _
end Go.Proofs.YtaohkcdfjjiggaaGreat
/-! Maps that a call makes: as lists of pairs, in the order of their laying. -/
namespace Go.Proofs.YtaohkcdfjjiggaaGreat
open Go.RowKit

section
variable {κ ν : Type} [DecidableEq κ]
def mget (m : List (κ × ν)) (x : κ) : Option ν := (m.find? fun p => decide (p.1 = x)).map (·.2)
def mput (m : List (κ × ν)) (x : κ) (v : ν) : List (κ × ν) :=
  if (mget m x).isSome then m.map fun p => if p.1 = x then (p.1, v) else p else m ++ [(x, v)]

/-- What is asked of a kind of keys. -/
structure Key (P : Program) (kt : TypeId) (ek : κ → Value) : Prop where
  chk : ∀ b x w, (Instr.checkKey b 10000 kt (ek x)).run P w = .ok () w
  eq : ∀ x y w, (Op.equal kt (ek x) (ek y)).run P w = .ok (decide (x = y)) w
  now : ∃ d, P.underlying kt = some d ∧ ∀ x y, Instr.sameNow d (ek x) (ek y) = none ∨ Instr.sameNow d (ek x) (ek y) = some (decide (x = y))
  bits : ∀ x, Instr.sameBits 10000 (ek x) (ek x) = true

/-- Where a key is. -/
def keyIdx (ks : List κ) (x : κ) : Nat → Option Nat
  | i => match ks with
    | [] => none
    | k :: ks => if k = x then some i else keyIdx ks x (i + 1)

theorem findAsking_run {P : Program} {kt : TypeId} {ek : κ → Value} (K : Key P kt ek) (x : κ) (w : World) :
    ∀ (ks : List κ) (es : List MapEntry) (i : Nat), es.map (·.key) = ks.map ek →
      (Instr.findAsking kt (ek x) es i).run P w = .ok ((keyIdx ks x i).bind fun j => (es[j - i]?).map fun e => (j, e.val)) w := by
  intro ks
  induction ks with
  | nil => intro es i h; cases es with
    | nil => simp [Instr.findAsking, keyIdx]
    | cons e es => simp at h
  | cons k ks ih =>
    intro es i h
    cases es with
    | nil => simp at h
    | cons e es =>
      simp only [List.map_cons, List.cons.injEq] at h
      simp only [Instr.findAsking, Sem.run_bind, h.1, K.eq, Result.andThen_ok, keyIdx]
      by_cases hk : x = k
      · subst hk; simp
      · have hk' : ¬ k = x := fun e => hk e.symm
        simp only [hk, hk', decide_false, if_false, Bool.false_eq_true]
        rw [ih es (i + 1) h.2]
        congr 1
        cases hj : keyIdx ks x (i + 1) with
        | none => rfl
        | some j =>
          have hle : i + 1 ≤ j := by
            clear ih h hk hk'
            induction ks generalizing i with
            | nil => simp [keyIdx] at hj
            | cons k' ks ih' =>
              simp only [keyIdx] at hj
              split at hj
              · cases hj; omega
              · have := ih' (i + 1) hj; omega
          simp only [Option.bind_some]
          rw [show j - i = (j - (i + 1)) + 1 by omega, List.getElem?_cons_succ]

theorem findNow_run {d : TypeDesc} {ek : κ → Value} (hn : ∀ x y, Instr.sameNow d (ek x) (ek y) = none ∨ Instr.sameNow d (ek x) (ek y) = some (decide (x = y))) (x : κ) :
    ∀ (ks : List κ) (es : List MapEntry) (i : Nat), es.map (·.key) = ks.map ek →
      Instr.findNow d (ek x) es i = none ∨ Instr.findNow d (ek x) es i = some ((keyIdx ks x i).bind fun j => (es[j - i]?).map fun e => (j, e.val)) := by
  intro ks
  induction ks with
  | nil => intro es i h; cases es with
    | nil => simp [Instr.findNow, keyIdx]
    | cons e es => simp at h
  | cons k ks ih =>
    intro es i h
    cases es with
    | nil => simp at h
    | cons e es =>
      simp only [List.map_cons, List.cons.injEq] at h
      simp only [Instr.findNow, h.1, keyIdx]
      rcases hn x k with h1 | h1
      · left; rw [h1]
      · rw [h1]
        by_cases hk : x = k
        · subst hk; right; simp
        · have hk' : ¬ k = x := fun e => hk e.symm
          simp only [hk, hk', decide_false, if_false]
          rcases ih es (i + 1) h.2 with h2 | h2
          · left; exact h2
          · right
            rw [h2]
            congr 1
            cases hj : keyIdx ks x (i + 1) with
            | none => rfl
            | some j =>
              have hle : i + 1 ≤ j := by
                clear ih h hk hk' h1 h2
                induction ks generalizing i with
                | nil => simp [keyIdx] at hj
                | cons k' ks ih' =>
                  simp only [keyIdx] at hj
                  split at hj
                  · cases hj; omega
                  · have := ih' (i + 1) hj; omega
              simp only [Option.bind_some]
              rw [show j - i = (j - (i + 1)) + 1 by omega, List.getElem?_cons_succ]

theorem findKey_run {P : Program} {kt : TypeId} {ek : κ → Value} (K : Key P kt ek) (x : κ) (w : World) (ks : List κ) (es : List MapEntry) (h : es.map (·.key) = ks.map ek) :
    (Instr.findKey kt (ek x) es).run P w = .ok ((keyIdx ks x 0).bind fun j => (es[j]?).map fun e => (j, e.val)) w := by
  obtain ⟨d, hd, hn⟩ := K.now
  simp only [Instr.findKey, Sem.run_bind, run_underlying hd, Result.andThen_ok]
  rcases findNow_run hn x ks es 0 h with h1 | h1
  · rw [h1]
    simp only []
    simpa using findAsking_run K x w ks es 0 h
  · rw [h1]
    simp

/-- Block B is a map that holds m, in this order. -/
def MapIs (ek : κ → Value) (ev : ν → Value) (w : World) (B : Nat) (m : List (κ × ν)) : Prop :=
  ∃ es clk, w.heap[B]? = some (.map es clk) ∧ es.toList.map (fun e => (e.key, e.val)) = m.map (fun p => (ek p.1, ev p.2)) ∧
    (es.toList.map (·.born)).Pairwise (· < ·) ∧ (∀ e ∈ es.toList, e.born < clk) ∧ (m.map (·.1)).Nodup

theorem keyIdx_ge {ks : List κ} {x : κ} {i j : Nat} (hj : keyIdx ks x i = some j) : i ≤ j ∧ ks[j - i]? = some x := by
  induction ks generalizing i with
  | nil => simp [keyIdx] at hj
  | cons k' ks ih' =>
    simp only [keyIdx] at hj
    split at hj
    · rename_i hk
      cases hj; simp [hk]
    · have := ih' hj
      refine ⟨by omega, ?_⟩
      rw [show j - i = (j - (i + 1)) + 1 by omega, List.getElem?_cons_succ]
      exact this.2
theorem keyIdx_get (m : List (κ × ν)) (x : κ) (i : Nat) : mget m x = (keyIdx (m.map (·.1)) x i).bind fun j => (m[j - i]?).map (·.2) := by
  induction m generalizing i with
  | nil => simp [mget, keyIdx]
  | cons p m ih =>
    simp only [List.map_cons, keyIdx]
    by_cases h : p.1 = x
    · simp [mget, h]
    · have e : mget (p :: m) x = mget m x := by simp [mget, h]
      rw [e, ih (i + 1)]
      simp only [h, if_false]
      cases hj : keyIdx (m.map (·.1)) x (i + 1) with
      | none => rfl
      | some j =>
        have := (keyIdx_ge hj).1
        simp only [Option.bind_some]
        rw [show j - i = (j - (i + 1)) + 1 by omega, List.getElem?_cons_succ]

end
section
variable {κ ν : Type} {ek : κ → Value} {ev : ν → Value}
theorem entries_key {es : List MapEntry} {m : List (κ × ν)} (h : es.map (fun e => (e.key, e.val)) = m.map (fun p => (ek p.1, ev p.2))) : es.map (·.key) = (m.map (·.1)).map ek := by
  have := congrArg (List.map Prod.fst) h
  simpa [List.map_map, Function.comp_def] using this
theorem entries_val {es : List MapEntry} {m : List (κ × ν)} (h : es.map (fun e => (e.key, e.val)) = m.map (fun p => (ek p.1, ev p.2))) (j : Nat) : (es[j]?).map (·.val) = (m[j]?).map fun p => ev p.2 := by
  have := congrArg (fun l : List (Value × Value) => (l[j]?).map Prod.snd) h
  simpa [List.getElem?_map, Function.comp_def] using this

end
section
variable {κ ν : Type} [DecidableEq κ] {P : Program} {kt : TypeId} {ek : κ → Value} {ev : ν → Value}
theorem lookup_run (K : Key P kt ek) {MT et : TypeId} (ht : P.underlying MT = some (.map kt et)) {z : Value} {w : World} (hz : (zeroValue et).run P w = .ok z w) {B : Nat} {m : List (κ × ν)} (hM : MapIs ek ev w B m) (x : κ) (c : Bool) :
    (Instr.lookup MT (.map (some B)) (ek x) c).run P w = .ok (if c then .tuple #[((mget m x).map ev).getD z, .bool (mget m x).isSome] else ((mget m x).map ev).getD z) w := by
  obtain ⟨es, clk, hB, hes, _, _, _⟩ := hM
  have hf := findKey_run K x w (m.map (·.1)) es.toList (entries_key hes)
  have hg := keyIdx_get m x 0
  simp only [Nat.sub_zero] at hg
  have hgo : (getObj B).run P w = .ok (.map es clk) w := by simp [getObj, Sem.run, hB]
  simp only [Instr.lookup, Sem.run_bind, run_underlying ht, Result.andThen_ok, hgo, K.chk, hf, Sem.run_pure]
  cases hj : keyIdx (m.map (·.1)) x 0 with
  | none =>
    simp only [hj, Option.bind_none] at hg ⊢
    simp [hz, hg]
  | some j =>
    have hv := entries_val hes j
    simp only [hj, Option.bind_some] at hg ⊢
    cases he : es.toList[j]? with
    | none =>
      rw [he] at hv
      simp only [Option.map_none] at hv
      have hm : m[j]? = none := by
        cases hm : m[j]? with
        | none => rfl
        | some p => rw [hm] at hv; simp at hv
      simp [hz, hg, hm]
    | some e =>
      rw [he] at hv
      cases hm : m[j]? with
      | none => rw [hm] at hv; simp at hv
      | some p =>
        rw [hm] at hv
        simp only [Option.map_some, Option.some.injEq] at hv
        simp [hg, hm, hv]

theorem keyIdx_none {ks : List κ} {x : κ} {i : Nat} (h : keyIdx ks x i = none) : x ∉ ks := by
  induction ks generalizing i with
  | nil => simp
  | cons k ks ih =>
    simp only [keyIdx] at h
    split at h
    · cases h
    · rename_i hk
      intro hm
      rcases List.mem_cons.1 hm with e | e
      · exact hk e.symm
      · exact ih h e
theorem mget_none {m : List (κ × ν)} {x : κ} : mget m x = none ↔ x ∉ m.map (·.1) := by
  unfold mget
  simp [List.find?_eq_none]
  exact ⟨fun h v hm => h x v hm rfl, fun h a b hm e => h b (e ▸ hm)⟩
theorem mput_keys (m : List (κ × ν)) (x : κ) (v : ν) : (mput m x v).map (·.1) = if x ∈ m.map (·.1) then m.map (·.1) else m.map (·.1) ++ [x] := by
  unfold mput
  by_cases h : x ∈ m.map (·.1)
  · have h1 : (mget m x).isSome = true := by
      cases hg : mget m x with
      | none => exact absurd h (mget_none.1 hg)
      | some _ => rfl
    rw [if_pos h1, if_pos h, List.map_map]
    apply List.map_congr_left
    intro p _
    simp only [Function.comp]
    split <;> rfl
  · have h1 : mget m x = none := mget_none.2 h
    rw [h1, if_neg h]
    simp
theorem mem_mput {m : List (κ × ν)} {x : κ} {v : ν} {q : κ × ν} (h : q ∈ mput m x v) : q ∈ m ∨ q = (x, v) := by
  unfold mput at h
  split at h
  · obtain ⟨p, hp, rfl⟩ := List.mem_map.1 h
    split
    · rename_i hx; right; rw [hx]
    · left; exact hp
  · rcases List.mem_append.1 h with h | h
    · left; exact h
    · right; simpa using h
theorem mput_nodup {m : List (κ × ν)} (h : (m.map (·.1)).Nodup) (x : κ) (v : ν) : ((mput m x v).map (·.1)).Nodup := by
  rw [mput_keys]
  split
  · exact h
  · rename_i hx
    rw [List.nodup_append]
    refine ⟨h, by simp, ?_⟩
    intro a ha b hb
    simp only [List.mem_singleton] at hb
    subst hb
    intro e
    subst e
    exact hx ha

theorem update_run (K : Key P kt ek) {MT et : TypeId} (ht : P.underlying MT = some (.map kt et)) {w : World} {B : Nat} {m : List (κ × ν)} (hM : MapIs ek ev w B m) (x : κ) (v : ν) :
    ∃ w', (Instr.mapUpdate MT (.map (some B)) (ek x) (ev v)).run P w = .ok () w' ∧ MapIs ek ev w' B (mput m x v) ∧ w.grownBy w' (some B) ∧ w'.heap.size = w.heap.size := by
  obtain ⟨es, clk, hB, hes, hbn, hbc, hnd⟩ := hM
  have hlt := lt_of_block hB
  have hf := findKey_run K x w (m.map (·.1)) es.toList (entries_key hes)
  have hg := keyIdx_get m x 0
  simp only [Nat.sub_zero] at hg
  have hgo : (getObj B).run P w = .ok (.map es clk) w := by simp [getObj, Sem.run, hB]
  have hset : ∀ o, (setObj B o).run P w = .ok () { w with heap := w.heap.setIfInBounds B o } := by intro o; simp [setObj, Sem.run, hB]
  have hgrow : ∀ o, w.grownBy { w with heap := w.heap.setIfInBounds B o } (some B) := fun o => ⟨rfl, rfl, rfl, by simp, fun k _ hne => by
    have : B ≠ k := fun e => hne (by rw [e])
    simp [Array.getElem?_setIfInBounds_ne this]⟩
  have hat : ∀ o : Obj, ({ w with heap := w.heap.setIfInBounds B o } : World).heap[B]? = some o := fun o => by simp [hlt]
  cases hj : keyIdx (m.map (·.1)) x 0 with
  | none =>
    rw [hj] at hf
    have hx := keyIdx_none hj
    refine ⟨{ w with heap := w.heap.setIfInBounds B (.map (es.push { key := ek x, val := ev v, born := clk }) (clk + 1)) }, ?_, ?_, hgrow _, by simp⟩
    · simp only [Instr.mapUpdate, Sem.run_bind, run_underlying ht, Result.andThen_ok, hgo, K.chk, hf, Option.bind_none, hset]
    · refine ⟨_, _, hat _, ?_, ?_, ?_, mput_nodup hnd x v⟩
      · have : mput m x v = m ++ [(x, v)] := by unfold mput; rw [mget_none.2 hx]; rfl
        rw [this]
        simp [hes]
      · simp only [Array.toList_push, List.map_append, List.map_cons, List.map_nil]
        rw [List.pairwise_append]
        refine ⟨hbn, by simp, ?_⟩
        intro a ha b hb
        simp only [List.mem_singleton] at hb
        obtain ⟨e, he, rfl⟩ := List.mem_map.1 ha
        subst hb
        exact hbc e he
      · intro e he
        simp only [Array.toList_push, List.mem_append, List.mem_singleton] at he
        rcases he with he | he
        · exact Nat.lt_succ_of_lt (hbc e he)
        · subst he; exact Nat.lt_succ_self _
  | some j =>
    obtain ⟨_, hjx⟩ := keyIdx_ge hj
    simp only [Nat.sub_zero] at hjx
    rw [hj] at hf
    have hmj : ∃ p, m[j]? = some p ∧ p.1 = x := by
      rw [List.getElem?_map] at hjx
      cases hp : m[j]? with
      | none => rw [hp] at hjx; simp at hjx
      | some p => rw [hp] at hjx; exact ⟨p, rfl, by simpa using hjx⟩
    obtain ⟨p, hp, hpx⟩ := hmj
    have hej : ∃ e, es.toList[j]? = some e ∧ e.key = ek x := by
      have := congrArg (fun l : List (Value × Value) => l[j]?) hes
      simp only [List.getElem?_map, hp, Option.map_some] at this
      cases he : es.toList[j]? with
      | none => rw [he] at this; simp at this
      | some e => rw [he] at this; simp at this; exact ⟨e, rfl, by rw [this.1, hpx]⟩
    obtain ⟨e, he, hek⟩ := hej
    have he' : es[j]? = some e := by simpa using he
    refine ⟨{ w with heap := w.heap.setIfInBounds B (.map (es.modify j fun e => { e with key := ek x, val := ev v }) clk) }, ?_, ?_, hgrow _, by simp⟩
    · simp only [Instr.mapUpdate, Sem.run_bind, run_underlying ht, Result.andThen_ok, hgo, K.chk, hf, Option.bind_some, he, Option.map_some, he', Option.getD_some, hek]
      simp only [Instr.keyThatStays, K.bits, if_true, Sem.run_pure, Result.andThen_ok, hset]
    · refine ⟨_, _, hat _, ?_, ?_, ?_, mput_nodup hnd x v⟩
      · have hsome : (mget m x).isSome = true := by rw [hg, hj]; simp [hp]
        have hmp : mput m x v = m.map fun p => if p.1 = x then (p.1, v) else p := by unfold mput; rw [if_pos hsome]
        rw [hmp]
        apply List.ext_getElem?
        intro i
        have hi := congrArg (fun l : List (Value × Value) => l[i]?) hes
        simp only [List.getElem?_map] at hi
        simp only [Array.toList_modify, List.getElem?_map, List.getElem?_modify]
        by_cases hij : j = i
        · subst hij
          simp [he, hp, hpx]
        · simp only [hij, if_false]
          cases hmi : m[i]? with
          | none => rw [hmi] at hi; simpa using hi
          | some q =>
            have hq : ¬ q.1 = x := by
              intro hq
              have h1 : (m.map (·.1))[i]? = some x := by simp [hmi, hq]
              have h2 : (m.map (·.1))[j]? = some x := by simp [hp, hpx]
              have hil := (List.getElem?_eq_some_iff.1 h1).1
              have hjl := (List.getElem?_eq_some_iff.1 h2).1
              exact hij ((List.getElem?_inj hjl hnd).1 (h2.trans h1.symm))
            rw [hmi] at hi
            simp only [Option.map_some, hq, if_false] at hi ⊢
            simpa using hi
      · have : (es.modify j fun e => { e with key := ek x, val := ev v }).toList.map (·.born) = es.toList.map (·.born) := by
          rw [Array.toList_modify]
          apply List.ext_getElem?
          intro i
          simp only [List.getElem?_map, List.getElem?_modify]
          by_cases hij : j = i
          · subst hij; simp [he]
          · simp only [hij, if_false]; simp
        rw [this]; exact hbn
      · intro e' he2
        rw [Array.toList_modify] at he2
        obtain ⟨i, hi⟩ := List.getElem?_of_mem he2
        rw [List.getElem?_modify] at hi
        by_cases hij : j = i
        · subst hij
          simp only [he, if_true, Option.map_eq_map, Option.map_some, Option.some.injEq] at hi
          subst hi
          exact hbc e (List.mem_of_getElem? he)
        · simp only [hij, if_false] at hi
          exact hbc e' (List.mem_of_getElem? (by simpa using hi))

variable {ops : Array Oper} {rest : List Oper} {o : Oper} {a : Act} {Q : Exit → Act → World → Prop}
theorem wp_lookup (hgd : o.guard = none) {MT et : TypeId} {mo ko : Operand} {c : Bool} (ho : o.op = .lookup MT mo ko c) (K : Key P kt ek) (ht : P.underlying MT = some (.map kt et)) {z : Value} {w : World} (hz : (zeroValue et).run P w = .ok z w)
    {B : Nat} (hmo : a.eval mo = .map (some B)) {x : κ} (hko : a.eval ko = ek x) {m : List (κ × ν)} (hM : MapIs ek ev w B m) {r : Value} (hr : (if c then .tuple #[((mget m x).map ev).getD z, .bool (mget m x).isSome] else ((mget m x).map ev).getD z) = r)
    (h : wpList P ops Q rest (a.put o.dst r) w) : wpList P ops Q (o :: rest) a w := by
  refine wpList_plain hgd fun K' hK' => ?_
  have hrun := lookup_run K ht hz hM x c
  unfold Oper.wp
  simp [execOp, ho, hmo, hko, hrun, Result.andThen]
  rw [hr]
  exact hK' _ _ h
theorem wp_lookup_nil (hgd : o.guard = none) {MT et : TypeId} {mo ko : Operand} {c : Bool} (ho : o.op = .lookup MT mo ko c) (K : Key P kt ek) (ht : P.underlying MT = some (.map kt et)) {z : Value} {w : World} (hz : (zeroValue et).run P w = .ok z w)
    (hmo : a.eval mo = .map none) {x : κ} (hko : a.eval ko = ek x) {r : Value} (hr : (if c then .tuple #[z, .bool false] else z) = r)
    (h : wpList P ops Q rest (a.put o.dst r) w) : wpList P ops Q (o :: rest) a w := by
  refine wpList_plain hgd fun K' hK' => ?_
  have hf := findKey_run K x w [] [] rfl
  have hrun : (Instr.lookup MT (.map none) (ek x) c).run P w = .ok r w := by
    simp only [Instr.lookup, Sem.run_bind, run_underlying ht, Result.andThen_ok, Sem.run_pure, K.chk]
    rw [hf]
    simp [keyIdx, hz, hr]
  unfold Oper.wp
  simp [execOp, ho, hmo, hko, hrun, Result.andThen]
  exact hK' _ _ h
theorem wp_update (hgd : o.guard = none) {MT et : TypeId} {mo ko vo : Operand} (ho : o.op = .mapUpdate MT mo ko vo ∨ o.op = .insert MT mo ko vo) (K : Key P kt ek) (ht : P.underlying MT = some (.map kt et)) {w : World}
    {B : Nat} (hmo : a.eval mo = .map (some B)) {x : κ} (hko : a.eval ko = ek x) {v : ν} (hvo : a.eval vo = ev v) {m : List (κ × ν)} (hM : MapIs ek ev w B m)
    (h : ∀ w', MapIs ek ev w' B (mput m x v) → w.grownBy w' (some B) → w'.heap.size = w.heap.size → wpList P ops Q rest (a.put o.dst undef) w') : wpList P ops Q (o :: rest) a w := by
  refine wpList_plain hgd fun K' hK' => ?_
  obtain ⟨w', hrun, h1, h2, h3⟩ := update_run K ht hM x v
  unfold Oper.wp
  rcases ho with ho | ho
  · simp [execOp, ho, hmo, hko, hvo, hrun, Result.andThen]
    exact hK' _ _ (h w' h1 h2 h3)
  · simp [execOp, ho, hmo, hko, hvo, hrun, Result.andThen]
    exact hK' _ _ (h w' h1 h2 h3)
end
section
variable {κ ν : Type} {ek : κ → Value} {ev : ν → Value}
theorem MapIs_new (ek : κ → Value) (ev : ν → Value) {w : World} {B : Nat} (h : w.heap[B]? = some (.map #[] 0)) : MapIs ek ev w B [] := ⟨#[], 0, h, rfl, by simp, by simp, by simp⟩
theorem MapIs_same {w w' : World} {B : Nat} {m : List (κ × ν)} (h : MapIs ek ev w B m) (hb : w'.heap[B]? = w.heap[B]?) : MapIs ek ev w' B m := by
  obtain ⟨es, clk, h1, h2⟩ := h
  exact ⟨es, clk, hb.trans h1, h2⟩
theorem MapIs_lt {w : World} {B : Nat} {m : List (κ × ν)} (h : MapIs ek ev w B m) : B < w.heap.size := by
  obtain ⟨es, clk, h1, h2⟩ := h
  exact lt_of_block h1
theorem MapIs_below {w w' : World} {B : Nat} {m : List (κ × ν)} (h : MapIs ek ev w B m) (hb : Below w.heap.size w w') : MapIs ek ev w' B m := MapIs_same h (hb.block B (MapIs_lt h))
theorem MapIs_alloc {w : World} {B : Nat} {m : List (κ × ν)} (h : MapIs ek ev w B m) (o : Obj) : MapIs ek ev (w.alloc o) B m := MapIs_below h ((Below.refl _ w).alloc (Nat.le_refl _) o)
theorem MapIs_grown {w w' : World} {B : Nat} {m : List (κ × ν)} {row : Option Nat} (h : MapIs ek ev w B m) (hg : w.grownBy w' row) (hne : some B ≠ row) : MapIs ek ev w' B m := MapIs_same h (hg.block B (MapIs_lt h) hne)
theorem own_ne_map {α : Type} {w : World} {base : Nat} {e : TypeId} {k : Nat} {enc : α → List Value} {v : Value} {xs : List α} {M : Nat} {m : List (κ × ν)} (h : Own w base e k enc v xs) (hM : MapIs ek ev w M m) : v.ownBlock ≠ some M := by
  obtain ⟨_, h2⟩ := h
  obtain ⟨es, clk, hB, _⟩ := hM
  rcases h2 with ⟨rfl, _⟩ | ⟨g, cap, cur, rfl, _, hh, _⟩
  · simp [Value.ownBlock]
  · intro e
    simp only [Value.ownBlock, Option.some.injEq] at e
    subst e
    rw [hB] at hh
    cases hh
end
end Go.Proofs.YtaohkcdfjjiggaaGreat
/-! Which keys maps have here: whole numbers, IDs. -/
namespace Go.Proofs.YtaohkcdfjjiggaaGreat
open Go.RowKit
theorem part_int {P : Program} {t : TypeId} {k : IntKind} (hu : P.underlying t = some (.int k)) (cs : Array Value) (off : Nat) (v : Value) (h : cs[off]? = some v) (w : World) : (part t cs off).run P w = .ok v w := by
  simp [part, isAgg, run_underlying hu, h]
theorem eqlIn_id (d : Nat) (x y : ID) (w : World) : (Op.equalIn (d + 2) 35 (idv x) (idv y)).run Tryz.prog w = .ok (decide (x = y)) w := by
  have u := Tryz.underlying35
  have z := Tryz.sizeOf23
  have u3 := Tryz.underlying23
  have p := fun cs off v h w => part_int (P := Tryz.prog) u3 cs off v h w
  unfold idv Op.equalIn
  simp only [Sem.run_bind, run_underlying u, Result.andThen_ok, z]
  simp [List.range', List.forIn_cons, p, run_equalIn_int _ _ _ _ _ _ _ u3]
  obtain ⟨x1, x2⟩ := x
  obtain ⟨y1, y2⟩ := y
  by_cases h1 : x1 = y1 <;> by_cases h2 : x2 = y2 <;> simp [h1, h2]
theorem eql_id (x y : ID) (w : World) : (binOp .eql 35 (idv x) (idv y)).run Tryz.prog w = .ok (.bool (decide (x = y))) w := by
  have h := eqlIn_id 9998 x y w
  unfold idv at *
  rw [run_eql_struct, h]
  rfl
theorem neq_id (x y : ID) (w : World) : (binOp .neq 35 (idv x) (idv y)).run Tryz.prog w = .ok (.bool (!decide (x = y))) w := by
  have h := eqlIn_id 9998 x y w
  unfold idv at *
  rw [run_neq_struct, h]
  rfl
/-- The same, written out; beside the noughts. -/
theorem eql_idw (x y : ID) (w : World) : (binOp .eql 35 (.agg #[.int .u64 x.hi, .int .u64 x.lo]) (.agg #[.int .u64 y.hi, .int .u64 y.lo])).run Tryz.prog w = .ok (.bool (decide (x = y))) w := by
  have h := eql_id x y w
  unfold idv at h
  exact h
theorem neq_idw (x y : ID) (w : World) : (binOp .neq 35 (.agg #[.int .u64 x.hi, .int .u64 x.lo]) (.agg #[.int .u64 y.hi, .int .u64 y.lo])).run Tryz.prog w = .ok (.bool (!decide (x = y))) w := by
  have h := neq_id x y w
  unfold idv at h
  exact h
abbrev zid : ID := ⟨0, 0⟩
theorem eql_idz (x : ID) (w : World) : (binOp .eql 35 (.agg #[.int .u64 x.hi, .int .u64 x.lo]) (.agg #[.int .u64 0, .int .u64 0])).run Tryz.prog w = .ok (.bool (decide (x = zid))) w := by
  have h := eql_idw x ⟨0, 0⟩ w
  simp only at h
  exact h
theorem neq_idz (x : ID) (w : World) : (binOp .neq 35 (.agg #[.int .u64 x.hi, .int .u64 x.lo]) (.agg #[.int .u64 0, .int .u64 0])).run Tryz.prog w = .ok (.bool (!decide (x = zid))) w := by
  have h := neq_idw x ⟨0, 0⟩ w
  simp only at h
  exact h
theorem check_int {P : Program} {t : TypeId} {k : IntKind} (hu : P.underlying t = some (.int k)) (b : Bool) (n : Nat) (x : Int) (w : World) : (Instr.checkKey b (n + 1) t (.int k x)).run P w = .ok () w := by
  simp [Instr.checkKey, run_underlying hu]
theorem KeyI : Key Tryz.prog 3 (Value.int .i64) where
  chk := fun b x w => check_int Tryz.underlying3 b 9999 x w
  eq := fun x y w => by
    show (Op.equalIn 10000 _ _ _).run _ _ = _
    rw [show (10000 : Nat) = 9999 + 1 from rfl, run_equalIn_int _ _ _ _ _ _ _ Tryz.underlying3]
    rfl
  now := ⟨_, Tryz.underlying3, fun x y => .inr rfl⟩
  bits := fun x => by simp [Instr.sameBits]
theorem KeyID : Key Tryz.prog 35 idv where
  chk := fun b x w => by
    have u := Tryz.underlying35
    have z := Tryz.sizeOf23
    have u3 := Tryz.underlying23
    have p := fun cs off v h w => part_int (P := Tryz.prog) u3 cs off v h w
    have c := fun b n x w => check_int (P := Tryz.prog) u3 b n x w
    unfold idv Instr.checkKey
    simp only [Sem.run_bind, run_underlying u, Result.andThen_ok]
    simp [List.range', List.forIn_cons, p, c, z]
  eq := fun x y w => eqlIn_id 9998 x y w
  now := ⟨_, Tryz.underlying35, fun x y => .inl rfl⟩
  bits := fun x => by simp [Instr.sameBits, idv]
end Go.Proofs.YtaohkcdfjjiggaaGreat
/-! The walks of tree.Name and slices.Index, slices.Contains of IDs. -/
namespace Go.Proofs.YtaohkcdfjjiggaaGreat
open Go.RowKit
def nameOf (b : Blk) : ID := mixOf [1, IntKind.u64.wrap b.slot, IntKind.u64.wrap b.frm, b.par.1, b.par.2, b.salt]
set_option maxRecDepth 100000 in
set_option maxHeartbeats 1000000 in
theorem name_any (b : Blk) (w : World) :
    Calls Tryz.prog 43 #[.agg #[.int .i64 b.slot, .int .i64 b.frm, .int .u64 b.par.1, .int .u64 b.par.2, .int .u64 b.salt]] w fun e w' => e = .returned (idv (nameOf b)) ∧ Below w.heap.size w w' := by
  go_enter Tryz.func43, Tryz.ntmps43
  go_wp2_with fail
  refine (of_any [1, IntKind.u64.wrap b.slot, IntKind.u64.wrap b.frm, b.par.1, b.par.2, b.salt] _ _ _ (Rd_newU (by simp) rfl (by simp))).mono ?_
  rintro e w1 ⟨rfl, hb⟩
  have hr : w1.heap[w.heap.size + 1]? = some (.cells #[.int .u64 0, .int .u64 0] 35 (0, 0)) := bl_own hb (ha_lt (ha_at (by simp)))
  obtain ⟨d0, d1, g0, g1⟩ := blk2 hr
  go_wp2
  refine bodyPost_ret (v := idv (nameOf b)) ?_ rfl ⟨rfl, ?_⟩
  · simp [results, Tryz.results43, go_sem, d0, d1, idv, nameOf]
  · exact ((below_call ((((Below.refl _ w).alloc (Nat.le_refl _) _).alloc (by simp <;> omega) _).alloc (by simp <;> omega) _) (by simp <;> omega) hb).setCell (p := ⟨w.heap.size + 1, 0, none⟩) (by simp) _).setCell (p := ⟨w.heap.size + 1, 1, none⟩) (by simp) _

/-- Where x is; -1: nowhere. -/
def idxI {α : Type} [DecidableEq α] (xs : List α) (x : α) : Int := match xs.findIdx? fun y => decide (y = x) with | some i => (i : Int) | none => -1
theorem idx_hit {α : Type} [DecidableEq α] {xs : List α} {x : α} {k : Nat} (hlt : k < xs.length) (hno : x ∉ xs.take k) (h : x = xs[k]) : idxI xs x = (k : Int) := by
  have : xs.findIdx? (fun y => decide (y = x)) = some k := by
    rw [List.findIdx?_eq_some_iff_getElem]
    refine ⟨hlt, by simp [h], fun j hj => ?_⟩
    have : xs[j] ≠ x := fun e => hno (by rw [← e]; exact List.mem_take_iff_getElem.2 ⟨j, by omega, rfl⟩)
    simpa using this
  unfold idxI
  rw [this]
theorem idx_miss {α : Type} [DecidableEq α] {xs : List α} {x : α} (hno : x ∉ xs) : idxI xs x = -1 := by
  have : xs.findIdx? (fun y => decide (y = x)) = none := by
    rw [List.findIdx?_eq_none_iff]
    intro y hy
    have : y ≠ x := fun e => hno (e ▸ hy)
    simpa using this
  unfold idxI
  rw [this]
theorem idx_mem {α : Type} [DecidableEq α] (xs : List α) (x : α) : decide (0 ≤ idxI xs x) = decide (x ∈ xs) := by
  by_cases h : x ∈ xs
  · obtain ⟨i, hi⟩ : ∃ i, xs.findIdx? (fun y => decide (y = x)) = some i := by
      cases hf : xs.findIdx? (fun y => decide (y = x)) with
      | some i => exact ⟨i, rfl⟩
      | none =>
        rw [List.findIdx?_eq_none_iff] at hf
        have := hf x h
        simp at this
    have : idxI xs x = (i : Int) := by unfold idxI; rw [hi]
    rw [this]
    simp [h]
  · rw [idx_miss h]
    simp [h]
theorem idx_low {α : Type} [DecidableEq α] (xs : List α) (x : α) : -1 ≤ idxI xs x := by
  unfold idxI
  cases xs.findIdx? (fun y => decide (y = x)) with
  | none => exact Int.le_refl _
  | some i => simp only; omega
theorem not_mem_step {α : Type} {xs : List α} {x : α} {k : Nat} (hlt : k < xs.length) (hno : x ∉ xs.take k) (h : ¬ x = xs[k]) : x ∉ xs.take (k + 1) := by
  rw [← List.take_append_getElem hlt]
  simp only [List.mem_append, List.mem_singleton]
  exact fun e => e.elim hno h
set_option maxRecDepth 100000 in
set_option maxHeartbeats 1000000 in
theorem index_any (x : ID) (xs : List ID) (A : Option Addr) (c : Nat) (w : World) (hr : Rd 2 encID w A xs) :
    Calls Tryz.prog 98 #[.slice A xs.length c, idv x] w fun e w' => e = .returned (.int .i64 (idxI xs x)) ∧ Below w.heap.size w w' := by
  unfold idv
  go_enter Tryz.func98, Tryz.ntmps98
  go_wp2_with fail
  have hm := hr.1
  go_loopw [5, 8] (fun x' i wr => ∃ k : Nat, k ≤ xs.length ∧ i = .int .i64 k ∧ x ∉ xs.take k ∧ wr.heap[w.heap.size]? = some (.cells #[.int .u64 x.1, .int .u64 x.2] 35 (0, 0)) ∧ Below w.heap.size w wr) (fun _ i _ => xs.length - (intOf i).toNat)
  case atStart => exact ⟨0, Nat.zero_le _, rfl, by simp, ha_at rfl, (Below.refl _ w).alloc (Nat.le_refl _) _⟩
  case round =>
    obtain ⟨k, hk, rfl, hno, hb, hB⟩ := hrel
    obtain ⟨c0, c1, f0, f1⟩ := blk2 hb
    by_cases hlt : k < xs.length
    · obtain ⟨b, o, rfl, hbo, d0, d1⟩ := (hr.below hB).atID hlt
      have heq := eql_id x xs[k]
      unfold idv at heq
      by_cases hx : x = xs[k]
      · have hd : decide (x = xs[k]) = true := by simpa using hx
        rw [hd] at heq
        have hi := Lib.hid (idx_hit hlt hno hx)
        clear hd hx
        go_wp2_with fail
        go_quiet (fail)
        go_wp2
        go_ret
        exact ⟨ret_int hi.out.symm, pw_below_drewN hB _⟩
      · have hd : decide (x = xs[k]) = false := by simpa using hx
        rw [hd] at heq
        have hn := not_mem_step hlt hno hx
        clear hd hx
        go_wp2_with fail
        go_quiet (fail)
        go_wp2
        go_roundw
        case rel => exact ⟨k + 1, hlt, by go_num, hn, hb, pw_below_drewN hB _⟩
        case measure => simp [intOf]; omega
    · obtain rfl : k = xs.length := by omega
      have hi := Lib.hid (idx_miss (by simpa using hno : x ∉ xs))
      go_wp2_with fail
      go_ret
      exact ⟨ret_int hi.out.symm, hB⟩
set_option maxRecDepth 100000 in
set_option maxHeartbeats 1000000 in
theorem contains_any (x : ID) (xs : List ID) (A : Option Addr) (c : Nat) (w : World) (hr : Rd 2 encID w A xs) :
    Calls Tryz.prog 61 #[.slice A xs.length c, idv x] w fun e w' => e = .returned (.bool (decide (x ∈ xs))) ∧ Below w.heap.size w w' := by
  have hi := Lib.hid (idx_mem xs x)
  have ht := index_any x xs A c (w.alloc (.cells #[.int .u64 x.1, .int .u64 x.2] 35)) (hr.below ((Below.refl _ w).alloc (Nat.le_refl _) _))
  unfold idv at *
  go_enter Tryz.func61, Tryz.ntmps61
  go_wp2_with (go_at_call 98; refine ht.mono ?_; clear ht; rintro e w' ⟨rfl, hb⟩)
  go_ret
  exact ⟨ret_bool hi.out, below_call ((Below.refl _ w).alloc (Nat.le_refl _) _) (by simp <;> omega) hb⟩
end Go.Proofs.YtaohkcdfjjiggaaGreat
/-! The walks of tree.places, Chain, May, Under, Kids. -/
namespace Go.Proofs.YtaohkcdfjjiggaaGreat
open Go.RowKit
def slotAt (l : List Blk) (p : Int) : Int := if p = -1 then 0 else (l[p.toNat]?.map (·.slot)).getD 0
def plStep (l : List Blk) (m : List (ID × Int)) (i : Nat) (b : Blk) : Option (List (ID × Int)) :=
  match mget m b.par with
  | none => none
  | some p => if b.slot ≤ slotAt l p then none else if (mget m (nameOf b)).isSome then none else some (mput m (nameOf b) i)
def plGo (l : List Blk) : List Blk → Nat → List (ID × Int) → Option (List (ID × Int))
  | [], _, m => some m
  | b :: bs, i, m => match plStep l m i b with
    | none => none
    | some m' => plGo l bs (i + 1) m'
def plc (l : List Blk) : Option (List (ID × Int)) := plGo l l 0 [(⟨0, 0⟩, -1)]
set_option maxRecDepth 100000 in
set_option maxHeartbeats 1000000 in
theorem slot_any (p : Int) (l : List Blk) (A : Option Addr) (c : Nat) (B T : Nat) (w : World) (hr : Rd 5 encBlk w A l) (hb : w.heap[B]? = some (.cells #[.slice A l.length c] T (0, 0))) (hp : p = -1 ∨ 0 ≤ p ∧ p < l.length) :
    Calls Tryz.prog 109 #[.int .i64 p, .pointer (some ⟨B, 0, none⟩)] w fun e w' => e = .returned (.int .i64 (slotAt l p)) ∧ w' = w := by
  obtain ⟨c0, f0⟩ := blk1 hb
  by_cases h : p = -1
  · subst h
    go_enter Tryz.func109, Tryz.ntmps109
    go_wp2_with fail
    go_ret
    exact ⟨rfl, rfl⟩
  · obtain ⟨k, rfl⟩ : ∃ k : Nat, p = k := ⟨p.toNat, by omega⟩
    have hlt : k < l.length := by omega
    obtain ⟨b, o, rfl, hbo, d0, d1, d2, d3, d4⟩ := hr.atBlk hlt
    have hs := Lib.hid (show slotAt l k = l[k].slot by unfold slotAt; rw [if_neg h]; simp [hlt])
    have hm := hr.1
    go_enter Tryz.func109, Tryz.ntmps109
    go_wp2_with fail
    go_ret
    exact ⟨ret_int hs.out.symm, rfl⟩
/-- What places tells. -/
def PlacesPost (w : World) (r : Option (List (ID × Int))) (e : Ending) (w' : World) : Prop :=
  (match r with
    | none => e = .returned (.tuple #[.map none, .bool false])
    | some m => ∃ M, e = .returned (.tuple #[.map (some M), .bool true]) ∧ w.heap.size ≤ M ∧ MapIs idv (Value.int .i64) w' M m) ∧ Below w.heap.size w w'
theorem PlacesPost.no {w w' : World} {r : Option (List (ID × Int))} (h : r = none) (hb : Below w.heap.size w w') : PlacesPost w r (.returned (.tuple #[.map none, .bool false])) w' := by
  subst h; exact ⟨rfl, hb⟩
theorem PlacesPost.yes {w w' : World} {r : Option (List (ID × Int))} {m : List (ID × Int)} {M : Nat} (h : r = some m) (hM : w.heap.size ≤ M) (hm : MapIs idv (Value.int .i64) w' M m) (hb : Below w.heap.size w w') : PlacesPost w r (.returned (.tuple #[.map (some M), .bool true])) w' := by
  subst h; exact ⟨⟨M, rfl, hM, hm⟩, hb⟩
theorem plGo_drop {l : List Blk} {k : Nat} (hlt : k < l.length) (m : List (ID × Int)) : plGo l (l.drop k) k m = match plStep l m k l[k] with | none => none | some m' => plGo l (l.drop (k + 1)) (k + 1) m' := by
  rw [List.drop_eq_getElem_cons hlt]; rfl
set_option maxRecDepth 100000 in
set_option maxHeartbeats 1000000 in
theorem places_any (l : List Blk) (A : Option Addr) (c : Nat) (w : World) (hr : Rd 5 encBlk w A l) :
    Calls Tryz.prog 73 #[.slice A l.length c] w (PlacesPost w (plc l)) := by
  have hm := hr.1
  have hmm := @run_makeMap Tryz.prog
  go_enter Tryz.func73, Tryz.ntmps73
  have hM0 : MapIs idv (Value.int .i64) ((w.alloc (.cells #[.slice A l.length c] 26)).alloc (.map #[] 0)) (w.heap.size + 1) ([] : List (ID × Int)) := MapIs_new _ _ (ha_at (by simp))
  go_wp2_with (refine wp_update rfl (.inr rfl) KeyID Tryz.underlying100 rfl (x := ⟨0, 0⟩) rfl (v := -1) rfl hM0 ?_; clear hM0)
  intro w1 hM1 hg1 hz1
  have hb1 : w1.heap[w.heap.size]? = some (.cells #[.slice A l.length c] 26 (0, 0)) := grown_own hg1 (ha_lt (ha_at rfl)) (by simp)
  obtain ⟨c1, f1⟩ := blk1 hb1
  have hB1 : Below w.heap.size w w1 := below_step (((Below.refl _ w).alloc (Nat.le_refl _) _).alloc (by simp) _) (by simp <;> omega) hg1 (by simp)
  go_wp2_with fail
  go_loopw [2, 3, 6, 7, 19] (fun s2 s3 s6 s7 i wr => ∃ (k : Nat) (m : List (ID × Int)), k ≤ l.length ∧ i = .int .i64 k ∧ MapIs idv (Value.int .i64) wr (w.heap.size + 1) m ∧ plGo l (l.drop k) k m = plc l ∧ (∀ q ∈ m, q.2 = -1 ∨ 0 ≤ q.2 ∧ q.2 < l.length) ∧
    wr.heap[w.heap.size]? = some (.cells #[.slice A l.length c] 26 (0, 0)) ∧ Below w.heap.size w wr) (fun _ _ _ _ i _ => l.length - (intOf i).toNat)
  case atStart => exact ⟨0, _, Nat.zero_le _, rfl, hM1, rfl, by simp [mput, mget], hb1, hB1⟩
  case round =>
    obtain ⟨k, m, hk, rfl, hM, hgo, hval, hb, hB⟩ := hrel
    by_cases hlt : k < l.length
    · obtain ⟨b', o, rfl, hbo, d0, d1, d2, d3, d4⟩ := (hr.below hB).atBlk hlt
      rw [plGo_drop hlt] at hgo
      obtain ⟨b, hbk⟩ : ∃ b, l[k] = b := ⟨_, rfl⟩
      rw [hbk] at d0 d1 d2 d3 d4 hgo
      have hMa := MapIs_alloc hM (.cells #[.int .i64 b.slot, .int .i64 b.frm, .int .u64 b.par.1, .int .u64 b.par.2, .int .u64 b.salt] 64)
      have hba : (wr.alloc (.cells #[.int .i64 b.slot, .int .i64 b.frm, .int .u64 b.par.1, .int .u64 b.par.2, .int .u64 b.salt] 64)).heap[w.heap.size]? = some (.cells #[.slice (some ⟨b', o, none⟩) l.length c] 26 (0, 0)) := ha_lt hb
      have hBa : Below w.heap.size w (wr.alloc (.cells #[.int .i64 b.slot, .int .i64 b.frm, .int .u64 b.par.1, .int .u64 b.par.2, .int .u64 b.salt] 64)) := hB.alloc hB.size _
      clear hbk
      cases hp : mget m b.par with
      | none =>
        have hres := Lib.hid (show plc l = none by rw [← hgo]; simp [plStep, hp])
        clear hgo
        go_wp2_with (at_lookup; refine wp_lookup (x := b.par) rfl rfl KeyID Tryz.underlying100 (Tryz.zeroValue3 _) rfl rfl hMa (r := .tuple #[.int .i64 0, .bool false]) (by rw [hp]; rfl) ?_)
        go_quiet (fail)
        go_wp2
        go_ret2
        exact PlacesPost.no hres.out (pw_below_drewN hBa _)
      | some p =>
        have hpv : p = -1 ∨ 0 ≤ p ∧ p < l.length := by
          unfold mget at hp
          obtain ⟨q, hq, rfl⟩ := Option.map_eq_some_iff.1 hp
          exact hval q (List.mem_of_find?_eq_some hq)
        have hslot := fun n => slot_any p l (some ⟨b', o, none⟩) c w.heap.size 26 ((wr.alloc (.cells #[.int .i64 b.slot, .int .i64 b.frm, .int .u64 b.par.1, .int .u64 b.par.2, .int .u64 b.salt] 64)).drewN n) (hr.below (pw_below_drewN hBa n)) hba hpv
        by_cases hs : b.slot ≤ slotAt l p
        · have hres := Lib.hid (show plc l = none by rw [← hgo]; simp [plStep, hp, hs])
          clear hgo hpv
          go_wp2_with (at_lookup; refine wp_lookup (x := b.par) rfl rfl KeyID Tryz.underlying100 (Tryz.zeroValue3 _) rfl rfl hMa (r := .tuple #[.int .i64 p, .bool true]) (by rw [hp]; rfl) ?_)
          go_quiet ((go_at_call 109; exact Calls.quiet_of_same (hslot _)))
          go_wp2
          go_ret2
          exact PlacesPost.no hres.out (pw_below_drewN hBa _)
        · have hd : decide (b.slot ≤ slotAt l p) = false := by simpa using hs
          clear hpv
          go_wp2_with (at_lookup; refine wp_lookup (x := b.par) rfl rfl KeyID Tryz.underlying100 (Tryz.zeroValue3 _) rfl rfl hMa (r := .tuple #[.int .i64 p, .bool true]) (by rw [hp]; rfl) ?_)
          go_quiet ((go_at_call 109; exact Calls.quiet_of_same (hslot _)))
          clear hslot
          have hMt := hMa
          have hbt := hba
          go_wp2_with fail
          refine (name_any b _).mono ?_
          rintro e w2 ⟨rfl, hb2⟩
          have hM2 : MapIs idv (Value.int .i64) w2 (w.heap.size + 1) m := MapIs_same hMa (hb2.block _ (MapIs_lt hMa))
          have hB2 : Below w.heap.size w w2 := below_call (pw_below_drewN hBa nq) (by simp; exact Nat.le_succ_of_le hB.size) hb2
          have hl2 : w2.heap[w.heap.size]? = some (.cells #[.slice (some ⟨b', o, none⟩) l.length c] 26 (0, 0)) := (hb2.block _ (lt_of_block hba)).trans hba
          clear hMa hba hMt hbt hb2
          have hM3 := MapIs_alloc hM2 (.cells #[.int .u64 (nameOf b).1, .int .u64 (nameOf b).2] 35)
          have hB3 := hB2.alloc hB2.size (.cells #[.int .u64 (nameOf b).1, .int .u64 (nameOf b).2] 35)
          have hl3 : (w2.alloc (.cells #[.int .u64 (nameOf b).1, .int .u64 (nameOf b).2] 35)).heap[w.heap.size]? = some (.cells #[.slice (some ⟨b', o, none⟩) l.length c] 26 (0, 0)) := ha_lt hl2
          unfold idv
          cases hn : mget m (nameOf b) with
          | some y =>
            have hres := Lib.hid (show plc l = none by rw [← hgo]; simp [plStep, hp, hn])
            clear hgo
            go_wp2_with (at_lookup; refine wp_lookup (x := nameOf b) rfl rfl KeyID Tryz.underlying100 (Tryz.zeroValue3 _) rfl rfl hM3 (r := .tuple #[.int .i64 y, .bool true]) (by rw [hn]; rfl) ?_)
            go_ret2
            exact PlacesPost.no hres.out hB3
          | none =>
            have hgo' := Lib.hid hgo
            clear hgo
            go_wp2_with (first | (at_lookup; refine wp_lookup (x := nameOf b) rfl rfl KeyID Tryz.underlying100 (Tryz.zeroValue3 _) rfl rfl hM3 (r := .tuple #[.int .i64 0, .bool false]) (by rw [hn]; rfl) ?_) | (at_mapUpdate; refine wp_update rfl (.inl rfl) KeyID Tryz.underlying100 rfl (x := nameOf b) rfl (v := (k : Int)) rfl hM3 ?_; intro w4 hM4 hg4 hz4))
            go_roundw
            case rel =>
              refine ⟨k + 1, mput m (nameOf b) k, hlt, by go_num, hM4, ?_, ?_, grown_own hg4 hl3 (by simp), below_step hB3 hB3.size hg4 (by simp)⟩
              · have hg := hgo'.out
                simp only [plStep, hp, if_neg (Int.not_le.2 hs), hn, Option.isSome_none, Bool.false_eq_true, if_false] at hg
                exact hg
              · intro q hq
                rcases mem_mput hq with h | h
                · exact hval q h
                · subst h; right; constructor <;> simp <;> omega
            case measure => simp [intOf]; omega
    · obtain rfl : k = l.length := by omega
      have hres := Lib.hid (show plc l = some m by rw [← hgo, List.drop_length]; rfl)
      clear hgo
      go_wp2_with fail
      go_ret2
      exact PlacesPost.yes hres.out (by omega) hM hB
theorem places_none {l : List Blk} (h : plc l = none) (A : Option Addr) (c : Nat) (w : World) (hr : Rd 5 encBlk w A l) :
    Calls Tryz.prog 73 #[.slice A l.length c] w fun e w' => e = .returned (.tuple #[.map none, .bool false]) ∧ Below w.heap.size w w' := by
  refine (places_any l A c w hr).mono ?_
  rw [h]
  exact fun e w' h => h
theorem places_some {l : List Blk} {m : List (ID × Int)} (h : plc l = some m) (A : Option Addr) (c : Nat) (w : World) (hr : Rd 5 encBlk w A l) :
    Calls Tryz.prog 73 #[.slice A l.length c] w fun e w' => ∃ M, e = .returned (.tuple #[.map (some M), .bool true]) ∧ w.heap.size ≤ M ∧ MapIs idv (Value.int .i64) w' M m ∧ Below w.heap.size w w' := by
  refine (places_any l A c w hr).mono ?_
  rw [h]
  rintro e w' ⟨⟨M, h1, h2, h3⟩, h4⟩
  exact ⟨M, h1, h2, h3, h4⟩
end Go.Proofs.YtaohkcdfjjiggaaGreat
/-! The walk of tree.Chain. -/
namespace Go.Proofs.YtaohkcdfjjiggaaGreat
open Go.RowKit
theorem infoID : (Tryz.prog.info? 35).map (fun i => (i.zero, i.size, i.bytes)) = some (some (.agg #[.int .u64 0, .int .u64 0]), 2, 16) := by kernel_rfl
theorem encID_len (x : ID) : (encID x).length = 2 := rfl
theorem encID_one (x : ID) : ∀ u ∈ encID x, u.oneCell' = true := by intro u hu; simp [encID] at hu; rcases hu with rfl | rfl <;> rfl
def parAt (l : List Blk) (i : Int) : ID := (l[i.toNat]?.map (·.par)).getD ⟨0, 0⟩
def chGo (l : List Blk) (m : List (ID × Int)) : Nat → ID → List ID
  | 0, _ => []
  | f + 1, id => id :: (match mget m id with
    | some i => if i = -1 then [] else chGo l m f (parAt l i)
    | none => [])
def chain (l : List Blk) (id : ID) : List ID :=
  match plc l with
  | none => []
  | some m => if (mget m id).isSome then chGo l m (l.length + 1) id else []
/-- What the walk leans on: a block's parent stands ahead of it. -/
def Ahead (l : List Blk) (m : List (ID × Int)) : Prop :=
  ∀ x i, mget m x = some i → i = -1 ∨ (0 ≤ i ∧ i < l.length ∧ ∃ j, mget m (parAt l i) = some j ∧ j < i ∧ -1 ≤ j)
theorem chain_zero {l : List Blk} {id : ID} (h : plc l = none ∨ ∃ m, plc l = some m ∧ mget m id = none) : chain l id = [] := by
  unfold chain
  rcases h with h | ⟨m, h, hn⟩
  · rw [h]
  · rw [h]; simp [hn]
set_option maxRecDepth 100000 in
set_option maxHeartbeats 1000000 in
theorem chain_none (l : List Blk) (id : ID) (A : Option Addr) (c : Nat) (w : World) (hr : Rd 5 encBlk w A l) (h : plc l = none) :
    Calls Tryz.prog 41 #[.slice A l.length c, idv id] w fun e w' => ∃ v, e = .returned v ∧ Own w' w.heap.size 35 2 encID v (chain l id) ∧ Below w.heap.size w w' := by
  have hm := hr.1
  have hc := Lib.hid (chain_zero (id := id) (.inl h))
  have hcall := fun W (hW : Below w.heap.size w W) => places_none h A c W (hr.below hW)
  unfold idv
  go_enter Tryz.func41, Tryz.ntmps41
  go_wp2_with fail
  go_step3
  go_wp2_with (first | (go_at_call 73; refine (hcall _ ((Below.refl _ w).alloc (Nat.le_refl _) _)).mono ?_; rintro e w1 ⟨rfl, hb⟩; obtain ⟨c0, c1, _, _⟩ := blk2 (bl_own hb (ha_at rfl))) | (at_lookup; refine wp_lookup_nil (x := id) rfl rfl KeyID Tryz.underlying100 (Tryz.zeroValue3 _) rfl rfl (r := .tuple #[.int .i64 0, .bool false]) rfl ?_))
  rw [Exit.noGoto_ret]
  go_ret
  refine ⟨_, rfl, ?_, below_call ((Below.refl _ w).alloc (Nat.le_refl _) _) (by simp) hb⟩
  rw [hc.out]
  exact Own.nil _ _ _ _ _
set_option maxRecDepth 100000 in
set_option maxHeartbeats 1000000 in
theorem chain_miss (l : List Blk) (id : ID) (m : List (ID × Int)) (A : Option Addr) (c : Nat) (w : World) (hr : Rd 5 encBlk w A l) (h : plc l = some m) (hn : mget m id = none) :
    Calls Tryz.prog 41 #[.slice A l.length c, idv id] w fun e w' => ∃ v, e = .returned v ∧ Own w' w.heap.size 35 2 encID v (chain l id) ∧ Below w.heap.size w w' := by
  have hm := hr.1
  have hc := Lib.hid (chain_zero (id := id) (.inr ⟨m, h, hn⟩))
  have hcall := fun W (hW : Below w.heap.size w W) => places_some h A c W (hr.below hW)
  unfold idv
  go_enter Tryz.func41, Tryz.ntmps41
  go_wp2_with fail
  go_step3
  go_wp2_with (first | (go_at_call 73; refine (hcall _ ((Below.refl _ w).alloc (Nat.le_refl _) _)).mono ?_; rintro e w1 ⟨M, rfl, hMl, hM, hb⟩; obtain ⟨c0, c1, _, _⟩ := blk2 (bl_own hb (ha_at rfl))) | (at_lookup; refine wp_lookup (x := id) rfl rfl KeyID Tryz.underlying100 (Tryz.zeroValue3 _) rfl rfl hM (r := .tuple #[.int .i64 0, .bool false]) (by rw [hn]; rfl) ?_))
  rw [Exit.noGoto_ret]
  go_ret
  refine ⟨_, rfl, ?_, below_call ((Below.refl _ w).alloc (Nat.le_refl _) _) (by simp) hb⟩
  rw [hc.out]
  exact Own.nil _ _ _ _ _
/-- What holds at the label 'down'. -/
def ChainAt (l : List Blk) (id : ID) (m : List (ID × Int)) (i : Int) (A : Option Addr) (c : Nat) (w : World) (a : Act) (W : World) : Prop :=
  ∃ (M : Nat) (v u10 u24 u25 u26 u27 u28 u29 u30 u31 u32 u33 u34 u35 u36 u37 : Value) (acc : List ID) (x : ID) (j : Int) (f : Nat), a = { tmps := #[.slice A l.length c, .agg #[.int .u64 id.hi, .int .u64 id.lo], undef, .pointer (some ⟨w.heap.size, 0, none⟩), .slice none 0 0, .map (some M), .bool true, .int .i64 i, .bool true, v, u10, .tuple #[.map (some M), .bool true], .slice A l.length c, .tuple #[.map (some M), .bool true], .map (some M), .bool true, .tuple #[.int .i64 i, .bool true], .map (some M), .agg #[.int .u64 id.hi, .int .u64 id.lo], .tuple #[.int .i64 i, .bool true], .int .i64 i, .bool true, .bool true, .bool false, u24, u25, u26, u27, u28, u29, u30, u31, u32, u33, u34, u35, u36, u37, undef], defers := [] } ∧
    MapIs idv (Value.int .i64) W M m ∧ w.heap.size + 1 ≤ M ∧ W.heap[w.heap.size]? = some (.cells #[.int .u64 x.hi, .int .u64 x.lo] 35 (0, 0)) ∧ Own W (w.heap.size + 1) 35 2 encID v acc ∧ Below w.heap.size w W ∧
    mget m x = some j ∧ -1 ≤ j ∧ j + 2 ≤ f ∧ acc ++ chGo l m f x = chain l id ∧ acc.length + j + 1 ≤ l.length
theorem lenV_own {α : Type} {w : World} {base : Nat} {e : TypeId} {k : Nat} {enc : α → List Value} {v : Value} {xs : List α} (h : Own w base e k enc v xs) : lenV v = xs.length := by
  obtain ⟨_, h2⟩ := h
  rcases h2 with ⟨rfl, h0⟩ | ⟨g, cap, cur, rfl, _⟩
  · simp [lenV, h0]
  · rfl
set_option maxRecDepth 100000 in
set_option maxHeartbeats 1000000 in
theorem chain_hit (l : List Blk) (id : ID) (m : List (ID × Int)) (i : Int) (A : Option Addr) (c : Nat) (w : World) (hr : Rd 5 encBlk w A l) (h : plc l = some m) (hn : mget m id = some i) (hA : Ahead l m) (hi : -1 ≤ i) (hl : l.length ≤ 100000) :
    Calls Tryz.prog 41 #[.slice A l.length c, idv id] w fun e w' => ∃ v, e = .returned v ∧ Own w' w.heap.size 35 2 encID v (chain l id) ∧ Below w.heap.size w w' := by
  have hm := hr.1
  have hcall := fun W (hW : Below w.heap.size w W) => places_some h A c W (hr.below hW)
  have hres : chGo l m (l.length + 1) id = chain l id := by unfold chain; rw [h]; simp [hn]
  have hil : i + 1 ≤ l.length := by
    rcases hA id i hn with e | ⟨_, e, _⟩ <;> omega
  unfold idv
  go_enter Tryz.func41, Tryz.ntmps41
  go_wp2_with fail
  refine wp_scope_loop 0 (ChainAt l id m i A c w) (fun a' _ => l.length + 2 - lenV (a'.tmps.getD 9 undef)) rfl ?pass ?first
  case first =>
    intro hpass
    go_wp2_with (first | (go_at_call 73; refine (hcall _ ((Below.refl _ w).alloc (Nat.le_refl _) _)).mono ?_; rintro e w1 ⟨M, rfl, hMl, hM, hb⟩; obtain ⟨c0, c1, _, _⟩ := blk2 (bl_own hb (ha_at rfl))) | (at_lookup; refine wp_lookup (x := id) rfl rfl KeyID Tryz.underlying100 (Tryz.zeroValue3 _) rfl rfl hM (r := .tuple #[.int .i64 i, .bool true]) (by rw [hn]; rfl) ?_))
    go_step3
    simp only [Exit.then]
    rename_i hk
    refine hk _ _ (hpass _ _ ?_)
    exact ⟨M, .slice none 0 0, undef, undef, undef, undef, undef, undef, undef, undef, undef, undef, undef, undef, undef, undef, undef, [], id, i, l.length + 1, rfl, hM, by simpa using hMl, bl_own hb (ha_at rfl), Own.nil _ _ _ _ _, below_call ((Below.refl _ w).alloc (Nat.le_refl _) _) (by simp) hb, hn, hi, by omega, hres, by simpa using hil⟩
  case pass =>
    rintro a W ⟨M, v, u10, u24, u25, u26, u27, u28, u29, u30, u31, u32, u33, u34, u35, u36, u37, acc, x, j, f, rfl, hM, hMl, hb, hown, hB, hx, hj, hf, hacc, hlen⟩
    obtain ⟨c0, c1, f0, f1⟩ := blk2 hb
    clear hn hres hil hi
    have hW1 : Below W.heap.size W (W.alloc (.cells #[.int .u64 x.hi, .int .u64 x.lo] 35)) := (Below.refl _ W).alloc (Nat.le_refl _) _
    have ho1 := hown.below hW1
    have hB1 : Below w.heap.size w (W.alloc (.cells #[.int .u64 x.hi, .int .u64 x.lo] 35)) := hB.alloc hB.size _
    have hM1 := MapIs_below hM hW1
    have hb1 := bl_own hW1 hb
    have hsz := hB.size
    have hlt := lt_of_block hb
    have hun := Tryz.underlying58
    have hle : acc.length ≤ 100000 := by omega
    have hvb : ∀ k, v.ownBlock = some k → w.heap.size + 1 ≤ k := fun k hk => (ho1.base k hk).1
    have hne1 : some w.heap.size ≠ v.ownBlock := fun e => by have := hvb _ e.symm; omega
    have hne2 : some M ≠ v.ownBlock := fun e => own_ne_map ho1 hM1 e.symm
    obtain ⟨f', rfl⟩ : ∃ f', f = f' + 1 := ⟨f - 1, by omega⟩
    have hgo : chGo l m (f' + 1) x = x :: (if j = -1 then [] else chGo l m f' (parAt l j)) := by simp [chGo, hx]
    rw [hgo] at hacc
    have hmu := Lib.hid (lenV_own hown)
    have hmx := Lib.hid hx
    clear hgo hx
    by_cases hj1 : j = -1
    · have hres : acc ++ [x] = chain l id := by rw [← hacc, if_pos hj1]
      have hres := Lib.hid hres
      subst hj1
      clear hacc
      go_wp2_with (first | (at_builtin; refine wp_append1 rfl rfl hun infoID rfl (by decide) encID_len encID_one rfl ho1 (g := W.heap.size) (c := 1) rfl (y := x) (ha_at rfl) rfl (by omega) (by unfold maxLen; omega) (by simp <;> omega) ?_; intro v' w2 ho2 hg2 hat2; have hb2 := grown_own hg2 hb1 hne1; have hM2 := MapIs_grown hM1 hg2 hne2; obtain ⟨e0, e1, _, _⟩ := blk2 hb2) | (at_lookup; refine wp_lookup (x := x) rfl rfl KeyID Tryz.underlying100 (Tryz.zeroValue3 _) rfl rfl hM2 (r := .int .i64 (-1)) (by rw [hmx.out]; rfl) ?_))
      simp only [Exit.jump]
      go_ret
      refine ⟨v', rfl, ?_, below_step hB1 hB1.size hg2 (fun k hk => by have := hvb k hk; omega)⟩
      rw [← hres.out]
      exact ho2.mono (by omega)
    · have hj0 : 0 ≤ j := by omega
      obtain ⟨n, rfl⟩ : ∃ n : Nat, j = n := ⟨j.toNat, by omega⟩
      rw [if_neg hj1] at hacc
      have hjl : n < l.length := by omega
      have hj2 : ((n : Int) == -1) = false := by simp
      obtain ⟨b', o, rfl, hbo, _⟩ := hr.atBlk hjl
      clear hj1
      go_wp2_with (first | (at_builtin; refine wp_append1 rfl rfl hun infoID rfl (by decide) encID_len encID_one rfl ho1 (g := W.heap.size) (c := 1) rfl (y := x) (ha_at rfl) rfl (by omega) (by unfold maxLen; omega) (by simp <;> omega) ?_; intro v' w2 ho2 hg2 hat2; have hb2 := grown_own hg2 hb1 hne1; have hM2 := MapIs_grown hM1 hg2 hne2; obtain ⟨e0, e1, g0, g1⟩ := blk2 hb2; have hB2 := below_step hB1 hB1.size hg2 (fun k hk => by have := hvb k hk; omega); obtain ⟨b2, o2, he, _, d0, d1, d2, d3, d4⟩ := (hr.below hB2).atBlk hjl; cases he) | (at_lookup; refine wp_lookup (x := x) rfl rfl KeyID Tryz.underlying100 (Tryz.zeroValue3 _) rfl rfl hM2 (r := .int .i64 n) (by rw [hmx.out]; rfl) ?_))
      obtain ⟨hs1, hs2⟩ := set2 hb2 (.int .u64 l[n].par.hi) (.int .u64 l[n].par.lo)
      obtain ⟨j', hj', hjn, hj1⟩ : ∃ j', mget m (parAt l n) = some j' ∧ j' < n ∧ -1 ≤ j' := by
        rcases hA x n hmx.out with e | ⟨_, _, j', h1, h2, h3⟩
        · omega
        · exact ⟨j', h1, h2, h3⟩
      have hpar : parAt l (n : Int) = l[n].par := by unfold parAt; simp [hjl]
      rw [hpar] at hj' hacc
      have hv2 : v'.ownBlock ≠ some w.heap.size := fun e => by have := (ho2.base _ e).1; omega
      go_step3
      simp only [Exit.then]
      refine ⟨rfl, ⟨M, v', _, _, _, _, _, _, _, _, _, _, _, _, _, _, _, acc ++ [x], l[n].par, j', f', rfl, MapIs_grown hM2 hs2 (by simp; omega), hMl, hs1, ho2.grown hs2 (.inr hv2), below_step hB2 hB2.size hs2 (by simp), hj', hj1, by omega, by simpa using hacc, by simp; omega⟩, ?_⟩
      show l.length + 2 - lenV v' < l.length + 2 - lenV v
      rw [hmu.out, lenV_own ho2]
      simp
      omega
/-- What Chain hands back. -/
theorem chain_any (l : List Blk) (id : ID) (A : Option Addr) (c : Nat) (w : World) (hr : Rd 5 encBlk w A l) (hA : ∀ m, plc l = some m → Ahead l m ∧ ∀ x i, mget m x = some i → -1 ≤ i) (hl : l.length ≤ 100000) :
    Calls Tryz.prog 41 #[.slice A l.length c, idv id] w fun e w' => ∃ v, e = .returned v ∧ Own w' w.heap.size 35 2 encID v (chain l id) ∧ Below w.heap.size w w' := by
  cases h : plc l with
  | none => exact chain_none l id A c w hr h
  | some m =>
    cases hn : mget m id with
    | none => exact chain_miss l id m A c w hr h hn
    | some i => exact chain_hit l id m i A c w hr h hn (hA m h).1 ((hA m h).2 id i hn) hl
end Go.Proofs.YtaohkcdfjjiggaaGreat
/-! Trees of blocks: what May, Chain, Kids and Under tell, in plain words. -/
namespace Go.Proofs.YtaohkcdfjjiggaaGreat
def Okb (pre : List Blk) (b : Blk) : Prop :=
  nameOf b ≠ zid ∧ (∀ c ∈ pre, nameOf c ≠ nameOf b) ∧ ((b.par = zid ∧ 0 < b.slot) ∨ (b.par ≠ zid ∧ ∃ c ∈ pre, nameOf c = b.par ∧ c.slot < b.slot))
/-- Blocks that may be. -/
def Tree (l : List Blk) : Prop := ∀ i (h : i < l.length), Okb (l.take i) l[i]
def mOf (bs : List Blk) : List (ID × Int) := (zid, -1) :: bs.zipIdx.map fun p => (nameOf p.1, (p.2 : Int))
theorem mget_zero (bs : List Blk) : mget (mOf bs) zid = some (-1) := by simp [mget, mOf]
theorem mget_zip (bs : List Blk) (x : ID) (n : Nat) : mget ((bs.zipIdx n).map fun p => (nameOf p.1, (p.2 : Int))) x = (bs.findIdx? fun b => decide (nameOf b = x)).map fun i => ((i + n : Nat) : Int) := by
  induction bs generalizing n with
  | nil => simp [mget]
  | cons b bs ih =>
    by_cases h : nameOf b = x
    · simp [mget, List.findIdx?_cons, h]
    · have e : mget (((b :: bs).zipIdx n).map fun p => (nameOf p.1, (p.2 : Int))) x = mget ((bs.zipIdx (n + 1)).map fun p => (nameOf p.1, (p.2 : Int))) x := by simp [mget, h]
      rw [e, ih]
      simp only [List.findIdx?_cons, h, decide_false, Bool.false_eq_true, if_false, Option.map_map]
      congr 1
      funext i
      simp only [Function.comp]
      omega
theorem mget_mOf (bs : List Blk) {x : ID} (hx : x ≠ zid) : mget (mOf bs) x = (bs.findIdx? fun b => decide (nameOf b = x)).map (fun i : Nat => (i : Int)) := by
  have e : mget (mOf bs) x = mget (bs.zipIdx.map fun p => (nameOf p.1, (p.2 : Int))) x := by simp [mget, mOf, Ne.symm hx]
  rw [e, mget_zip]
  rfl
theorem mOf_snoc (bs : List Blk) (b : Blk) : mOf (bs ++ [b]) = mOf bs ++ [(nameOf b, (bs.length : Int))] := by
  simp [mOf, List.zipIdx_append]
theorem mget_mem {bs : List Blk} {x : ID} : (mget (mOf bs) x).isSome ↔ x = zid ∨ ∃ c ∈ bs, nameOf c = x := by
  by_cases hx : x = zid
  · subst hx; simp [mget_zero]
  · rw [mget_mOf bs hx, Option.isSome_map, List.findIdx?_isSome]
    simp [hx]
theorem tree_snoc {l : List Blk} {k : Nat} (hk : k < l.length) : Tree (l.take (k + 1)) ↔ Tree (l.take k) ∧ Okb (l.take k) l[k] := by
  constructor
  · intro h
    refine ⟨fun i hi => ?_, ?_⟩
    · have hi' : i < (l.take (k + 1)).length := by simp at hi ⊢; omega
      have := h i hi'
      simp only [List.take_take, List.getElem_take] at this ⊢
      simp at hi
      rw [Nat.min_eq_left (by omega)] at this ⊢
      exact this
    · have := h k (by simp; omega)
      simpa [List.take_take] using this
  · rintro ⟨h1, h2⟩ i hi
    simp only [List.length_take] at hi
    by_cases he : i = k
    · subst he
      simpa [List.take_take] using h2
    · have := h1 i (by simp; omega)
      simp only [List.take_take, List.getElem_take] at this ⊢
      rw [Nat.min_eq_left (by omega)] at this ⊢
      exact this
theorem tree_inj {l : List Blk} (ht : Tree l) {i j : Nat} (hi : i < l.length) (hj : j < l.length) (h : nameOf l[i] = nameOf l[j]) : i = j := by
  rcases Nat.lt_trichotomy i j with hlt | he | hlt
  · exact absurd h ((ht j hj).2.1 l[i] (List.mem_take_iff_getElem.2 ⟨i, by omega, rfl⟩))
  · exact he
  · exact absurd h.symm ((ht i hi).2.1 l[j] (List.mem_take_iff_getElem.2 ⟨j, by omega, rfl⟩))
theorem plStep_ok {l : List Blk} {k : Nat} (hk : k < l.length) (ht : Tree (l.take k)) : plStep l (mOf (l.take k)) k l[k] = some (mOf (l.take (k + 1))) ∧ Okb (l.take k) l[k] ∨ plStep l (mOf (l.take k)) k l[k] = none ∧ ¬ Okb (l.take k) l[k] := by
  have hnm : (mget (mOf (l.take k)) (nameOf l[k])).isSome = true ↔ nameOf l[k] = zid ∨ ∃ c ∈ l.take k, nameOf c = nameOf l[k] := mget_mem
  have hput : mget (mOf (l.take k)) (nameOf l[k]) = none → mput (mOf (l.take k)) (nameOf l[k]) (k : Int) = mOf (l.take (k + 1)) := by
    intro h
    rw [← List.take_append_getElem hk, mOf_snoc]
    unfold mput
    rw [h]
    simp
    omega
  have hfin : ∀ p, mget (mOf (l.take k)) l[k].par = some p → (slotAt l p < l[k].slot ↔ ((l[k].par = zid ∧ 0 < l[k].slot) ∨ (l[k].par ≠ zid ∧ ∃ c ∈ l.take k, nameOf c = l[k].par ∧ c.slot < l[k].slot))) →
      plStep l (mOf (l.take k)) k l[k] = some (mOf (l.take (k + 1))) ∧ Okb (l.take k) l[k] ∨ plStep l (mOf (l.take k)) k l[k] = none ∧ ¬ Okb (l.take k) l[k] := by
    intro p hp hiff
    unfold plStep
    simp only [hp]
    by_cases hs : l[k].slot ≤ slotAt l p
    · right
      rw [if_pos hs]
      refine ⟨rfl, fun ho => ?_⟩
      have := hiff.2 ho.2.2
      omega
    · rw [if_neg hs]
      cases hn : mget (mOf (l.take k)) (nameOf l[k]) with
      | some y =>
        right
        refine ⟨rfl, fun ho => ?_⟩
        rcases hnm.1 (by rw [hn]; rfl) with h | ⟨c, hc, h⟩
        · exact ho.1 h
        · exact ho.2.1 c hc h
      | none =>
        left
        refine ⟨by simp [hput hn], fun h => ?_, fun c hc h => ?_, hiff.1 (by omega)⟩
        · have := hnm.2 (.inl h); rw [hn] at this; cases this
        · have := hnm.2 (.inr ⟨c, hc, h⟩); rw [hn] at this; cases this
  by_cases hz : l[k].par = zid
  · refine hfin (-1) (by rw [hz]; exact mget_zero _) ?_
    simp [slotAt, hz]
  · cases hf : (l.take k).findIdx? fun b => decide (nameOf b = l[k].par) with
    | none =>
      right
      have hp : mget (mOf (l.take k)) l[k].par = none := by rw [mget_mOf _ hz, hf]; rfl
      refine ⟨by unfold plStep; rw [hp], fun ho => ?_⟩
      rcases ho.2.2 with h | ⟨_, c, hc, h, _⟩
      · exact hz h.1
      · rw [List.findIdx?_eq_none_iff] at hf
        have := hf c hc
        simp [h] at this
    | some j =>
      have hp : mget (mOf (l.take k)) l[k].par = some (j : Int) := by rw [mget_mOf _ hz, hf]; rfl
      rw [List.findIdx?_eq_some_iff_getElem] at hf
      obtain ⟨hj, hjn, _⟩ := hf
      simp only [decide_eq_true_eq] at hjn
      have hjk : j < k := by simp at hj; omega
      have hjl : j < l.length := by omega
      have hsl : slotAt l (j : Int) = l[j].slot := by unfold slotAt; simp [hjl]
      refine hfin j hp ?_
      rw [hsl]
      constructor
      · intro h
        exact .inr ⟨hz, (l.take k)[j], List.getElem_mem _, hjn, by simpa using h⟩
      · rintro (h | ⟨_, c, hc, h, hs⟩)
        · exact absurd h.1 hz
        · obtain ⟨i, hi, rfl⟩ := List.getElem_of_mem hc
          have : i = j := tree_inj ht hi hj (by rw [h, hjn])
          subst this
          simpa using hs
theorem plGo_tree {l : List Blk} (d : Nat) : ∀ k, l.length - k = d → k ≤ l.length → Tree (l.take k) → plGo l (l.drop k) k (mOf (l.take k)) = some (mOf l) ∧ Tree l ∨ plGo l (l.drop k) k (mOf (l.take k)) = none ∧ ¬ Tree l := by
  induction d with
  | zero =>
    intro k hd hk ht
    obtain rfl : k = l.length := by omega
    left
    rw [List.drop_length, List.take_length] at *
    exact ⟨rfl, ht⟩
  | succ d ih =>
    intro k hd hk ht
    have hlt : k < l.length := by omega
    rw [plGo_drop hlt]
    rcases plStep_ok hlt ht with ⟨h1, h2⟩ | ⟨h1, h2⟩
    · rw [h1]
      exact ih (k + 1) (by omega) hlt ((tree_snoc hlt).2 ⟨ht, h2⟩)
    · rw [h1]
      right
      exact ⟨rfl, fun h => h2 (h k hlt)⟩
theorem plc_tree (l : List Blk) : plc l = some (mOf l) ∧ Tree l ∨ plc l = none ∧ ¬ Tree l :=
  plGo_tree l.length 0 (by omega) (Nat.zero_le _) (fun i h => by simp at h)
theorem plc_some {l : List Blk} {m : List (ID × Int)} (h : plc l = some m) : m = mOf l ∧ Tree l := by
  rcases plc_tree l with ⟨h1, h2⟩ | ⟨h1, h2⟩
  · rw [h1] at h; cases h; exact ⟨rfl, h2⟩
  · rw [h1] at h; cases h
theorem plc_yes {l : List Blk} (h : Tree l) : plc l = some (mOf l) := by
  rcases plc_tree l with ⟨h1, h2⟩ | ⟨h1, h2⟩
  · exact h1
  · exact absurd h h2
theorem plc_no {l : List Blk} (h : ¬ Tree l) : plc l = none := by
  rcases plc_tree l with ⟨h1, h2⟩ | ⟨h1, h2⟩
  · exact absurd h2 h
  · exact h1
/-- Where a key is, is what it names. -/
theorem mget_at {bs : List Blk} {x : ID} {i : Int} (h : mget (mOf bs) x = some i) : (x = zid ∧ i = -1) ∨ (x ≠ zid ∧ ∃ n : Nat, i = n ∧ ∃ hn : n < bs.length, nameOf bs[n] = x) := by
  by_cases hx : x = zid
  · subst hx; rw [mget_zero] at h; cases h; exact .inl ⟨rfl, rfl⟩
  · rw [mget_mOf bs hx] at h
    obtain ⟨n, hn, rfl⟩ := Option.map_eq_some_iff.1 h
    rw [List.findIdx?_eq_some_iff_getElem] at hn
    obtain ⟨h1, h2, _⟩ := hn
    exact .inr ⟨hx, n, rfl, h1, by simpa using h2⟩
theorem mget_idx {l : List Blk} (ht : Tree l) {n : Nat} (hn : n < l.length) : mget (mOf l) (nameOf l[n]) = some (n : Int) := by
  rw [mget_mOf _ (ht n hn).1]
  have : l.findIdx? (fun b => decide (nameOf b = nameOf l[n])) = some n := by
    rw [List.findIdx?_eq_some_iff_getElem]
    refine ⟨hn, by simp, fun j hj => ?_⟩
    have : nameOf l[j] ≠ nameOf l[n] := fun e => by have := tree_inj ht (by omega) hn e; omega
    simpa using this
  rw [this]
  rfl
theorem tree_ahead {l : List Blk} {m : List (ID × Int)} (h : plc l = some m) : Ahead l m ∧ ∀ x i, mget m x = some i → -1 ≤ i := by
  obtain ⟨rfl, ht⟩ := plc_some h
  refine ⟨fun x i hi => ?_, fun x i hi => ?_⟩
  · rcases mget_at hi with ⟨_, h⟩ | ⟨hx, n, rfl, hn, hnx⟩
    · exact .inl h
    · right
      refine ⟨by omega, by omega, ?_⟩
      have hp : parAt l (n : Int) = l[n].par := by unfold parAt; simp [hn]
      rw [hp]
      rcases (ht n hn).2.2 with ⟨h1, _⟩ | ⟨_, c, hc, h1, _⟩
      · exact ⟨-1, by rw [h1]; exact mget_zero _, by omega, by omega⟩
      · obtain ⟨j, hj, rfl⟩ := List.getElem_of_mem hc
        simp only [List.length_take] at hj
        have hjl : j < l.length := by omega
        simp only [List.getElem_take] at h1
        exact ⟨j, by rw [← h1]; exact mget_idx ht hjl, by omega, by omega⟩
  · rcases mget_at hi with ⟨_, h⟩ | ⟨_, n, rfl, _⟩ <;> omega
theorem chGo_fuel {l : List Blk} {m : List (ID × Int)} (hA : Ahead l m) : ∀ (f f' : Nat) (x : ID) (j : Int), mget m x = some j → -1 ≤ j → j + 2 ≤ f → j + 2 ≤ f' → chGo l m f x = chGo l m f' x
  | 0, _, _, _, _, h1, h2, _ => by omega
  | _ + 1, 0, _, _, _, h1, _, h3 => by omega
  | f + 1, f' + 1, x, j, hx, h1, h2, h3 => by
    simp only [chGo, hx]
    by_cases hj : j = -1
    · simp [hj]
    · rw [if_neg hj, if_neg hj]
      rcases hA x j hx with e | ⟨_, _, j', hp, hlt, hlo⟩
      · exact absurd e hj
      · rw [chGo_fuel hA f f' _ j' hp hlo (by omega) (by omega)]
theorem chain_zid {l : List Blk} (ht : Tree l) : chain l zid = [zid] := by
  unfold chain
  rw [plc_yes ht]
  simp [mget_zero, chGo]
theorem par_known {l : List Blk} (ht : Tree l) {n : Nat} (hn : n < l.length) : ∃ j, mget (mOf l) l[n].par = some j ∧ -1 ≤ j ∧ j < n := by
  rcases (tree_ahead (plc_yes ht)).1 _ _ (mget_idx ht hn) with e | ⟨_, _, j, h1, h2, h3⟩
  · omega
  · refine ⟨j, ?_, h3, h2⟩
    have hp : parAt l (n : Int) = l[n].par := by unfold parAt; simp [hn]
    rw [← hp]; exact h1
theorem chain_cons {l : List Blk} (ht : Tree l) {n : Nat} (hn : n < l.length) : chain l (nameOf l[n]) = nameOf l[n] :: chain l l[n].par := by
  obtain ⟨j, hj, hlo, hlt⟩ := par_known ht hn
  unfold chain
  rw [plc_yes ht]
  have hx := mget_idx ht hn
  have hp : parAt l (n : Int) = l[n].par := by unfold parAt; simp [hn]
  simp only [hx, hj, Option.isSome_some, if_true]
  rw [show l.length + 1 = l.length + 1 from rfl, chGo]
  simp only [hx]
  rw [if_neg (by omega), hp]
  congr 1
  exact chGo_fuel (tree_ahead (plc_yes ht)).1 _ _ _ j hj hlo (by omega) (by omega)
theorem chain_unknown {l : List Blk} {x : ID} (hx : x ≠ zid) (hn : ∀ b ∈ l, nameOf b ≠ x) : chain l x = [] := by
  apply chain_zero
  rcases plc_tree l with ⟨h1, h2⟩ | ⟨h1, h2⟩
  · refine .inr ⟨_, h1, ?_⟩
    cases hm : mget (mOf l) x with
    | none => rfl
    | some j =>
      have := (mget_mem (bs := l) (x := x)).1 (by rw [hm]; rfl)
      rcases this with e | ⟨c, hc, e⟩
      · exact absurd e hx
      · exact absurd e (hn c hc)
  · exact .inl h1
theorem chain_notree {l : List Blk} (h : ¬ Tree l) (x : ID) : chain l x = [] := chain_zero (.inl (plc_no h))
theorem chain_head {l : List Blk} (ht : Tree l) {x : ID} (hx : x = zid ∨ ∃ b ∈ l, nameOf b = x) : ∃ r, chain l x = x :: r := by
  rcases hx with rfl | ⟨b, hb, rfl⟩
  · exact ⟨_, chain_zid ht⟩
  · obtain ⟨n, hn, rfl⟩ := List.getElem_of_mem hb
    exact ⟨_, chain_cons ht hn⟩
theorem par_mem {l : List Blk} (ht : Tree l) {n : Nat} (hn : n < l.length) : l[n].par = zid ∨ ∃ b ∈ l, nameOf b = l[n].par := by
  rcases (ht n hn).2.2 with h | ⟨_, c, hc, h, _⟩
  · exact .inl h.1
  · exact .inr ⟨c, List.mem_of_mem_take hc, h⟩
end Go.Proofs.YtaohkcdfjjiggaaGreat
/-! The walks of tree.May, Under, Kids. -/
namespace Go.Proofs.YtaohkcdfjjiggaaGreat
open Go.RowKit
open Classical in
noncomputable def mayB (l : List Blk) : Bool := decide (Tree l)
set_option maxRecDepth 100000 in
set_option maxHeartbeats 1000000 in
theorem may_any (l : List Blk) (A : Option Addr) (c : Nat) (w : World) (hr : Rd 5 encBlk w A l) :
    Calls Tryz.prog 119 #[.slice A l.length c] w fun e w' => e = .returned (.bool (mayB l)) ∧ Below w.heap.size w w' := by
  by_cases h : Tree l
  · have hc := places_some (plc_yes h) A c w hr
    have hb := Lib.hid (show mayB l = true by simp [mayB, h])
    clear h
    go_enter Tryz.func119, Tryz.ntmps119
    go_wp2_with (go_at_call 73; refine hc.mono ?_; clear hc; rintro e w1 ⟨M, rfl, hMl, hM, hw⟩)
    go_ret
    exact ⟨ret_bool hb.out.symm, hw⟩
  · have hc := places_none (plc_no h) A c w hr
    have hb := Lib.hid (show mayB l = false by simp [mayB, h])
    clear h
    go_enter Tryz.func119, Tryz.ntmps119
    go_wp2_with (go_at_call 73; refine hc.mono ?_; clear hc; rintro e w1 ⟨rfl, hw⟩)
    go_ret
    exact ⟨ret_bool hb.out.symm, hw⟩
set_option maxRecDepth 100000 in
set_option maxHeartbeats 1000000 in
theorem under_any (l : List Blk) (low id : ID) (A : Option Addr) (c : Nat) (w : World) (hr : Rd 5 encBlk w A l) (hl : l.length ≤ 100000) :
    Calls Tryz.prog 29 #[.slice A l.length c, idv low, idv id] w fun e w' => e = .returned (.bool (decide (low ∈ chain l id))) ∧ Below w.heap.size w w' := by
  have hcall := fun W (hW : Below w.heap.size w W) => chain_any l id A c W (hr.below hW) (fun m h => tree_ahead h) hl
  unfold idv at *
  go_enter Tryz.func29, Tryz.ntmps29
  go_wp2_with fail
  have hs : ∀ W : World, W = (w.alloc (.cells #[.int .u64 low.hi, .int .u64 low.lo] 35)).alloc (.cells #[.int .u64 id.hi, .int .u64 id.lo] 35) → W.heap[w.heap.size]? = some (.cells #[.int .u64 low.hi, .int .u64 low.lo] 35 (0, 0)) ∧ W.heap[w.heap.size + 1]? = some (.cells #[.int .u64 id.hi, .int .u64 id.lo] 35 (0, 0)) ∧ Below w.heap.size w W :=
    fun W e => by subst e; exact ⟨ha_lt (ha_at rfl), ha_at (by simp), ((Below.refl _ w).alloc (Nat.le_refl _) _).alloc (by simp) _⟩
  generalize (w.alloc (.cells #[.int .u64 low.hi, .int .u64 low.lo] 35)).alloc (.cells #[.int .u64 id.hi, .int .u64 id.lo] 35) = W at hs ⊢
  obtain ⟨h1, h2, h3⟩ := hs _ rfl
  clear hs
  obtain ⟨c1, c2, f1, f2⟩ := blk2 h1
  obtain ⟨c3, c4, f3, f4⟩ := blk2 h2
  go_region_held3 (fun W' => W'.cell? ⟨w.heap.size, 0, none⟩ = some (.int .u64 low.hi) ∧ W'.cell? ⟨w.heap.size, 1, none⟩ = some (.int .u64 low.lo) ∧ W'.cell? ⟨w.heap.size + 1, 0, none⟩ = some (.int .u64 id.hi) ∧ W'.cell? ⟨w.heap.size + 1, 1, none⟩ = some (.int .u64 id.lo)) (first | exact ⟨c1, c2, c3, c4⟩ | exact ⟨e1, e2, e3, e4⟩ | exact ⟨e5, e6, e7, e8⟩) ((first
    | (go_at_call 41; refine (hcall _ h3.drew).mono ?_; rintro e w1 ⟨v, rfl, hown, hb⟩; obtain ⟨A', c', rfl, hR⟩ := hown.rd encID_len; obtain ⟨e1, e2, _, _⟩ := blk2 (bl_own hb h1); obtain ⟨e3, e4, _, _⟩ := blk2 (bl_own hb h2))
    | (go_at_call 61; refine (contains_any low (chain l id) _ _ _ hR).mono ?_; rintro e w2 ⟨rfl, hb'⟩; obtain ⟨e5, e6, _, _⟩ := blk2 (bl_own hb' (bl_own hb h1)); obtain ⟨e7, e8, _, _⟩ := blk2 (bl_own hb' (bl_own hb h2)))))
  go_wp2
  go_ret
  exact ⟨rfl, below_call (below_call h3.drew h3.size hb) (Nat.le_trans h3.size hb.size) hb'⟩
def kidsOf (l : List Blk) (id : ID) : List ID := (l.filter fun b => decide (b.par = id)).map nameOf
open Classical in
noncomputable def kids (l : List Blk) (id : ID) : List ID := if Tree l then kidsOf l id else []
theorem kidsOf_snoc {l : List Blk} {k : Nat} (hlt : k < l.length) (id : ID) : kidsOf (l.take (k + 1)) id = kidsOf (l.take k) id ++ (if l[k].par = id then [nameOf l[k]] else []) := by
  unfold kidsOf
  rw [← List.take_append_getElem hlt, List.filter_append, List.map_append]
  by_cases h : l[k].par = id <;> simp [h]
theorem kidsOf_len (l : List Blk) (id : ID) : (kidsOf l id).length ≤ l.length := by
  unfold kidsOf
  rw [List.length_map]
  exact List.length_filter_le _ _
set_option maxRecDepth 100000 in
set_option maxHeartbeats 1000000 in
theorem kids_any (l : List Blk) (id : ID) (A : Option Addr) (c : Nat) (w : World) (hr : Rd 5 encBlk w A l) (hl : l.length ≤ 100000) :
    Calls Tryz.prog 86 #[.slice A l.length c, idv id] w fun e w' => ∃ v, e = .returned v ∧ Own w' w.heap.size 35 2 encID v (kids l id) ∧ Below w.heap.size w w' := by
  have hcall := fun W (hW : Below w.heap.size w W) => may_any l A c W (hr.below hW)
  have hun := Tryz.underlying58
  unfold idv at *
  by_cases ht : Tree l
  · have hm : mayB l = true := by simp [mayB, ht]
    rw [hm] at hcall
    have hk := Lib.hid (show kids l id = kidsOf l id by simp [kids, ht])
    clear hm ht
    go_enter Tryz.func86, Tryz.ntmps86
    go_wp2_with (go_at_call 119; refine (hcall _ ((Below.refl _ w).alloc (Nat.le_refl _) _)).mono ?_; clear hcall; rintro e w1 ⟨rfl, hb⟩)
    have hb1 := bl_own hb (ha_at rfl)
    have hB1 : Below w.heap.size w w1 := below_call ((Below.refl _ w).alloc (Nat.le_refl _) _) (by simp) hb
    clear hb
    go_loopw [5, 7, 13] (fun v s7 i wr => ∃ k : Nat, k ≤ l.length ∧ i = .int .i64 k ∧ Own wr (w.heap.size + 1) 35 2 encID v (kidsOf (l.take k) id) ∧ wr.heap[w.heap.size]? = some (.cells #[.int .u64 id.hi, .int .u64 id.lo] 35 (0, 0)) ∧ Below w.heap.size w wr) (fun _ _ i _ => l.length - (intOf i).toNat)
    case atStart => exact ⟨0, Nat.zero_le _, rfl, Own.nil _ _ _ _ _, hb1, hB1⟩
    case round =>
      obtain ⟨k, hkl, rfl, hown, hbx, hB⟩ := hrel
      obtain ⟨c0, c1, f0, f1⟩ := blk2 hbx
      by_cases hlt : k < l.length
      · obtain ⟨b', o, rfl, hbo, d0, d1, d2, d3, d4⟩ := (hr.below hB).atBlk hlt
        have hsn := kidsOf_snoc hlt id
        have hle := kidsOf_len (l.take k) id
        obtain ⟨b, hbk⟩ : ∃ b, l[k] = b := ⟨_, rfl⟩
        rw [hbk] at d0 d1 d2 d3 d4 hsn
        clear hbk
        have heq := eql_id b.par id
        unfold idv at heq
        have hlt0 := lt_of_block hbx
        have hW1 : Below wr.heap.size wr (wr.alloc (.cells #[.int .i64 b.slot, .int .i64 b.frm, .int .u64 b.par.1, .int .u64 b.par.2, .int .u64 b.salt] 64)) := (Below.refl _ wr).alloc (Nat.le_refl _) _
        have ho1 := hown.below hW1
        have hB1 := hB.trans (hW1.mono hB.size)
        have hbx1 := bl_own hW1 hbx
        have hle2 : (l.take k).length ≤ l.length := by simp; omega
        have hle3 : (kidsOf (l.take k) id).length ≤ 100000 := by omega
        clear hle hle2
        by_cases hp : b.par = id
        · have hd : decide (b.par = id) = true := by simpa using hp
          rw [hd] at heq
          rw [if_pos hp] at hsn
          have hsn' := Lib.hid hsn
          clear hsn hd hp
          have hvb : ∀ k, u5.ownBlock = some k → w.heap.size + 1 ≤ k := fun k hk => (ho1.base k hk).1
          have hne1 : some w.heap.size ≠ u5.ownBlock := fun e => by have := hvb _ e.symm; omega
          go_wp2_with fail
          refine (name_any b _).mono ?_
          rintro e w2 ⟨rfl, hb2⟩
          have hB2 := below_call hB1 hB1.size hb2
          have hbx2 := bl_own hb2 hbx1
          have ho2 := ho1.below hb2
          clear ho1 hbx1 hB1 hW1 hb2
          have hW3 : Below w2.heap.size w2 (w2.alloc (.cells #[.int .u64 (nameOf b).hi, .int .u64 (nameOf b).lo] 35)) := (Below.refl _ w2).alloc (Nat.le_refl _) _
          have ho3 := ho2.below hW3
          have hB3 := hB2.trans (hW3.mono hB2.size)
          have hbx3 := bl_own hW3 hbx2
          have hlt2 := lt_of_block hbx2
          unfold idv
          go_wp2_with (first | (at_builtin; refine wp_append1 rfl rfl hun infoID rfl (by decide) encID_len encID_one rfl ho3 (g := w2.heap.size) (c := 1) rfl (y := nameOf b) (ha_at rfl) rfl (by omega) (by unfold maxLen; omega) (by simp <;> omega) ?_; intro v' w4 ho4 hg4 hat4))
          go_roundw
          case rel => exact ⟨k + 1, hlt, by go_num, by rw [hsn'.out]; exact ho4, grown_own hg4 hbx3 hne1, below_step hB3 hB3.size hg4 (fun k hk => by have := hvb k hk; omega)⟩
          case measure => simp [intOf]; omega
        · have hd : decide (b.par = id) = false := by simpa using hp
          rw [hd] at heq
          rw [if_neg hp, List.append_nil] at hsn
          have hsn' := Lib.hid hsn
          clear hsn hd hp
          go_wp2_with fail
          go_roundw
          case rel => exact ⟨k + 1, hlt, by go_num, by rw [hsn'.out]; exact ho1, hbx1, hB1⟩
          case measure => simp [intOf]; omega
      · obtain rfl : k = l.length := by omega
        rw [List.take_length] at hown
        go_wp2
        go_ret
        exact ⟨_, rfl, by rw [hk.out]; exact hown.mono (by omega), hB⟩
  · have hm : mayB l = false := by simp [mayB, ht]
    rw [hm] at hcall
    have hk := Lib.hid (show kids l id = [] by simp [kids, ht])
    clear hm ht
    go_enter Tryz.func86, Tryz.ntmps86
    go_wp2_with (go_at_call 119; refine (hcall _ ((Below.refl _ w).alloc (Nat.le_refl _) _)).mono ?_; clear hcall; rintro e w1 ⟨rfl, hb⟩)
    go_ret
    refine ⟨_, rfl, ?_, below_call ((Below.refl _ w).alloc (Nat.le_refl _) _) (by simp) hb⟩
    rw [hk.out]
    exact Own.nil _ _ _ _ _
end Go.Proofs.YtaohkcdfjjiggaaGreat
/-! append(own, s...) for a whole slice. -/
namespace Go.Proofs.YtaohkcdfjjiggaaGreat
open Go.RowKit
theorem flatMap_len {α : Type} {k : Nat} {enc : α → List Value} (hk : ∀ x, (enc x).length = k) (ys : List α) : (ys.flatMap enc).length = ys.length * k := by
  induction ys with
  | nil => simp
  | cons y ys ih => simp only [List.flatMap_cons, List.length_append, hk, ih, List.length_cons, Nat.succ_mul]; omega
theorem Rd.cellAt {α : Type} {k : Nat} {enc : α → List Value} (hk : ∀ x, (enc x).length = k) (hk0 : 0 < k) {w : World} {b o : Nat} {ys : List α} (h : Rd k enc w (some ⟨b, o, none⟩) ys) (j : Nat) (u : Value) (hu : (ys.flatMap enc)[j]? = some u) : w.cell? ⟨b, o + j, none⟩ = some u := by
  have hlt : j < ys.length * k := by rw [← flatMap_len hk]; exact (List.getElem?_eq_some_iff.1 hu).1
  have hi : j / k < ys.length := Nat.div_lt_of_lt_mul (by rwa [Nat.mul_comm])
  have hr : j % k < k := Nat.mod_lt _ hk0
  obtain ⟨b', o', he, _, hc⟩ := h.at hi
  cases he
  have hrk : j % k < (enc ys[j / k]).length := by rw [hk]; exact hr
  have hu' : (enc ys[j / k])[j % k]? = some (enc ys[j / k])[j % k] := List.getElem?_eq_getElem hrk
  have h1 := flatMap_get hk ys (j / k) _ (List.getElem?_eq_getElem hi) (j % k) _ hu'
  have hd : j / k * k + j % k = j := by rw [Nat.mul_comm]; exact Nat.div_add_mod j k
  rw [hd, hu] at h1
  have h2 := hc (j % k) _ hu'
  rw [Nat.add_assoc, hd] at h2
  rw [h2, h1]
section
variable {α : Type} {P : Program} {ops : Array Oper} {rest : List Oper} {o : Oper} {a : Act} {Q : Exit → Act → World → Prop}
theorem addr_add' (b o j : Nat) : (⟨b, o, none⟩ : Addr).add j = ⟨b, o + j, none⟩ := by unfold Addr.add; split <;> simp_all
theorem wp_append_all {enc : α → List Value} {k base : Nat} {w : World} (hgd : o.guard = none) {s x : Operand} {t e : TypeId} (ho : o.op = .call { callee := .builtin .append, args := #[s, x], argTypes := #[t, t] })
    (ht : P.underlying t = some (.slice e)) {z : Value} {bytes : Nat} (hinfo : (P.info? e).map (fun i => (i.zero, i.size, i.bytes)) = some (some z, k, bytes)) (hz : z.cells.size = k) (hk0 : 0 < k) (hk : ∀ x, (enc x).length = k) (h1 : ∀ x, ∀ u ∈ enc x, u.oneCell' = true)
    {v : Value} {xs : List α} (hs : a.eval s = v) (hown : Own w base e k enc v xs) {A : Option Addr} {c : Nat} {ys : List α} (hx : a.eval x = .slice A ys.length c) (hA : A = none → c = 0) (hR : Rd k enc w A ys)
    (hb : (xs.length + ys.length) * bytes ≤ 140737488355328) (hl : xs.length + ys.length ≤ maxLen) (hbase : base ≤ w.heap.size)
    (h : ∀ v' w', Own w' base e k enc v' (xs ++ ys) → w.grownBy w' v.ownBlock → (v'.ownBlock = v.ownBlock ∨ v'.ownBlock = some w.heap.size) → wpList P ops Q rest (a.put o.dst v') w') : wpList P ops Q (o :: rest) a w := by
  obtain ⟨i0, hi, hz0, hz1, hz2⟩ := info_parts hinfo
  cases A with
  | none =>
    have hys : ys = [] := by
      rcases Classical.em (ys = []) with e | e
      · exact e
      · obtain ⟨b, o, hA', _⟩ := hR.2 e
        cases hA'
    subst hys
    obtain rfl := hA rfl
    refine wpList_append_own_none (w := w) hgd s x t ho base e i0 k ht hi v xs.length _ hs hown hx ?_
    exact h v w (by simpa using hown) ⟨rfl, rfl, rfl, Nat.le_refl _, fun _ _ _ => rfl⟩ (.inl rfl)
  | some ad =>
    refine wpList_append_own_at (w := w) hgd s x t ho base e i0 z k bytes ht hi hz0 hz1 hz2 hz hk0 v xs.length _ hs hown ad ys.length c (ys.flatMap enc) hx (flatMap_len hk ys) (fun j u hu => ?_) (fun u hu => ?_) hl hb hbase (fun v' w' h2 h3 _ h4 => h v' w' ?_ h3 h4)
    · have hne : ys ≠ [] := fun e => by subst e; simp at hu
      obtain ⟨b, o, hA', _⟩ := hR.2 hne
      cases hA'
      rw [addr_add']
      exact hR.cellAt hk hk0 j u hu
    · obtain ⟨y, _, hy⟩ := List.mem_flatMap.1 hu
      exact h1 y u hy
    · show w'.ownsRow _ _ _ _ _ _
      rw [List.length_append, List.flatMap_append]
      exact h2
/-- The same as one step of a region that draws its order. -/
theorem step_append_all {enc : α → List Value} {k base : Nat} {w : World} {K : Act → World → Prop} {E : Prop} (hgd : o.guard = none) {s x : Operand} {t e : TypeId} (ho : o.op = .call { callee := .builtin .append, args := #[s, x], argTypes := #[t, t] })
    (ht : P.underlying t = some (.slice e)) {z : Value} {bytes : Nat} (hinfo : (P.info? e).map (fun i => (i.zero, i.size, i.bytes)) = some (some z, k, bytes)) (hz : z.cells.size = k) (hk0 : 0 < k) (hk : ∀ x, (enc x).length = k) (h1 : ∀ x, ∀ u ∈ enc x, u.oneCell' = true)
    {v : Value} {xs : List α} (hs : a.eval s = v) (hown : Own w base e k enc v xs) {A : Option Addr} {c : Nat} {ys : List α} (hx : a.eval x = .slice A ys.length c) (hA : A = none → c = 0) (hR : Rd k enc w A ys)
    (hb : (xs.length + ys.length) * bytes ≤ 140737488355328) (hl : xs.length + ys.length ≤ maxLen) (hbase : base ≤ w.heap.size)
    (h : ∀ v' w', Own w' base e k enc v' (xs ++ ys) → w.grownBy w' v.ownBlock → (v'.ownBlock = v.ownBlock ∨ v'.ownBlock = some w.heap.size) → K (a.put o.dst v') w') : if Region.wanted o (yielded ops a.tmps) = true then Oper.wp P o a w K Q else E := by
  have hw : Region.wanted o (yielded ops a.tmps) = true := by simp [Region.wanted, hgd]
  rw [if_pos hw]
  obtain ⟨i0, hi, hz0, hz1, hz2⟩ := info_parts hinfo
  cases A with
  | none =>
    have hys : ys = [] := by
      rcases Classical.em (ys = []) with e | e
      · exact e
      · obtain ⟨b, o, hA', _⟩ := hR.2 e
        cases hA'
    subst hys
    obtain rfl := hA rfl
    have hrun := run_append_owned_none (P := P) (w := w) base t o.type e i0 k ht hi v xs.length _ hown
    unfold Oper.wp
    simp only [List.length_nil] at hx
    simp [execOp, ho, resolve, invoke, builtin, hs, hx, hrun, Result.andThen]
    exact h v w (by simpa using hown) ⟨rfl, rfl, rfl, Nat.le_refl _, fun _ _ _ => rfl⟩ (.inl rfl)
  | some ad =>
    obtain ⟨v', w', hr, h2, h3, _, h5⟩ := run_append_own_at (P := P) w base t o.type e i0 z k bytes ht hi hz0 hz1 hz2 hz hk0 v xs.length _ hown ad ys.length c (ys.flatMap enc) (flatMap_len hk ys) (fun j u hu => by
      have hne : ys ≠ [] := fun e => by subst e; simp at hu
      obtain ⟨b, o, hA', _⟩ := hR.2 hne
      cases hA'
      rw [addr_add']
      exact hR.cellAt hk hk0 j u hu) (fun u hu => by
      obtain ⟨y, _, hy⟩ := List.mem_flatMap.1 hu
      exact h1 y u hy) hl hb hbase
    unfold Oper.wp execOp
    simp only [ho, resolve, invoke, builtin, Sem.run_bind, Sem.run_pure, Result.andThen_ok, List.map_toArray, List.map_cons, List.map_nil, hs, hx, hr]
    refine h v' w' ?_ h3 h5
    show w'.ownsRow _ _ _ _ _ _
    rw [List.length_append, List.flatMap_append]
    exact h2
theorem step_append1 {enc : α → List Value} {k base : Nat} {w : World} {K : Act → World → Prop} {E : Prop} (hgd : o.guard = none) {s x : Operand} {t e : TypeId} (ho : o.op = .call { callee := .builtin .append, args := #[s, x], argTypes := #[t, t] })
    (ht : P.underlying t = some (.slice e)) {z : Value} {bytes : Nat} (hinfo : (P.info? e).map (fun i => (i.zero, i.size, i.bytes)) = some (some z, k, bytes)) (hz : z.cells.size = k) (hk0 : 0 < k) (hk : ∀ x, (enc x).length = k) (h1 : ∀ x, ∀ u ∈ enc x, u.oneCell' = true)
    {v : Value} {xs : List α} (hs : a.eval s = v) (hown : Own w base e k enc v xs) {g : Nat} {c : Nat} (hx : a.eval x = .slice (some ⟨g, 0, none⟩) 1 c) {y : α} {cs : Array Value} {T : TypeId} (hg : w.heap[g]? = some (.cells cs T (0, 0))) (hcs : cs = (enc y).toArray)
    (hb : (xs.length + 1) * bytes ≤ 140737488355328) (hl : xs.length + 1 ≤ maxLen) (hbase : base ≤ w.heap.size)
    (h : ∀ v' w', Own w' base e k enc v' (xs ++ [y]) → w.grownBy w' v.ownBlock → (v'.ownBlock = v.ownBlock ∨ v'.ownBlock = some w.heap.size) → K (a.put o.dst v') w') : if Region.wanted o (yielded ops a.tmps) = true then Oper.wp P o a w K Q else E := by
  refine step_append_all (ys := [y]) (A := some ⟨g, 0, none⟩) (c := c) hgd ho ht hinfo hz hk0 hk h1 hs hown hx (fun e => by cases e) ?_ hb hl hbase h
  refine Rd_blk (by simp) hg (fun i x hx j u hu => ?_)
  subst hcs
  cases i with
  | zero => simp only [List.getElem?_cons_zero, Option.some.injEq] at hx; subst hx; simpa using hu
  | succ i => simp at hx
end
end Go.Proofs.YtaohkcdfjjiggaaGreat
/-! Slices of a slice: a beginning of an owned one, and what lies behind it. -/
namespace Go.Proofs.YtaohkcdfjjiggaaGreat
open Go.RowKit
theorem Own.cut {α : Type} {w : World} {base : Nat} {e : TypeId} {k : Nat} {enc : α → List Value} (hk : ∀ x, (enc x).length = k) {A : Option Addr} {n c : Nat} {xs : List α} (h : Own w base e k enc (.slice A n c) xs) {j : Nat} (hj : j ≤ xs.length) :
    Own w base e k enc (.slice A j c) (xs.take j) := by
  have hl : (xs.take j).length = j := by simp; omega
  refine ⟨flatMap_len hk _, ?_⟩
  rw [hl]
  rcases h.2 with ⟨h1, h2⟩ | ⟨g, cap, cur, h1, hb, hh, hle, hm, hs, ht⟩
  · cases h1
    exact .inl ⟨by congr 1; omega, by omega⟩
  · cases h1
    refine .inr ⟨g, c, cur, rfl, hb, hh, by omega, hm, hs, ?_⟩
    have : xs.flatMap enc = (xs.take j).flatMap enc ++ (xs.drop j).flatMap enc := by rw [← List.flatMap_append, List.take_append_drop]
    have h3 : (cur.toList.take (xs.length * k)).take (j * k) = ((xs.take j).flatMap enc ++ (xs.drop j).flatMap enc).take (j * k) := by rw [ht, this]
    rw [List.take_take, Nat.min_eq_left (Nat.mul_le_mul_right k hj), List.take_left' (by rw [flatMap_len hk, hl])] at h3
    exact h3
theorem Rd.drop {α : Type} {k : Nat} {enc : α → List Value} {w : World} {b o : Nat} {xs : List α} (h : Rd k enc w (some ⟨b, o, none⟩) xs) (n : Nat) : Rd k enc w (some ⟨b, o + n * k, none⟩) (xs.drop n) := by
  refine ⟨by have := h.1; simp; omega, fun hne => ?_⟩
  obtain ⟨b', o', he, hlt, hc⟩ := h.2 (fun e => hne (by rw [e]; simp))
  cases he
  refine ⟨b, _, rfl, hlt, fun i x hx j u hu => ?_⟩
  rw [List.getElem?_drop] at hx
  have := hc (n + i) x hx j u hu
  rw [Nat.add_mul, ← Nat.add_assoc] at this
  exact this
theorem Own.src {α : Type} {w : World} {base : Nat} {e : TypeId} {k : Nat} {enc : α → List Value} {v : Value} {xs : List α} (hk : ∀ x, (enc x).length = k) (h : Own w base e k enc v xs) : ∃ A c, v = .slice A xs.length c ∧ Rd k enc w A xs ∧ (A = none → c = 0) := by
  obtain ⟨A, c, hv, hr⟩ := h.rd hk
  refine ⟨A, c, hv, hr, fun e => ?_⟩
  rcases h.2 with ⟨h1, _⟩ | ⟨g, cap, cur, h1, _⟩
  · rw [hv] at h1; injection h1
  · rw [hv, e] at h1; injection h1 with h1 _ _; cases h1
theorem Own.rdm {α : Type} {w : World} {base : Nat} {e : TypeId} {k : Nat} {enc : α → List Value} {v : Value} {xs : List α} (hk : ∀ x, (enc x).length = k) (h : Own w base e k enc v xs) : ∃ A c, v = .slice A xs.length c ∧ xs.length ≤ c ∧ c ≤ maxLen ∧ Rd k enc w A xs := by
  obtain ⟨A, c, hv, hc, hr⟩ := h.rdc hk
  refine ⟨A, c, hv, hc, ?_, hr⟩
  rcases h.2 with ⟨h1, _⟩ | ⟨g, cap, cur, h1, _, _, _, hm, _⟩
  · rw [hv] at h1; injection h1 with e1 e2 e3; subst e3; decide
  · rw [hv] at h1; injection h1 with e1 e2 e3; subst e3; exact hm
theorem Own.apart {α : Type} {w w' : World} {base : Nat} {e : TypeId} {k : Nat} {enc : α → List Value} {v : Value} {xs : List α} {row : Option Nat} (h : Own w base e k enc v xs) (hg : w.grownBy w' row) {B : Nat} (h1 : ∀ q, v.ownBlock = some q → B ≤ q) (h2 : ∀ q, row = some q → q < B) : Own w' base e k enc v xs := by
  refine World.ownsRow.kept h hg ?_
  cases hq : v.ownBlock with
  | none => exact .inl rfl
  | some q =>
    refine .inr (fun e => ?_)
    have a := h1 q hq
    have b := h2 q e.symm
    omega
end Go.Proofs.YtaohkcdfjjiggaaGreat
/-! Regions that draw their order: the first operations read, or call what only grows memory, in any order; the last ones follow in a row. -/
namespace Go.Proofs.YtaohkcdfjjiggaaGreat
open Go.RowKit
section
variable {P : Program} {ops : Array Oper} {md : Region.Mode} {C : World → Prop}
/-- The first n operations come up in any order, each quiet; what holds then is L. -/
def AnyHead (P : Program) (md : Region.Mode) (ops : Array Oper) (C : World → Prop) (n : Nat) (L : Array Bool → Act → Prop) : Nat → Array Bool → Act → Prop
  | 0, s, a => L s a
  | f + 1, s, a => Region.ready md ops s ≠ [] ∧ ∀ i ∈ Region.ready md ops s, i < n ∧ qOp P ops C i (AnyHead P md ops C n L f (s.setIfInBounds i true)) a
theorem anyHead_wp {n g : Nat} {L : Array Bool → Act → Prop} {Q : Exit → Act → World → Prop} (hL : ∀ s a w, C w → L s a → wpAny P md ops Q g s a w) :
    ∀ f s a w, C w → AnyHead P md ops C n L f s a → wpAny P md ops Q (f + g) s a w
  | 0, s, a, w, hw, h => by rw [Nat.zero_add]; exact hL _ _ _ hw h
  | f + 1, s, a, w, hw, h => by
    rw [show f + 1 + g = (f + g) + 1 by omega]
    exact ⟨fun e => absurd e h.1, fun i hi => wpOp_of_qOp hw (fun a' w' hw' h' => anyHead_wp hL f _ a' w' hw' h') (h.2 i hi).2⟩
theorem anyHead_first {n i : Nat} {oi : Oper} {v : Value} {L : Array Bool → Act → Prop} (hi : ops[i]? = some oi) (hsel : ∀ (j : Nat) (o : Oper) cs b, ops[j]? = some o → o.op ≠ .select cs b)
    (hs : Region.sinkB md ops n = true) (hc : Region.chainB md ops n = true) (hn : n < ops.size) (hin : i < n) (hdone : ∀ s a, L s a → ∀ j ∈ Region.ready md ops s, n ≤ j) :
    ∀ f s a, HeadInv md ops n s →
      (∀ j oj, ops[j]? = some oj → j ≠ i → s.getD j true = false → (∀ e ∈ oj.after, Region.binds md e = true → e.on ≠ i) → oi.apart ops oj = true) →
      i ∈ Region.ready md ops s → YieldsIn P ops C oi v a → AnyHead P md ops C n L f (s.setIfInBounds i true) (a.put oi.dst v) → AnyHead P md ops C n L (f + 1) s a := by
  intro f
  induction f with
  | zero =>
    intro s a inv _ hr hy H
    have hun := (mem_ready.1 hr).1
    refine ⟨fun e => (by rw [e] at hr; cases hr), fun j hj => ?_⟩
    have hjn : j < n := Nat.lt_of_not_le fun h => tail_waits hs hc hn inv _ i rfl hin hun j h hj
    refine ⟨hjn, ?_⟩
    by_cases e : j = i
    · subst e; exact hy.qOp hi H
    · exact absurd hjn (Nat.not_lt.2 (hdone _ _ H j (ready_mono hj e)))
  | succ f ih =>
    intro s a inv hfree hr hy H
    have hun := (mem_ready.1 hr).1
    refine ⟨fun e => (by rw [e] at hr; cases hr), fun j hj => ?_⟩
    have hjn : j < n := Nat.lt_of_not_le fun h => tail_waits hs hc hn inv _ i rfl hin hun j h hj
    refine ⟨hjn, ?_⟩
    by_cases e : j = i
    · subst e; exact hy.qOp hi H
    · have h1 := (H.2 j (ready_mono hj e)).2
      obtain ⟨hjun, oj, hoj, hall⟩ := mem_ready.1 hj
      have hnot : ∀ e ∈ oj.after, Region.binds md e = true → e.on ≠ i := fun e he hb heq => by
        have h2 := hall e he hb
        rw [heq, getD_both hun] at h2
        cases h2
      have h2 := qOp_put hoj (hfree j oj hoj e hjun hnot) (fun cs b => hsel i oi cs b hi) (fun cs b => hsel j oj cs b hoj) hy h1
      refine qOp_mono (fun a' h3 => ih (s.setIfInBounds j true) a' (inv.set hj hjn) (fun k ok hk hki hu hno => hfree k ok hk hki ?_ hno) (ready_mono hr (Ne.symm e)) h3.1 ?_) h2
      · by_cases hjk : j = k
        · subst hjk; exact hjun
        · rwa [getD_set_ne true hjk] at hu
      · rw [Array.setIfInBounds_comm _ _ e]
        exact h3.2
theorem anyHead_lex {n g : Nat} {Lq : Act → Prop} (hsel : Region.noSelect ops = true) (hs : Region.sinkB md ops n = true) (hc : Region.chainB md ops n = true) (hn : n < ops.size) :
    ∀ (l : List Oper) (k : Nat) (s : Array Bool) (a : Act), (∀ j, j < l.length → l[j]? = ops[k + j]?) → k + l.length = n → HeadInv md ops n s →
    Region.lexHead md ops g l.length k s = true → wpQuiet P ops C Lq l a →
    AnyHead P md ops C n (fun s' a' => Region.seqB md ops g n s' = true ∧ Lq a') l.length s a
  | [], k, s, a, _, hk, _, hB, h => by
    obtain rfl : k = n := by simpa using hk
    exact ⟨by simpa [Region.lexHead] using hB, h⟩
  | o :: l, k, s, a, hl, hk, inv, hB, h => by
    have h0 : ops[k]? = some o := by simpa using (hl 0 (by simp)).symm
    simp only [List.length_cons, Region.lexHead, Bool.and_eq_true] at hB
    obtain ⟨⟨hr, hf⟩, hB'⟩ := hB
    have hkn : k < n := by simp only [List.length_cons] at hk; omega
    have hr' : k ∈ Region.ready md ops s := by simpa using hr
    have hst : qOp P ops C k (wpQuiet P ops C Lq l) a := by unfold qOp; simp only [h0]; exact h
    obtain ⟨v, hy, hK⟩ := yieldsIn_of_qOp h0 hst
    exact anyHead_first h0 (Region.noSelect_spec hsel) hs hc hn hkn (fun s' a' hL => seqB_ready hL.1) l.length s a inv (Region.free_spec h0 hf) hr' hy
      (anyHead_lex hsel hs hc hn l (k + 1) _ _ (fun j hj => by have := hl (j + 1) (by simp; omega); simpa [Nat.add_assoc, Nat.add_comm 1 j] using this) (by simp only [List.length_cons] at hk; omega) (inv.set hr' hkn) hB' hK)
theorem wp_region_gr_tail {id : Nat} {Q : Exit → Act → World → Prop} {a : Act} {w : World} {l : List Oper} (n : Nat) (hm : P.follows .mixedOrders = true) (hB : Region.lexTailB .any l.toArray n = true)
    (h : wpQuiet P l.toArray (fun w' => ∃ p : GB, w' = gr w p) (fun a' => ∀ p : GB, wpList P l.toArray Q (l.drop n) a' (gr w p)) (l.take n) a) : (Code.region id l.toArray true).wp P Q a w := by
  simp only [Region.lexTailB, Bool.and_eq_true, decide_eq_true_eq] at hB
  obtain ⟨⟨⟨⟨hsel, hn⟩, hs⟩, hc⟩, hlex⟩ := hB
  have hn' : n < l.length := by simpa using hn
  have htl : (l.take n).length = n := by simp; omega
  have hdl : (l.drop n).length = l.toArray.size - n := by simp
  have inv0 : HeadInv .any l.toArray n (Array.replicate l.toArray.size false) :=
    ⟨by simp, fun j oj _ hl => (by rw [getD_replicate_false] at hl; cases hl), fun t _ ht => getD_in (by simpa using ht) (getD_replicate_false _ _)⟩
  have H := anyHead_lex (md := .any) (g := l.toArray.size - n) hsel hs hc hn (l.take n) 0 _ a (fun j hj => by
    have hj' : j < n := by rw [htl] at hj; exact hj
    simp [hj']) (by simpa using htl) inv0 (by rw [htl]; exact hlex) h
  refine wp_region_any hm ?_
  have := anyHead_wp (Q := Q) (g := l.toArray.size - n) (fun s a' w' hw' hL => by
    obtain ⟨p, rfl⟩ := hw'
    have := wpAny_of_seq (md := .any) (Q' := Q) (l.drop n) n s a' (gr w p) (fun j => by simp [List.getElem?_drop]) (by rw [hdl]; exact hL.1) (hL.2 p)
    rwa [hdl] at this) _ _ _ { w with drawn := w.drawn + 1 } (gr_of_below (below_drew0 w)) H
  rw [htl, show n + (l.toArray.size - n) = l.toArray.size by omega] at this
  exact this
end
theorem grown_cell {w W : World} {row : Option Nat} {p : Addr} {v : Value} (hg : w.grownBy W row) (hp : p.block < w.heap.size) (hne : some p.block ≠ row) (h : w.cell? p = some v) : W.cell? p = some v :=
  (World.cell?_of_block (w := w) (hg.block p.block hp hne)).trans h
theorem Rd.grown {α : Type} {k : Nat} {enc : α → List Value} {w W : World} {A : Option Addr} {xs : List α} {row : Option Nat} (h : Rd k enc w A xs) (hg : w.grownBy W row) (hne : ∀ a, A = some a → some a.block ≠ row) : Rd k enc W A xs := by
  refine ⟨h.1, fun hx => ?_⟩
  obtain ⟨b, o, hA, hlt, hc⟩ := h.2 hx
  exact ⟨b, o, hA, Nat.lt_of_lt_of_le hlt hg.size, fun i x hi j u hu => (World.cell?_of_block (w := w) (hg.block b hlt (hne _ hA))).trans (hc i x hi j u hu)⟩
end Go.Proofs.YtaohkcdfjjiggaaGreat
