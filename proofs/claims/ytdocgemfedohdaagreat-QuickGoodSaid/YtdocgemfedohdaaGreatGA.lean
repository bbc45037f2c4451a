/- GA: several texts in one. -/
import Derived.Test.YtdocgemfedohdaaGreatProg
import Derived.WalkKit
import Derived.WalkSpells
import Derived.WalkLawsBesides
import Derived.OneCell
import Derived.ScopeJumps
import Derived.Maps.AppendAt
import Derived.OwnWalk
import Derived.Deep.QuietTactic
import Derived.BigQuiet
import Derived.Lib.Hide
import Derived.Deep.RegionHeld3
import Derived.StillTailTactics
import Derived.Maps.OwnOps
import Derived.Maps.OwnSet
import Derived.Maps.RangeWalk
import Derived.Laws.StructEq
/-! Words for what lies in memory: slices that are read, boxes, and what a call leaves as it was. -/
namespace Go.Proofs.YtdocgemfedohdaaGreat
open Go.RowKit

theorem ret_int {k : IntKind} {a b : Int} (h : a = b) : Ending.returned (.int k a) = .returned (.int k b) := by rw [h]
theorem ret_bool {a b : Bool} (h : a = b) : Ending.returned (.bool a) = .returned (.bool b) := by rw [h]
theorem pw_below_drewN {B : Nat} {w W : World} (h : Below B w W) (n : Nat) : Below B w (W.drewN n) := ⟨h.os, h.tape, h.output, h.size, h.block⟩
/-- xs lie from A on, k cells each. -/
def Rd {α : Type} (k : Nat) (enc : α → List Value) (w : World) (A : Option Addr) (xs : List α) : Prop :=
  xs.length ≤ 9223372036854775807 ∧ (xs ≠ [] → ∃ b o, A = some ⟨b, o, none⟩ ∧ b < w.heap.size ∧
    ∀ i x, xs[i]? = some x → ∀ j u, (enc x)[j]? = some u → w.cell? ⟨b, o + i * k + j, none⟩ = some u)

theorem Rd.below {α : Type} {k : Nat} {enc : α → List Value} {w W : World} {A : Option Addr} {xs : List α} (h : Rd k enc w A xs) (hb : Below w.heap.size w W) : Rd k enc W A xs := by
  refine ⟨h.1, fun hne => ?_⟩
  obtain ⟨b, o, hA, hlt, hc⟩ := h.2 hne
  exact ⟨b, o, hA, Nat.lt_of_lt_of_le hlt hb.size, fun i x hx j u hu => (hb.cell (p := ⟨b, _, none⟩) hlt).trans (hc i x hx j u hu)⟩

/-- The element at i. -/
theorem Rd.at {α : Type} {k : Nat} {enc : α → List Value} {w : World} {A : Option Addr} {xs : List α} (h : Rd k enc w A xs) {i : Nat} (hi : i < xs.length) :
    ∃ b o, A = some ⟨b, o, none⟩ ∧ b < w.heap.size ∧ ∀ j u, (enc xs[i])[j]? = some u → w.cell? ⟨b, o + i * k + j, none⟩ = some u := by
  obtain ⟨b, o, hA, hlt, hc⟩ := h.2 (by intro e; rw [e] at hi; exact absurd hi (by simp))
  exact ⟨b, o, hA, hlt, hc i xs[i] (List.getElem?_eq_getElem hi)⟩

def encU (x : Int) : List Value := [.int .u64 x]
def encI (x : Int) : List Value := [.int .i64 x]
theorem Rd.atU {w : World} {A : Option Addr} {xs : List Int} (h : Rd 1 encU w A xs) {i : Nat} (hi : i < xs.length) :
    ∃ b o, A = some ⟨b, o, none⟩ ∧ b < w.heap.size ∧ w.cell? ⟨b, o + i, none⟩ = some (.int .u64 xs[i]) := by
  obtain ⟨b, o, hA, hlt, hc⟩ := h.at hi
  exact ⟨b, o, hA, hlt, by simpa using hc 0 _ rfl⟩
theorem Rd.atI {w : World} {A : Option Addr} {xs : List Int} (h : Rd 1 encI w A xs) {i : Nat} (hi : i < xs.length) :
    ∃ b o, A = some ⟨b, o, none⟩ ∧ b < w.heap.size ∧ w.cell? ⟨b, o + i, none⟩ = some (.int .i64 xs[i]) := by
  obtain ⟨b, o, hA, hlt, hc⟩ := h.at hi
  exact ⟨b, o, hA, hlt, by simpa using hc 0 _ rfl⟩

theorem heap_alloc_get (w : World) (o : Obj) (k : Nat) : (w.alloc o).heap[k]? = if k = w.heap.size then some o else w.heap[k]? := by
  show (w.heap.push o)[k]? = _
  rw [Array.getElem?_push]

/-- What is below B, and what block row is, apart: one step of a world that is the call's own. -/
theorem below_step {B : Nat} {w W W' : World} {row : Option Nat} (h : Below B w W) (hB : B ≤ W.heap.size) (hg : W.grownBy W' row) (hr : ∀ k, row = some k → B ≤ k) : Below B w W' := h.grown hg hB hr
theorem below_call {B : Nat} {w W W' : World} (h : Below B w W) (hB : B ≤ W.heap.size) (hg : Below W.heap.size W W') : Below B w W' := h.trans (hg.mono hB)
theorem bl_blk {B : Nat} {w W : World} (h : Below B w W) {k : Nat} {o : Obj} (hk : w.heap[k]? = some o) (hlt : k < B) : W.heap[k]? = some o := (h.block k hlt).trans hk
theorem bl_own {w W : World} (h : Below w.heap.size w W) {k : Nat} {o : Obj} (hk : w.heap[k]? = some o) : W.heap[k]? = some o := (h.block k (lt_of_block hk)).trans hk
theorem grown_own {w W : World} {row : Option Nat} (h : w.grownBy W row) {k : Nat} {o : Obj} (hk : w.heap[k]? = some o) (hne : some k ≠ row) : W.heap[k]? = some o := (h.block k (lt_of_block hk) hne).trans hk
theorem blk_cell {w : World} {b : Nat} {cs : Array Value} {T : TypeId} (h : w.heap[b]? = some (.cells cs T (0, 0))) (j : Nat) : w.cell? ⟨b, j, none⟩ = cs[j]? := by simp [World.cell?, h]
theorem blk_free {w : World} {b : Nat} {cs : Array Value} {T : TypeId} (h : w.heap[b]? = some (.cells cs T (0, 0))) (j : Nat) : w.frozen? ⟨b, j, none⟩ = false := by simp [World.frozen?, h]
theorem blk1 {w : World} {b : Nat} {x : Value} {T : TypeId} (h : w.heap[b]? = some (.cells #[x] T (0, 0))) : w.cell? ⟨b, 0, none⟩ = some x ∧ w.frozen? ⟨b, 0, none⟩ = false := ⟨blk_cell h 0, blk_free h 0⟩
theorem blk2 {w : World} {b : Nat} {x y : Value} {T : TypeId} (h : w.heap[b]? = some (.cells #[x, y] T (0, 0))) : w.cell? ⟨b, 0, none⟩ = some x ∧ w.cell? ⟨b, 1, none⟩ = some y ∧ w.frozen? ⟨b, 0, none⟩ = false ∧ w.frozen? ⟨b, 1, none⟩ = false :=
  ⟨blk_cell h 0, blk_cell h 1, blk_free h 0, blk_free h 1⟩
theorem ha_at {w : World} {o : Obj} {k : Nat} (h : k = w.heap.size) : (w.alloc o).heap[k]? = some o := by rw [heap_alloc_get, if_pos h]
theorem ha_lt {w : World} {o v : Obj} {k : Nat} (h : w.heap[k]? = some v) : (w.alloc o).heap[k]? = some v := by rw [heap_alloc_get, if_neg (by have := lt_of_block h; omega), h]
theorem Rd_nil {α : Type} (k : Nat) (enc : α → List Value) (w : World) (A : Option Addr) : Rd k enc w A [] := ⟨by simp, fun h => absurd rfl h⟩
theorem Rd_blk {α : Type} {k : Nat} {enc : α → List Value} {w : World} {g : Nat} {cs : Array Value} {T : TypeId} {fr : Nat × Nat} {xs : List α} (hl : xs.length ≤ 9223372036854775807) (h : w.heap[g]? = some (.cells cs T fr))
    (hc : ∀ i x, xs[i]? = some x → ∀ j u, (enc x)[j]? = some u → cs[i * k + j]? = some u) : Rd k enc w (some ⟨g, 0, none⟩) xs :=
  ⟨hl, fun _ => ⟨g, 0, rfl, lt_of_block h, fun i x hx j u hu => by simp [World.cell?, h, hc i x hx j u hu]⟩⟩
theorem Rd_newU {w : World} {T : TypeId} {l : List Int} {cs : Array Value} {g : Nat} (hg : g = w.heap.size) (hcs : cs = (l.map (Value.int .u64)).toArray) (hl : l.length ≤ 9223372036854775807) : Rd 1 encU (w.alloc (.cells cs T)) (some ⟨g, 0, none⟩) l :=
  Rd_blk hl (ha_at hg) (fun i x hx j u hu => by
    subst hcs
    cases j with
    | zero => simp [encU] at hu; subst hu; simp [hx]
    | succ j => simp [encU] at hu)
theorem Rd_newI {w : World} {T : TypeId} {l : List Int} {cs : Array Value} {g : Nat} (hg : g = w.heap.size) (hcs : cs = (l.map (Value.int .i64)).toArray) (hl : l.length ≤ 9223372036854775807) : Rd 1 encI (w.alloc (.cells cs T)) (some ⟨g, 0, none⟩) l :=
  Rd_blk hl (ha_at hg) (fun i x hx j u hu => by
    subst hcs
    cases j with
    | zero => simp [encI] at hu; subst hu; simp [hx]
    | succ j => simp [encI] at hu)

structure ID where
  hi : Int
  lo : Int
  deriving DecidableEq
structure Blk where
  slot : Int
  frm : Int
  par : ID
  salt : Int
  deriving DecidableEq
structure Vote where
  frm : Int
  slot : Int
  head : ID
  deriving DecidableEq
def idv (x : ID) : Value := .agg #[.int .u64 x.1, .int .u64 x.2]
def encID (x : ID) : List Value := [.int .u64 x.1, .int .u64 x.2]
def encBlk (b : Blk) : List Value := [.int .i64 b.slot, .int .i64 b.frm, .int .u64 b.par.1, .int .u64 b.par.2, .int .u64 b.salt]
def encVote (v : Vote) : List Value := [.int .i64 v.frm, .int .i64 v.slot, .int .u64 v.head.1, .int .u64 v.head.2]
theorem Rd.atID {w : World} {A : Option Addr} {xs : List ID} (h : Rd 2 encID w A xs) {i : Nat} (hi : i < xs.length) :
    ∃ b o, A = some ⟨b, o, none⟩ ∧ b < w.heap.size ∧ w.cell? ⟨b, o + i * 2, none⟩ = some (.int .u64 xs[i].1) ∧ w.cell? ⟨b, o + i * 2 + 1, none⟩ = some (.int .u64 xs[i].2) := by
  obtain ⟨b, o, hA, hlt, hc⟩ := h.at hi
  exact ⟨b, o, hA, hlt, hc 0 _ rfl, hc 1 _ rfl⟩
theorem Rd.atBlk {w : World} {A : Option Addr} {xs : List Blk} (h : Rd 5 encBlk w A xs) {i : Nat} (hi : i < xs.length) :
    ∃ b o, A = some ⟨b, o, none⟩ ∧ b < w.heap.size ∧ w.cell? ⟨b, o + i * 5, none⟩ = some (.int .i64 xs[i].slot) ∧ w.cell? ⟨b, o + i * 5 + 1, none⟩ = some (.int .i64 xs[i].frm) ∧
      w.cell? ⟨b, o + i * 5 + 2, none⟩ = some (.int .u64 xs[i].par.1) ∧ w.cell? ⟨b, o + i * 5 + 3, none⟩ = some (.int .u64 xs[i].par.2) ∧ w.cell? ⟨b, o + i * 5 + 4, none⟩ = some (.int .u64 xs[i].salt) := by
  obtain ⟨b, o, hA, hlt, hc⟩ := h.at hi
  exact ⟨b, o, hA, hlt, hc 0 _ rfl, hc 1 _ rfl, hc 2 _ rfl, hc 3 _ rfl, hc 4 _ rfl⟩
theorem Rd.atVote {w : World} {A : Option Addr} {xs : List Vote} (h : Rd 4 encVote w A xs) {i : Nat} (hi : i < xs.length) :
    ∃ b o, A = some ⟨b, o, none⟩ ∧ b < w.heap.size ∧ w.cell? ⟨b, o + i * 4, none⟩ = some (.int .i64 xs[i].frm) ∧ w.cell? ⟨b, o + i * 4 + 1, none⟩ = some (.int .i64 xs[i].slot) ∧
      w.cell? ⟨b, o + i * 4 + 2, none⟩ = some (.int .u64 xs[i].head.1) ∧ w.cell? ⟨b, o + i * 4 + 3, none⟩ = some (.int .u64 xs[i].head.2) := by
  obtain ⟨b, o, hA, hlt, hc⟩ := h.at hi
  exact ⟨b, o, hA, hlt, hc 0 _ rfl, hc 1 _ rfl, hc 2 _ rfl, hc 3 _ rfl⟩
/-- A slice of the call's own, from block 'base' on, that holds xs. -/
def Own {α : Type} (w : World) (base : Nat) (e : TypeId) (k : Nat) (enc : α → List Value) (v : Value) (xs : List α) : Prop := w.ownsRow base e k v xs.length (xs.flatMap enc)
theorem flatMap_get {α : Type} {k : Nat} {enc : α → List Value} (hk : ∀ x, (enc x).length = k) : ∀ (xs : List α) (i : Nat) (x : α), xs[i]? = some x → ∀ j u, (enc x)[j]? = some u → (xs.flatMap enc)[i * k + j]? = some u
  | [], i, x, h, _, _, _ => by simp at h
  | y :: xs, 0, x, h, j, u, hu => by
    simp only [List.getElem?_cons_zero, Option.some.injEq] at h
    subst h
    have hj : j < (enc y).length := (List.getElem?_eq_some_iff.1 hu).1
    simp only [List.flatMap_cons, Nat.zero_mul, Nat.zero_add]
    rw [List.getElem?_append_left hj, hu]
  | y :: xs, i + 1, x, h, j, u, hu => by
    simp only [List.getElem?_cons_succ] at h
    simp only [List.flatMap_cons]
    rw [List.getElem?_append_right (by rw [hk, Nat.succ_mul]; omega), hk, show (i + 1) * k + j - k = i * k + j by rw [Nat.succ_mul]; omega]
    exact flatMap_get hk xs i x h j u hu
theorem Own.rd {α : Type} {w : World} {base : Nat} {e : TypeId} {k : Nat} {enc : α → List Value} {v : Value} {xs : List α} (hk : ∀ x, (enc x).length = k) (h : Own w base e k enc v xs) : ∃ A c, v = .slice A xs.length c ∧ Rd k enc w A xs := by
  have h' := h
  obtain ⟨h1, h2⟩ := h
  rcases h2 with ⟨rfl, h0⟩ | ⟨g, cap, cur, rfl, hb, hh, hle, hm, hs, ht⟩
  · obtain rfl := List.eq_nil_of_length_eq_zero h0
    exact ⟨none, 0, rfl, Rd_nil _ _ _ _⟩
  · refine ⟨_, cap, rfl, Rd_blk (by unfold maxLen at hm; omega) hh (fun i x hx j u hu => ?_)⟩
    have hg := flatMap_get hk xs i x hx j u hu
    rw [← ht] at hg
    have := List.getElem?_take_of_lt (l := cur.toList) (i := i * k + j) (j := xs.length * k) (by
      have := (List.getElem?_eq_some_iff.1 hg).1
      rw [List.length_take] at this
      omega)
    rw [this] at hg
    simpa using hg
theorem Own.rdc {α : Type} {w : World} {base : Nat} {e : TypeId} {k : Nat} {enc : α → List Value} {v : Value} {xs : List α} (hk : ∀ x, (enc x).length = k) (h : Own w base e k enc v xs) : ∃ A c, v = .slice A xs.length c ∧ xs.length ≤ c ∧ Rd k enc w A xs := by
  obtain ⟨A, c, rfl, hr⟩ := h.rd hk
  refine ⟨A, c, rfl, ?_, hr⟩
  obtain ⟨h1, h2⟩ := h
  rcases h2 with ⟨he, h0⟩ | ⟨g, cap, cur, he, hb, hh, hle, _⟩
  · rw [h0]; exact Nat.zero_le _
  · cases he; exact hle
theorem Rd.take {α : Type} {k : Nat} {enc : α → List Value} {w : World} {A : Option Addr} {xs : List α} (h : Rd k enc w A xs) (n : Nat) : Rd k enc w A (xs.take n) := by
  refine ⟨by have := h.1; simp; omega, fun hne => ?_⟩
  obtain ⟨b, o, hA, hlt, hc⟩ := h.2 (fun e => hne (by rw [e]; simp))
  refine ⟨b, o, hA, hlt, fun i x hx => hc i x ?_⟩
  rw [List.getElem?_take] at hx
  split at hx
  · exact hx
  · cases hx
theorem Own.nil {α : Type} (w : World) (base : Nat) (e : TypeId) (k : Nat) (enc : α → List Value) : Own w base e k enc (.slice none 0 0) ([] : List α) := World.ownsRow_nil w base e k
theorem Own.below {α : Type} {w W : World} {base : Nat} {e : TypeId} {k : Nat} {enc : α → List Value} {v : Value} {xs : List α} (h : Own w base e k enc v xs) (hb : Below w.heap.size w W) : Own W base e k enc v xs := by
  obtain ⟨h1, h2⟩ := h
  refine ⟨h1, ?_⟩
  rcases h2 with h2 | ⟨g, cap, cur, hv, hg, hh, r⟩
  · exact .inl h2
  · exact .inr ⟨g, cap, cur, hv, hg, bl_own hb hh, r⟩
theorem Own.grown {α : Type} {w W : World} {base : Nat} {e : TypeId} {k : Nat} {enc : α → List Value} {v : Value} {xs : List α} {row : Option Nat} (h : Own w base e k enc v xs) (hg : w.grownBy W row) (hne : row = none ∨ v.ownBlock ≠ row) : Own W base e k enc v xs := by
  obtain ⟨h1, h2⟩ := h
  refine ⟨h1, ?_⟩
  rcases h2 with h2 | ⟨g, cap, cur, rfl, hgb, hh, r⟩
  · exact .inl h2
  · refine .inr ⟨g, cap, cur, rfl, hgb, grown_own hg hh ?_, r⟩
    rcases hne with e | e
    · rw [e]; simp
    · simpa [Value.ownBlock] using e
theorem Own.mono {α : Type} {w : World} {base base' : Nat} {e : TypeId} {k : Nat} {enc : α → List Value} {v : Value} {xs : List α} (h : Own w base e k enc v xs) (hb : base' ≤ base) : Own w base' e k enc v xs := by
  obtain ⟨h1, h2⟩ := h
  refine ⟨h1, ?_⟩
  rcases h2 with h2 | ⟨g, cap, cur, hv, hg, hh, r⟩
  · exact .inl h2
  · exact .inr ⟨g, cap, cur, hv, Nat.le_trans hb hg, hh, r⟩
/-- What an owned slice's block is: not below 'base'. -/
theorem Own.base {α : Type} {w : World} {base : Nat} {e : TypeId} {k : Nat} {enc : α → List Value} {v : Value} {xs : List α} (h : Own w base e k enc v xs) (j : Nat) (hj : v.ownBlock = some j) : base ≤ j ∧ j < w.heap.size := World.ownsRow.lt h j hj
section
variable {P : Program} {ops : Array Oper} {rest : List Oper} {o : Oper} {a : Act} {Q : Exit → Act → World → Prop} {α : Type}
/-- 'append(s, y)': y laid just ahead. -/
theorem wp_append1 {enc : α → List Value} {k base : Nat} {w : World} (hgd : o.guard = none) {s x : Operand} {t e : TypeId} (ho : o.op = .call { callee := .builtin .append, args := #[s, x], argTypes := #[t, t] })
    (ht : P.underlying t = some (.slice e)) {z : Value} {bytes : Nat} (hinfo : (P.info? e).map (fun i => (i.zero, i.size, i.bytes)) = some (some z, k, bytes)) (hz : z.cells.size = k) (hk0 : 0 < k) (hk : ∀ x, (enc x).length = k) (h1 : ∀ x, ∀ u ∈ enc x, u.oneCell' = true)
    {v : Value} {xs : List α} (hs : a.eval s = v) (hown : Own w base e k enc v xs) {g : Nat} {c : Nat} (hx : a.eval x = .slice (some ⟨g, 0, none⟩) 1 c) {y : α} {cs : Array Value} {T : TypeId} (hg : w.heap[g]? = some (.cells cs T (0, 0))) (hcs : cs = (enc y).toArray)
    (hb : (xs.length + 1) * bytes ≤ 140737488355328) (hl : xs.length + 1 ≤ maxLen) (hbase : base ≤ w.heap.size)
    (h : ∀ v' w', Own w' base e k enc v' (xs ++ [y]) → w.grownBy w' v.ownBlock → (v'.ownBlock = v.ownBlock ∨ v'.ownBlock = some w.heap.size) → wpList P ops Q rest (a.put o.dst v') w') : wpList P ops Q (o :: rest) a w := by
  obtain ⟨i0, hi, hz0, hz1, hz2⟩ := info_parts hinfo
  subst hcs
  refine wpList_append_own_at (w := w) hgd s x t ho base e i0 z k bytes ht hi hz0 hz1 hz2 hz hk0 v xs.length _ hs hown ⟨g, 0, none⟩ 1 c (enc y) hx (by rw [hk]; omega) (fun j u hu => ?_) (h1 y) hl hb hbase (fun v' w' h2 h3 _ h4 => h v' w' ?_ h3 h4)
  · have e1 : (⟨g, 0, none⟩ : Addr).add j = ⟨g, j, none⟩ := by unfold Addr.add; split <;> simp_all
    rw [e1, blk_cell hg]
    simpa using hu
  · show w'.ownsRow _ _ _ _ _ _
    rw [List.length_append, List.flatMap_append]
    simpa using h2
end
theorem grown_set (w : World) (p : Addr) (u : Value) : w.grownBy (w.setCell p u) (some p.block) := ⟨rfl, rfl, rfl, by simp [World.setCell], fun k _ hne => heap_setCell_other w p k u (fun e => hne (by rw [e]))⟩
theorem grown_trans {w w1 w2 : World} {row : Option Nat} (h1 : w.grownBy w1 row) (h2 : w1.grownBy w2 row) : w.grownBy w2 row :=
  ⟨h2.os.trans h1.os, h2.tape.trans h1.tape, h2.output.trans h1.output, Nat.le_trans h1.size h2.size, fun k hk hne => (h2.block k (Nat.lt_of_lt_of_le hk h1.size) hne).trans (h1.block k hk hne)⟩
theorem set2 {w : World} {b : Nat} {x y : Value} {T : TypeId} (h : w.heap[b]? = some (.cells #[x, y] T (0, 0))) (u v : Value) :
    ((w.setCell ⟨b, 0, none⟩ u).setCell ⟨b, 1, none⟩ v).heap[b]? = some (.cells #[u, v] T (0, 0)) ∧ w.grownBy ((w.setCell ⟨b, 0, none⟩ u).setCell ⟨b, 1, none⟩ v) (some b) := by
  refine ⟨?_, grown_trans (grown_set _ _ _) (grown_set _ _ _)⟩
  rw [heap_setCell_same _ _ _ _ _ _ (heap_setCell_same _ _ _ _ _ _ h)]
  rfl
def lenV : Value → Nat | .slice _ n _ => n | _ => 0
/-- A scope whose run jumps back to one label: the part behind the label, walked once. -/
theorem wp_scope_loop {P : Program} {a : Act} {w : World} {Q : Exit → Act → World → Prop} {c B : Code} (l : Nat) (J : Act → World → Prop) (μ : Act → World → Nat) (hf : findLabel c l = some (.seq .skip B))
    (pass : ∀ a w, J a w → B.wp P (Exit.jump l (fun a' w' => J a' w' ∧ μ a' w' < μ a w) Q) a w)
    (first : (∀ a w, J a w → B.wp P (Exit.jump l J Q) a w) → c.wp P (Exit.jump l J Q) a w) : (Code.scope c).wp P Q a w := by
  refine wp_scope_jumps l J μ hf (first fun a w h => ?_) fun a w h => ?_
  · refine Code.wp_mono (fun e a' w' hq => ?_) (pass a w h)
    cases e <;> first | exact ⟨hq.1, hq.2.1⟩ | exact hq
  · exact wp_seq (wp_skip (pass a w h))
theorem below_drew0 (w : World) : Below w.heap.size w { w with drawn := w.drawn + 1 } := ⟨rfl, rfl, rfl, Nat.le_refl _, fun _ _ => rfl⟩
/-- How far a world has grown: the draws, the new blocks. -/
structure GB where
  d : Nat
  os : Array Obj
  deriving Inhabited
def gr (w : World) (p : GB) : World := { w with heap := w.heap ++ p.os, drawn := p.d }
theorem gr_below (w : World) (p : GB) : Below w.heap.size w (gr w p) :=
  ⟨rfl, rfl, rfl, by simp [gr], fun k hk => by show (w.heap ++ p.os)[k]? = _; rw [Array.getElem?_append_left hk]⟩
theorem gr_of_below {w W : World} (h : Below w.heap.size w W) : ∃ p, W = gr w p := by
  refine ⟨⟨W.drawn, W.heap.extract w.heap.size W.heap.size⟩, ?_⟩
  obtain ⟨h1, h2, h3, h4, h5⟩ := h
  obtain ⟨heap, tape, drawn, os, output⟩ := W
  simp only at h1 h2 h3 h4 h5 ⊢
  unfold gr
  simp only [World.mk.injEq]
  refine ⟨?_, h2, trivial, h1, h3⟩
  apply Array.ext_getElem?
  intro k
  by_cases hk : k < w.heap.size
  · rw [Array.getElem?_append_left hk, h5 k hk]
  · rw [Array.getElem?_append_right (by omega)]
    by_cases hk2 : k < heap.size
    · rw [Array.getElem?_extract]
      rw [if_pos (by omega)]
      congr 1
      omega
    · rw [Array.getElem?_eq_none (by omega), Array.getElem?_eq_none (by simp; omega)]
theorem gr_cell {w : World} {a : Addr} {v : Value} (h : w.cell? a = some v) (p : GB) : (gr w p).cell? a = some v := ((gr_below w p).cell (World.block_lt_of_cell? w a h)).trans h
theorem gr_blk {w : World} {k : Nat} {o : Obj} (h : w.heap[k]? = some o) (p : GB) : (gr w p).heap[k]? = some o := bl_own (gr_below w p) h
theorem Calls.gr_of {P : Program} {f : FuncId} {args : Array Value} {w : World} {p : GB} {v : Value}
    (h : Calls P f args (gr w p) fun e w' => e = .returned v ∧ Below (gr w p).heap.size (gr w p) w') : Calls P f args (gr w p) fun e w'' => e = .returned v ∧ ∃ q : GB, w'' = gr w q :=
  h.mono fun _ _ ⟨he, hb⟩ => ⟨he, gr_of_below ((gr_below w p).trans (hb.mono (gr_below w p).size))⟩
/-- A region that draws its order, reads, and calls what only grows memory. -/
theorem wp_region_gr {P : Program} {id : Nat} {Q : Exit → Act → World → Prop} {a : Act} {w : World} {l : List Oper} (hm : P.follows .mixedOrders = true) (hB : Region.lexB .any l.toArray = true)
    (h : wpQuiet P l.toArray (fun w' => ∃ p : GB, w' = gr w p) (fun a' => ∀ w', (∃ p : GB, w' = gr w p) → Q .normal a' w') l a) : (Code.region id l.toArray true).wp P Q a w :=
  wp_region_quiet (C := fun w' => ∃ p : GB, w' = gr w p) hm hB (gr_of_below (below_drew0 w)) (by simpa using h)
end Go.Proofs.YtdocgemfedohdaaGreat
/-! Small words on blocks and votes in memory. -/
namespace Go.Proofs.YtdocgemfedohdaaGreat
open Go.RowKit
theorem Rd_flat {α : Type} {k : Nat} {enc : α → List Value} (hk : ∀ x, (enc x).length = k) {w : World} {g : Nat} {cs : Array Value} {T : TypeId} {fr : Nat × Nat} {xs : List α} (hl : xs.length ≤ 9223372036854775807) (h : w.heap[g]? = some (.cells cs T fr)) (hcs : cs = (xs.flatMap enc).toArray) : Rd k enc w (some ⟨g, 0, none⟩) xs :=
  Rd_blk hl h (fun i x hx j u hu => by subst hcs; simpa using flatMap_get hk xs i x hx j u hu)
theorem encBlk_len (b : Blk) : (encBlk b).length = 5 := rfl
theorem encVote_len (b : Vote) : (encVote b).length = 4 := rfl
theorem blk5 {w : World} {b : Nat} {x0 x1 x2 x3 x4 : Value} {T : TypeId} (h : w.heap[b]? = some (.cells #[x0, x1, x2, x3, x4] T (0, 0))) : w.cell? ⟨b, 0, none⟩ = some x0 ∧ w.cell? ⟨b, 1, none⟩ = some x1 ∧ w.cell? ⟨b, 2, none⟩ = some x2 ∧ w.cell? ⟨b, 3, none⟩ = some x3 ∧ w.cell? ⟨b, 4, none⟩ = some x4 :=
  ⟨blk_cell h 0, blk_cell h 1, blk_cell h 2, blk_cell h 3, blk_cell h 4⟩
theorem infoV : (Tryz.prog.info? 37).map (fun i => (i.zero, i.size, i.bytes)) = some (some (.agg #[.int .i64 0, .int .i64 0, .int .u64 0, .int .u64 0]), 4, 32) := by kernel_rfl
theorem encVote_one (x : Vote) : ∀ u ∈ encVote x, u.oneCell' = true := by intro u hu; simp [encVote] at hu; rcases hu with rfl | rfl | rfl | rfl <;> rfl
theorem infoB : (Tryz.prog.info? 51).map (fun i => (i.zero, i.size, i.bytes)) = some (some (.agg #[.int .i64 0, .int .i64 0, .int .u64 0, .int .u64 0, .int .u64 0]), 5, 40) := by kernel_rfl
theorem encBlk_one (x : Blk) : ∀ u ∈ encBlk x, u.oneCell' = true := by intro u hu; simp [encBlk] at hu; rcases hu with rfl | rfl | rfl | rfl | rfl <;> rfl
theorem blk4 {w : World} {b : Nat} {x0 x1 x2 x3 : Value} {T : TypeId} (h : w.heap[b]? = some (.cells #[x0, x1, x2, x3] T (0, 0))) : w.cell? ⟨b, 0, none⟩ = some x0 ∧ w.cell? ⟨b, 1, none⟩ = some x1 ∧ w.cell? ⟨b, 2, none⟩ = some x2 ∧ w.cell? ⟨b, 3, none⟩ = some x3 :=
  ⟨blk_cell h 0, blk_cell h 1, blk_cell h 2, blk_cell h 3⟩
theorem infoI : (Tryz.prog.info? 3).map (fun i => (i.zero, i.size, i.bytes)) = some (some (.int .i64 0), 1, 8) := by kernel_rfl
theorem encI_len (x : Int) : (encI x).length = 1 := rfl
theorem encI_one (x : Int) : ∀ u ∈ encI x, u.oneCell' = true := by intro u hu; simp [encI] at hu; subst hu; rfl
def votev (v : Vote) : Value := .agg #[.int .i64 v.frm, .int .i64 v.slot, .int .u64 v.head.hi, .int .u64 v.head.lo]
end Go.Proofs.YtdocgemfedohdaaGreat
/-! The walks of the packages mix and marigoldref02: what each function computes. -/
namespace Go.Proofs.YtdocgemfedohdaaGreat
open Go.RowKit
def mixWord (a : Int) : Int :=
  let x := IntKind.u64.wrap (bits BinOp.xor IntKind.u64 a (a / 1073741824) * 13787848793156543929)
  let y := IntKind.u64.wrap (bits BinOp.xor IntKind.u64 x (x / 134217728) * 10723151780598845931)
  bits BinOp.xor IntKind.u64 y (y / 2147483648)
def mixStep (h x : Int) : Int := mixWord (IntKind.u64.wrap (bits BinOp.xor IntKind.u64 h x + 11400714819323198485))
set_option maxHeartbeats 400000 in
theorem word_any (a : Int) (w : World) :
    Calls Tryz.prog 39 #[.int .u64 a] w fun e w' => e = .returned (.int .u64 (mixWord a)) ∧ w' = w := by
  go_enter Tryz.func39, Tryz.ntmps39
  go_wp2
  go_ret
  exact ⟨rfl, rfl⟩
set_option maxHeartbeats 400000 in
theorem step_any (h x : Int) (w : World) :
    Calls Tryz.prog 23 #[.int .u64 h, .int .u64 x] w fun e w' => e = .returned (.int .u64 (mixStep h x)) ∧ w' = w := by
  go_enter Tryz.func23, Tryz.ntmps23
  go_wp2_with (go_at_call 39; refine (word_any _ _).mono ?_; rintro e w' ⟨rfl, rfl⟩)
  go_ret
  exact ⟨rfl, rfl⟩
set_option maxRecDepth 100000 in
set_option maxHeartbeats 400000 in
theorem of1_any (x a b : Int) (B : Nat) (w : World) (h0 : w.cell? ⟨B, 0, none⟩ = some (.int .u64 a)) (h1 : w.cell? ⟨B, 1, none⟩ = some (.int .u64 b)) (hf0 : w.frozen? ⟨B, 0, none⟩ = false) (hf1 : w.frozen? ⟨B, 1, none⟩ = false) :
    Calls Tryz.prog 51 #[.int .u64 x, .pointer (some ⟨B, 0, none⟩)] w fun e w' => e = .returned (.tuple #[]) ∧ ∃ n, w' = ((w.setCell ⟨B, 0, none⟩ (.int .u64 (mixStep a x))).setCell ⟨B, 1, none⟩ (.int .u64 (mixStep b (bits BinOp.xor IntKind.u64 IntKind.u64.max x)))).drewN n := by
  go_enter Tryz.func51, Tryz.ntmps51
  refine wp_region_still_tail 10 (by kernel_rfl) (by kernel_rfl) ?_
  simp only [List.take_succ_cons, List.take_zero, List.drop_succ_cons, List.drop_zero]
  repeat (first | still_step | still_call (step_any _ _ _))
  refine wpStill_nil ?_
  change wpList _ _ _ _ _ w.drew
  go_wp2
  go_end0
  exact ⟨rfl, 1, rfl⟩
/-- The same, by the block. -/
theorem of1_blk (x a b : Int) (B T : Nat) (w : World) (h : w.heap[B]? = some (.cells #[.int .u64 a, .int .u64 b] T (0, 0))) :
    Calls Tryz.prog 51 #[.int .u64 x, .pointer (some ⟨B, 0, none⟩)] w fun e w' => e = .returned (.tuple #[]) ∧
      w'.heap[B]? = some (.cells #[.int .u64 (mixStep a x), .int .u64 (mixStep b (bits BinOp.xor IntKind.u64 IntKind.u64.max x))] T (0, 0)) ∧ w.grownBy w' (some B) := by
  refine (of1_any x a b B w (by simp [World.cell?, h]) (by simp [World.cell?, h]) (by simp [World.frozen?, h]) (by simp [World.frozen?, h])).mono ?_
  rintro e w' ⟨rfl, n, rfl⟩
  refine ⟨rfl, ?_, ⟨rfl, rfl, rfl, by simp [World.setCell], fun k hk hne => ?_⟩⟩
  · show ((w.setCell _ _).setCell _ _).heap[B]? = _
    rw [heap_setCell_same _ _ _ _ _ _ (heap_setCell_same _ _ _ _ _ _ h)]
    rfl
  · show ((w.setCell _ _).setCell _ _).heap[k]? = _
    have hne' : k ≠ B := fun e => hne (by rw [e])
    rw [heap_setCell_other _ _ _ _ hne', heap_setCell_other _ _ _ _ hne']
/-- What the words come to: one pair. -/
def mixFold : ID → List Int → ID
  | p, [] => p
  | p, x :: l => mixFold ⟨mixStep p.1 x, mixStep p.2 (bits BinOp.xor IntKind.u64 IntKind.u64.max x)⟩ l
theorem mixFold_snoc (p : ID) (l : List Int) (x : Int) : mixFold p (l ++ [x]) = ⟨mixStep (mixFold p l).1 x, mixStep (mixFold p l).2 (bits BinOp.xor IntKind.u64 IntKind.u64.max x)⟩ := by
  induction l generalizing p with
  | nil => rfl
  | cons y l ih => exact ih _
def mixOf (l : List Int) : ID := mixFold ⟨1, 2⟩ (l ++ [(l.length : Int)])
set_option maxRecDepth 100000 in
set_option maxHeartbeats 1000000 in
theorem of_any (l : List Int) (A : Option Addr) (c : Nat) (w : World) (hr : Rd 1 encU w A l) :
    Calls Tryz.prog 34 #[.slice A l.length c] w fun e w' => e = .returned (.agg #[.int .u64 (mixOf l).1, .int .u64 (mixOf l).2]) ∧ Below w.heap.size w w' := by
  go_enter Tryz.func34, Tryz.ntmps34
  go_wp2_with fail
  have hm := hr.1
  go_loopw [6, 11] (fun x i wr => ∃ k : Nat, k ≤ l.length ∧ i = .int .i64 k ∧ wr.heap[w.heap.size + 1]? = some (.cells #[.int .u64 (mixFold ⟨1, 2⟩ (l.take k)).1, .int .u64 (mixFold ⟨1, 2⟩ (l.take k)).2] 28 (0, 0)) ∧ wr.heap[w.heap.size]? = some (.cells #[.int .u64 0, .int .u64 0] 28 (0, 0)) ∧ Below w.heap.size w wr) (fun _ i _ => l.length - (intOf i).toNat)
  case atStart =>
    exact ⟨0, Nat.zero_le _, rfl, by rw [heap_alloc_get, if_pos (by simp)]; rfl, by rw [heap_alloc_get, if_neg (by simp), heap_alloc_get, if_pos rfl], ((Below.refl _ w).alloc (Nat.le_refl _) _).alloc (by simp) _⟩
  case round =>
    obtain ⟨k, hk, rfl, hb1, hb0, hB⟩ := hrel
    by_cases hlt : k < l.length
    · obtain ⟨b, o, rfl, hbo, hc⟩ := (hr.below hB).atU hlt
      go_wp2_with (go_at_call 51; refine (of1_blk _ _ _ _ _ _ hb1).mono ?_; rintro e w' ⟨rfl, hb1', hg⟩)
      go_roundw
      case rel => exact ⟨k + 1, hlt, by go_num, by rw [hb1', ← List.take_append_getElem hlt, mixFold_snoc], grown_own hg hb0 (by simp), below_step hB hB.size hg (by simp)⟩
      case measure => simp [intOf]; omega
    · obtain rfl : k = l.length := by omega
      have hz0 := blk_free hb0
      have hlt0 := lt_of_block hb0
      go_wp2_with (go_at_call 51; refine (of1_blk _ _ _ _ _ _ hb1).mono ?_; rintro e w' ⟨rfl, hb1', hg⟩; obtain ⟨c0, c1, f0, f1⟩ := blk2 hb1'; obtain ⟨d0, d1, g0, g1⟩ := blk2 (grown_own hg hb0 (by simp)))
      refine bodyPost_ret (v := .agg #[.int .u64 (mixOf l).1, .int .u64 (mixOf l).2]) ?_ rfl ⟨rfl, ?_⟩
      · simp [results, Tryz.results34, go_sem, d0, d1, mixOf, mixFold_snoc]
      · exact ((below_step hB hB.size hg (by simp)).setCell (p := ⟨w.heap.size, 0, none⟩) (Nat.le_refl _) _).setCell (p := ⟨w.heap.size, 1, none⟩) (Nat.le_refl _) _
end Go.Proofs.YtdocgemfedohdaaGreat
/-! Maps that a call makes: as lists of pairs, in the order of their laying. -/
namespace Go.Proofs.YtdocgemfedohdaaGreat
open Go.RowKit

section
variable {κ ν : Type} [DecidableEq κ]
def mget (m : List (κ × ν)) (x : κ) : Option ν := (m.find? fun p => decide (p.1 = x)).map (·.2)
def mput (m : List (κ × ν)) (x : κ) (v : ν) : List (κ × ν) :=
  if (mget m x).isSome then m.map fun p => if p.1 = x then (p.1, v) else p else m ++ [(x, v)]

/-- What is asked of a kind of keys. -/
structure Key (P : Program) (kt : TypeId) (ek : κ → Value) : Prop where
  chk : ∀ b x w, (Instr.checkKey b 10000 kt (ek x)).run P w = .ok () w
  eq : ∀ x y w, (Op.equal kt (ek x) (ek y)).run P w = .ok (decide (x = y)) w
  now : ∃ d, P.underlying kt = some d ∧ ∀ x y, Instr.sameNow d (ek x) (ek y) = none ∨ Instr.sameNow d (ek x) (ek y) = some (decide (x = y))
  bits : ∀ x, Instr.sameBits 10000 (ek x) (ek x) = true

/-- Where a key is. -/
def keyIdx (ks : List κ) (x : κ) : Nat → Option Nat
  | i => match ks with
    | [] => none
    | k :: ks => if k = x then some i else keyIdx ks x (i + 1)

theorem findAsking_run {P : Program} {kt : TypeId} {ek : κ → Value} (K : Key P kt ek) (x : κ) (w : World) :
    ∀ (ks : List κ) (es : List MapEntry) (i : Nat), es.map (·.key) = ks.map ek →
      (Instr.findAsking kt (ek x) es i).run P w = .ok ((keyIdx ks x i).bind fun j => (es[j - i]?).map fun e => (j, e.val)) w := by
  intro ks
  induction ks with
  | nil => intro es i h; cases es with
    | nil => simp [Instr.findAsking, keyIdx]
    | cons e es => simp at h
  | cons k ks ih =>
    intro es i h
    cases es with
    | nil => simp at h
    | cons e es =>
      simp only [List.map_cons, List.cons.injEq] at h
      simp only [Instr.findAsking, Sem.run_bind, h.1, K.eq, Result.andThen_ok, keyIdx]
      by_cases hk : x = k
      · subst hk; simp
      · have hk' : ¬ k = x := fun e => hk e.symm
        simp only [hk, hk', decide_false, if_false, Bool.false_eq_true]
        rw [ih es (i + 1) h.2]
        congr 1
        cases hj : keyIdx ks x (i + 1) with
        | none => rfl
        | some j =>
          have hle : i + 1 ≤ j := by
            clear ih h hk hk'
            induction ks generalizing i with
            | nil => simp [keyIdx] at hj
            | cons k' ks ih' =>
              simp only [keyIdx] at hj
              split at hj
              · cases hj; omega
              · have := ih' (i + 1) hj; omega
          simp only [Option.bind_some]
          rw [show j - i = (j - (i + 1)) + 1 by omega, List.getElem?_cons_succ]

theorem findNow_run {d : TypeDesc} {ek : κ → Value} (hn : ∀ x y, Instr.sameNow d (ek x) (ek y) = none ∨ Instr.sameNow d (ek x) (ek y) = some (decide (x = y))) (x : κ) :
    ∀ (ks : List κ) (es : List MapEntry) (i : Nat), es.map (·.key) = ks.map ek →
      Instr.findNow d (ek x) es i = none ∨ Instr.findNow d (ek x) es i = some ((keyIdx ks x i).bind fun j => (es[j - i]?).map fun e => (j, e.val)) := by
  intro ks
  induction ks with
  | nil => intro es i h; cases es with
    | nil => simp [Instr.findNow, keyIdx]
    | cons e es => simp at h
  | cons k ks ih =>
    intro es i h
    cases es with
    | nil => simp at h
    | cons e es =>
      simp only [List.map_cons, List.cons.injEq] at h
      simp only [Instr.findNow, h.1, keyIdx]
      rcases hn x k with h1 | h1
      · left; rw [h1]
      · rw [h1]
        by_cases hk : x = k
        · subst hk; right; simp
        · have hk' : ¬ k = x := fun e => hk e.symm
          simp only [hk, hk', decide_false, if_false]
          rcases ih es (i + 1) h.2 with h2 | h2
          · left; exact h2
          · right
            rw [h2]
            congr 1
            cases hj : keyIdx ks x (i + 1) with
            | none => rfl
            | some j =>
              have hle : i + 1 ≤ j := by
                clear ih h hk hk' h1 h2
                induction ks generalizing i with
                | nil => simp [keyIdx] at hj
                | cons k' ks ih' =>
                  simp only [keyIdx] at hj
                  split at hj
                  · cases hj; omega
                  · have := ih' (i + 1) hj; omega
              simp only [Option.bind_some]
              rw [show j - i = (j - (i + 1)) + 1 by omega, List.getElem?_cons_succ]

theorem findKey_run {P : Program} {kt : TypeId} {ek : κ → Value} (K : Key P kt ek) (x : κ) (w : World) (ks : List κ) (es : List MapEntry) (h : es.map (·.key) = ks.map ek) :
    (Instr.findKey kt (ek x) es).run P w = .ok ((keyIdx ks x 0).bind fun j => (es[j]?).map fun e => (j, e.val)) w := by
  obtain ⟨d, hd, hn⟩ := K.now
  simp only [Instr.findKey, Sem.run_bind, run_underlying hd, Result.andThen_ok]
  rcases findNow_run hn x ks es 0 h with h1 | h1
  · rw [h1]
    simp only []
    simpa using findAsking_run K x w ks es 0 h
  · rw [h1]
    simp

/-- Block B is a map that holds m, in this order. -/
def MapIs (ek : κ → Value) (ev : ν → Value) (w : World) (B : Nat) (m : List (κ × ν)) : Prop :=
  ∃ es clk, w.heap[B]? = some (.map es clk) ∧ es.toList.map (fun e => (e.key, e.val)) = m.map (fun p => (ek p.1, ev p.2)) ∧
    (es.toList.map (·.born)).Pairwise (· < ·) ∧ (∀ e ∈ es.toList, e.born < clk) ∧ (m.map (·.1)).Nodup

theorem keyIdx_ge {ks : List κ} {x : κ} {i j : Nat} (hj : keyIdx ks x i = some j) : i ≤ j ∧ ks[j - i]? = some x := by
  induction ks generalizing i with
  | nil => simp [keyIdx] at hj
  | cons k' ks ih' =>
    simp only [keyIdx] at hj
    split at hj
    · rename_i hk
      cases hj; simp [hk]
    · have := ih' hj
      refine ⟨by omega, ?_⟩
      rw [show j - i = (j - (i + 1)) + 1 by omega, List.getElem?_cons_succ]
      exact this.2
theorem keyIdx_get (m : List (κ × ν)) (x : κ) (i : Nat) : mget m x = (keyIdx (m.map (·.1)) x i).bind fun j => (m[j - i]?).map (·.2) := by
  induction m generalizing i with
  | nil => simp [mget, keyIdx]
  | cons p m ih =>
    simp only [List.map_cons, keyIdx]
    by_cases h : p.1 = x
    · simp [mget, h]
    · have e : mget (p :: m) x = mget m x := by simp [mget, h]
      rw [e, ih (i + 1)]
      simp only [h, if_false]
      cases hj : keyIdx (m.map (·.1)) x (i + 1) with
      | none => rfl
      | some j =>
        have := (keyIdx_ge hj).1
        simp only [Option.bind_some]
        rw [show j - i = (j - (i + 1)) + 1 by omega, List.getElem?_cons_succ]

end
section
variable {κ ν : Type} {ek : κ → Value} {ev : ν → Value}
theorem entries_key {es : List MapEntry} {m : List (κ × ν)} (h : es.map (fun e => (e.key, e.val)) = m.map (fun p => (ek p.1, ev p.2))) : es.map (·.key) = (m.map (·.1)).map ek := by
  have := congrArg (List.map Prod.fst) h
  simpa [List.map_map, Function.comp_def] using this
theorem entries_val {es : List MapEntry} {m : List (κ × ν)} (h : es.map (fun e => (e.key, e.val)) = m.map (fun p => (ek p.1, ev p.2))) (j : Nat) : (es[j]?).map (·.val) = (m[j]?).map fun p => ev p.2 := by
  have := congrArg (fun l : List (Value × Value) => (l[j]?).map Prod.snd) h
  simpa [List.getElem?_map, Function.comp_def] using this

end
section
variable {κ ν : Type} [DecidableEq κ] {P : Program} {kt : TypeId} {ek : κ → Value} {ev : ν → Value}
theorem lookup_run (K : Key P kt ek) {MT et : TypeId} (ht : P.underlying MT = some (.map kt et)) {z : Value} {w : World} (hz : (zeroValue et).run P w = .ok z w) {B : Nat} {m : List (κ × ν)} (hM : MapIs ek ev w B m) (x : κ) (c : Bool) :
    (Instr.lookup MT (.map (some B)) (ek x) c).run P w = .ok (if c then .tuple #[((mget m x).map ev).getD z, .bool (mget m x).isSome] else ((mget m x).map ev).getD z) w := by
  obtain ⟨es, clk, hB, hes, _, _, _⟩ := hM
  have hf := findKey_run K x w (m.map (·.1)) es.toList (entries_key hes)
  have hg := keyIdx_get m x 0
  simp only [Nat.sub_zero] at hg
  have hgo : (getObj B).run P w = .ok (.map es clk) w := by simp [getObj, Sem.run, hB]
  simp only [Instr.lookup, Sem.run_bind, run_underlying ht, Result.andThen_ok, hgo, K.chk, hf, Sem.run_pure]
  cases hj : keyIdx (m.map (·.1)) x 0 with
  | none =>
    simp only [hj, Option.bind_none] at hg ⊢
    simp [hz, hg]
  | some j =>
    have hv := entries_val hes j
    simp only [hj, Option.bind_some] at hg ⊢
    cases he : es.toList[j]? with
    | none =>
      rw [he] at hv
      simp only [Option.map_none] at hv
      have hm : m[j]? = none := by
        cases hm : m[j]? with
        | none => rfl
        | some p => rw [hm] at hv; simp at hv
      simp [hz, hg, hm]
    | some e =>
      rw [he] at hv
      cases hm : m[j]? with
      | none => rw [hm] at hv; simp at hv
      | some p =>
        rw [hm] at hv
        simp only [Option.map_some, Option.some.injEq] at hv
        simp [hg, hm, hv]

theorem keyIdx_none {ks : List κ} {x : κ} {i : Nat} (h : keyIdx ks x i = none) : x ∉ ks := by
  induction ks generalizing i with
  | nil => simp
  | cons k ks ih =>
    simp only [keyIdx] at h
    split at h
    · cases h
    · rename_i hk
      intro hm
      rcases List.mem_cons.1 hm with e | e
      · exact hk e.symm
      · exact ih h e
theorem mget_none {m : List (κ × ν)} {x : κ} : mget m x = none ↔ x ∉ m.map (·.1) := by
  unfold mget
  simp [List.find?_eq_none]
  exact ⟨fun h v hm => h x v hm rfl, fun h a b hm e => h b (e ▸ hm)⟩
theorem mput_keys (m : List (κ × ν)) (x : κ) (v : ν) : (mput m x v).map (·.1) = if x ∈ m.map (·.1) then m.map (·.1) else m.map (·.1) ++ [x] := by
  unfold mput
  by_cases h : x ∈ m.map (·.1)
  · have h1 : (mget m x).isSome = true := by
      cases hg : mget m x with
      | none => exact absurd h (mget_none.1 hg)
      | some _ => rfl
    rw [if_pos h1, if_pos h, List.map_map]
    apply List.map_congr_left
    intro p _
    simp only [Function.comp]
    split <;> rfl
  · have h1 : mget m x = none := mget_none.2 h
    rw [h1, if_neg h]
    simp
theorem mem_mput {m : List (κ × ν)} {x : κ} {v : ν} {q : κ × ν} (h : q ∈ mput m x v) : q ∈ m ∨ q = (x, v) := by
  unfold mput at h
  split at h
  · obtain ⟨p, hp, rfl⟩ := List.mem_map.1 h
    split
    · rename_i hx; right; rw [hx]
    · left; exact hp
  · rcases List.mem_append.1 h with h | h
    · left; exact h
    · right; simpa using h
theorem mput_nodup {m : List (κ × ν)} (h : (m.map (·.1)).Nodup) (x : κ) (v : ν) : ((mput m x v).map (·.1)).Nodup := by
  rw [mput_keys]
  split
  · exact h
  · rename_i hx
    rw [List.nodup_append]
    refine ⟨h, by simp, ?_⟩
    intro a ha b hb
    simp only [List.mem_singleton] at hb
    subst hb
    intro e
    subst e
    exact hx ha

theorem update_run (K : Key P kt ek) {MT et : TypeId} (ht : P.underlying MT = some (.map kt et)) {w : World} {B : Nat} {m : List (κ × ν)} (hM : MapIs ek ev w B m) (x : κ) (v : ν) :
    ∃ w', (Instr.mapUpdate MT (.map (some B)) (ek x) (ev v)).run P w = .ok () w' ∧ MapIs ek ev w' B (mput m x v) ∧ w.grownBy w' (some B) ∧ w'.heap.size = w.heap.size := by
  obtain ⟨es, clk, hB, hes, hbn, hbc, hnd⟩ := hM
  have hlt := lt_of_block hB
  have hf := findKey_run K x w (m.map (·.1)) es.toList (entries_key hes)
  have hg := keyIdx_get m x 0
  simp only [Nat.sub_zero] at hg
  have hgo : (getObj B).run P w = .ok (.map es clk) w := by simp [getObj, Sem.run, hB]
  have hset : ∀ o, (setObj B o).run P w = .ok () { w with heap := w.heap.setIfInBounds B o } := by intro o; simp [setObj, Sem.run, hB]
  have hgrow : ∀ o, w.grownBy { w with heap := w.heap.setIfInBounds B o } (some B) := fun o => ⟨rfl, rfl, rfl, by simp, fun k _ hne => by
    have : B ≠ k := fun e => hne (by rw [e])
    simp [Array.getElem?_setIfInBounds_ne this]⟩
  have hat : ∀ o : Obj, ({ w with heap := w.heap.setIfInBounds B o } : World).heap[B]? = some o := fun o => by simp [hlt]
  cases hj : keyIdx (m.map (·.1)) x 0 with
  | none =>
    rw [hj] at hf
    have hx := keyIdx_none hj
    refine ⟨{ w with heap := w.heap.setIfInBounds B (.map (es.push { key := ek x, val := ev v, born := clk }) (clk + 1)) }, ?_, ?_, hgrow _, by simp⟩
    · simp only [Instr.mapUpdate, Sem.run_bind, run_underlying ht, Result.andThen_ok, hgo, K.chk, hf, Option.bind_none, hset]
    · refine ⟨_, _, hat _, ?_, ?_, ?_, mput_nodup hnd x v⟩
      · have : mput m x v = m ++ [(x, v)] := by unfold mput; rw [mget_none.2 hx]; rfl
        rw [this]
        simp [hes]
      · simp only [Array.toList_push, List.map_append, List.map_cons, List.map_nil]
        rw [List.pairwise_append]
        refine ⟨hbn, by simp, ?_⟩
        intro a ha b hb
        simp only [List.mem_singleton] at hb
        obtain ⟨e, he, rfl⟩ := List.mem_map.1 ha
        subst hb
        exact hbc e he
      · intro e he
        simp only [Array.toList_push, List.mem_append, List.mem_singleton] at he
        rcases he with he | he
        · exact Nat.lt_succ_of_lt (hbc e he)
        · subst he; exact Nat.lt_succ_self _
  | some j =>
    obtain ⟨_, hjx⟩ := keyIdx_ge hj
    simp only [Nat.sub_zero] at hjx
    rw [hj] at hf
    have hmj : ∃ p, m[j]? = some p ∧ p.1 = x := by
      rw [List.getElem?_map] at hjx
      cases hp : m[j]? with
      | none => rw [hp] at hjx; simp at hjx
      | some p => rw [hp] at hjx; exact ⟨p, rfl, by simpa using hjx⟩
    obtain ⟨p, hp, hpx⟩ := hmj
    have hej : ∃ e, es.toList[j]? = some e ∧ e.key = ek x := by
      have := congrArg (fun l : List (Value × Value) => l[j]?) hes
      simp only [List.getElem?_map, hp, Option.map_some] at this
      cases he : es.toList[j]? with
      | none => rw [he] at this; simp at this
      | some e => rw [he] at this; simp at this; exact ⟨e, rfl, by rw [this.1, hpx]⟩
    obtain ⟨e, he, hek⟩ := hej
    have he' : es[j]? = some e := by simpa using he
    refine ⟨{ w with heap := w.heap.setIfInBounds B (.map (es.modify j fun e => { e with key := ek x, val := ev v }) clk) }, ?_, ?_, hgrow _, by simp⟩
    · simp only [Instr.mapUpdate, Sem.run_bind, run_underlying ht, Result.andThen_ok, hgo, K.chk, hf, Option.bind_some, he, Option.map_some, he', Option.getD_some, hek]
      simp only [Instr.keyThatStays, K.bits, if_true, Sem.run_pure, Result.andThen_ok, hset]
    · refine ⟨_, _, hat _, ?_, ?_, ?_, mput_nodup hnd x v⟩
      · have hsome : (mget m x).isSome = true := by rw [hg, hj]; simp [hp]
        have hmp : mput m x v = m.map fun p => if p.1 = x then (p.1, v) else p := by unfold mput; rw [if_pos hsome]
        rw [hmp]
        apply List.ext_getElem?
        intro i
        have hi := congrArg (fun l : List (Value × Value) => l[i]?) hes
        simp only [List.getElem?_map] at hi
        simp only [Array.toList_modify, List.getElem?_map, List.getElem?_modify]
        by_cases hij : j = i
        · subst hij
          simp [he, hp, hpx]
        · simp only [hij, if_false]
          cases hmi : m[i]? with
          | none => rw [hmi] at hi; simpa using hi
          | some q =>
            have hq : ¬ q.1 = x := by
              intro hq
              have h1 : (m.map (·.1))[i]? = some x := by simp [hmi, hq]
              have h2 : (m.map (·.1))[j]? = some x := by simp [hp, hpx]
              have hil := (List.getElem?_eq_some_iff.1 h1).1
              have hjl := (List.getElem?_eq_some_iff.1 h2).1
              exact hij ((List.getElem?_inj hjl hnd).1 (h2.trans h1.symm))
            rw [hmi] at hi
            simp only [Option.map_some, hq, if_false] at hi ⊢
            simpa using hi
      · have : (es.modify j fun e => { e with key := ek x, val := ev v }).toList.map (·.born) = es.toList.map (·.born) := by
          rw [Array.toList_modify]
          apply List.ext_getElem?
          intro i
          simp only [List.getElem?_map, List.getElem?_modify]
          by_cases hij : j = i
          · subst hij; simp [he]
          · simp only [hij, if_false]; simp
        rw [this]; exact hbn
      · intro e' he2
        rw [Array.toList_modify] at he2
        obtain ⟨i, hi⟩ := List.getElem?_of_mem he2
        rw [List.getElem?_modify] at hi
        by_cases hij : j = i
        · subst hij
          simp only [he, if_true, Option.map_eq_map, Option.map_some, Option.some.injEq] at hi
          subst hi
          exact hbc e (List.mem_of_getElem? he)
        · simp only [hij, if_false] at hi
          exact hbc e' (List.mem_of_getElem? (by simpa using hi))

variable {ops : Array Oper} {rest : List Oper} {o : Oper} {a : Act} {Q : Exit → Act → World → Prop}
theorem wp_lookup (hgd : o.guard = none) {MT et : TypeId} {mo ko : Operand} {c : Bool} (ho : o.op = .lookup MT mo ko c) (K : Key P kt ek) (ht : P.underlying MT = some (.map kt et)) {z : Value} {w : World} (hz : (zeroValue et).run P w = .ok z w)
    {B : Nat} (hmo : a.eval mo = .map (some B)) {x : κ} (hko : a.eval ko = ek x) {m : List (κ × ν)} (hM : MapIs ek ev w B m) {r : Value} (hr : (if c then .tuple #[((mget m x).map ev).getD z, .bool (mget m x).isSome] else ((mget m x).map ev).getD z) = r)
    (h : wpList P ops Q rest (a.put o.dst r) w) : wpList P ops Q (o :: rest) a w := by
  refine wpList_plain hgd fun K' hK' => ?_
  have hrun := lookup_run K ht hz hM x c
  unfold Oper.wp
  simp [execOp, ho, hmo, hko, hrun, Result.andThen]
  rw [hr]
  exact hK' _ _ h
theorem wp_lookup_nil (hgd : o.guard = none) {MT et : TypeId} {mo ko : Operand} {c : Bool} (ho : o.op = .lookup MT mo ko c) (K : Key P kt ek) (ht : P.underlying MT = some (.map kt et)) {z : Value} {w : World} (hz : (zeroValue et).run P w = .ok z w)
    (hmo : a.eval mo = .map none) {x : κ} (hko : a.eval ko = ek x) {r : Value} (hr : (if c then .tuple #[z, .bool false] else z) = r)
    (h : wpList P ops Q rest (a.put o.dst r) w) : wpList P ops Q (o :: rest) a w := by
  refine wpList_plain hgd fun K' hK' => ?_
  have hf := findKey_run K x w [] [] rfl
  have hrun : (Instr.lookup MT (.map none) (ek x) c).run P w = .ok r w := by
    simp only [Instr.lookup, Sem.run_bind, run_underlying ht, Result.andThen_ok, Sem.run_pure, K.chk]
    rw [hf]
    simp [keyIdx, hz, hr]
  unfold Oper.wp
  simp [execOp, ho, hmo, hko, hrun, Result.andThen]
  exact hK' _ _ h
theorem wp_update (hgd : o.guard = none) {MT et : TypeId} {mo ko vo : Operand} (ho : o.op = .mapUpdate MT mo ko vo ∨ o.op = .insert MT mo ko vo) (K : Key P kt ek) (ht : P.underlying MT = some (.map kt et)) {w : World}
    {B : Nat} (hmo : a.eval mo = .map (some B)) {x : κ} (hko : a.eval ko = ek x) {v : ν} (hvo : a.eval vo = ev v) {m : List (κ × ν)} (hM : MapIs ek ev w B m)
    (h : ∀ w', MapIs ek ev w' B (mput m x v) → w.grownBy w' (some B) → w'.heap.size = w.heap.size → wpList P ops Q rest (a.put o.dst undef) w') : wpList P ops Q (o :: rest) a w := by
  refine wpList_plain hgd fun K' hK' => ?_
  obtain ⟨w', hrun, h1, h2, h3⟩ := update_run K ht hM x v
  unfold Oper.wp
  rcases ho with ho | ho
  · simp [execOp, ho, hmo, hko, hvo, hrun, Result.andThen]
    exact hK' _ _ (h w' h1 h2 h3)
  · simp [execOp, ho, hmo, hko, hvo, hrun, Result.andThen]
    exact hK' _ _ (h w' h1 h2 h3)
end
section
variable {κ ν : Type} {ek : κ → Value} {ev : ν → Value}
theorem MapIs_new (ek : κ → Value) (ev : ν → Value) {w : World} {B : Nat} (h : w.heap[B]? = some (.map #[] 0)) : MapIs ek ev w B [] := ⟨#[], 0, h, rfl, by simp, by simp, by simp⟩
theorem MapIs_same {w w' : World} {B : Nat} {m : List (κ × ν)} (h : MapIs ek ev w B m) (hb : w'.heap[B]? = w.heap[B]?) : MapIs ek ev w' B m := by
  obtain ⟨es, clk, h1, h2⟩ := h
  exact ⟨es, clk, hb.trans h1, h2⟩
theorem MapIs_lt {w : World} {B : Nat} {m : List (κ × ν)} (h : MapIs ek ev w B m) : B < w.heap.size := by
  obtain ⟨es, clk, h1, h2⟩ := h
  exact lt_of_block h1
theorem MapIs_below {w w' : World} {B : Nat} {m : List (κ × ν)} (h : MapIs ek ev w B m) (hb : Below w.heap.size w w') : MapIs ek ev w' B m := MapIs_same h (hb.block B (MapIs_lt h))
theorem MapIs_alloc {w : World} {B : Nat} {m : List (κ × ν)} (h : MapIs ek ev w B m) (o : Obj) : MapIs ek ev (w.alloc o) B m := MapIs_below h ((Below.refl _ w).alloc (Nat.le_refl _) o)
theorem MapIs_grown {w w' : World} {B : Nat} {m : List (κ × ν)} {row : Option Nat} (h : MapIs ek ev w B m) (hg : w.grownBy w' row) (hne : some B ≠ row) : MapIs ek ev w' B m := MapIs_same h (hg.block B (MapIs_lt h) hne)
theorem own_ne_map {α : Type} {w : World} {base : Nat} {e : TypeId} {k : Nat} {enc : α → List Value} {v : Value} {xs : List α} {M : Nat} {m : List (κ × ν)} (h : Own w base e k enc v xs) (hM : MapIs ek ev w M m) : v.ownBlock ≠ some M := by
  obtain ⟨_, h2⟩ := h
  obtain ⟨es, clk, hB, _⟩ := hM
  rcases h2 with ⟨rfl, _⟩ | ⟨g, cap, cur, rfl, _, hh, _⟩
  · simp [Value.ownBlock]
  · intro e
    simp only [Value.ownBlock, Option.some.injEq] at e
    subst e
    rw [hB] at hh
    cases hh
end
end Go.Proofs.YtdocgemfedohdaaGreat
/-! Which keys maps have here: whole numbers, IDs. -/
namespace Go.Proofs.YtdocgemfedohdaaGreat
open Go.RowKit
theorem part_int {P : Program} {t : TypeId} {k : IntKind} (hu : P.underlying t = some (.int k)) (cs : Array Value) (off : Nat) (v : Value) (h : cs[off]? = some v) (w : World) : (part t cs off).run P w = .ok v w := by
  simp [part, isAgg, run_underlying hu, h]
theorem eqlIn_id (d : Nat) (x y : ID) (w : World) : (Op.equalIn (d + 2) 28 (idv x) (idv y)).run Tryz.prog w = .ok (decide (x = y)) w := by
  have u := Tryz.underlying28
  have z := Tryz.sizeOf23
  have u3 := Tryz.underlying23
  have p := fun cs off v h w => part_int (P := Tryz.prog) u3 cs off v h w
  unfold idv Op.equalIn
  simp only [Sem.run_bind, run_underlying u, Result.andThen_ok, z]
  simp [List.range', List.forIn_cons, p, run_equalIn_int _ _ _ _ _ _ _ u3]
  obtain ⟨x1, x2⟩ := x
  obtain ⟨y1, y2⟩ := y
  by_cases h1 : x1 = y1 <;> by_cases h2 : x2 = y2 <;> simp [h1, h2]
theorem eql_id (x y : ID) (w : World) : (binOp .eql 28 (idv x) (idv y)).run Tryz.prog w = .ok (.bool (decide (x = y))) w := by
  have h := eqlIn_id 9998 x y w
  unfold idv at *
  rw [run_eql_struct, h]
  rfl
theorem neq_id (x y : ID) (w : World) : (binOp .neq 28 (idv x) (idv y)).run Tryz.prog w = .ok (.bool (!decide (x = y))) w := by
  have h := eqlIn_id 9998 x y w
  unfold idv at *
  rw [run_neq_struct, h]
  rfl
/-- The same, written out; beside the noughts. -/
theorem eql_idw (x y : ID) (w : World) : (binOp .eql 28 (.agg #[.int .u64 x.hi, .int .u64 x.lo]) (.agg #[.int .u64 y.hi, .int .u64 y.lo])).run Tryz.prog w = .ok (.bool (decide (x = y))) w := by
  have h := eql_id x y w
  unfold idv at h
  exact h
theorem neq_idw (x y : ID) (w : World) : (binOp .neq 28 (.agg #[.int .u64 x.hi, .int .u64 x.lo]) (.agg #[.int .u64 y.hi, .int .u64 y.lo])).run Tryz.prog w = .ok (.bool (!decide (x = y))) w := by
  have h := neq_id x y w
  unfold idv at h
  exact h
abbrev zid : ID := ⟨0, 0⟩
theorem eql_idz (x : ID) (w : World) : (binOp .eql 28 (.agg #[.int .u64 x.hi, .int .u64 x.lo]) (.agg #[.int .u64 0, .int .u64 0])).run Tryz.prog w = .ok (.bool (decide (x = zid))) w := by
  have h := eql_idw x ⟨0, 0⟩ w
  simp only at h
  exact h
theorem neq_idz (x : ID) (w : World) : (binOp .neq 28 (.agg #[.int .u64 x.hi, .int .u64 x.lo]) (.agg #[.int .u64 0, .int .u64 0])).run Tryz.prog w = .ok (.bool (!decide (x = zid))) w := by
  have h := neq_idw x ⟨0, 0⟩ w
  simp only at h
  exact h
theorem check_int {P : Program} {t : TypeId} {k : IntKind} (hu : P.underlying t = some (.int k)) (b : Bool) (n : Nat) (x : Int) (w : World) : (Instr.checkKey b (n + 1) t (.int k x)).run P w = .ok () w := by
  simp [Instr.checkKey, run_underlying hu]
theorem KeyI : Key Tryz.prog 3 (Value.int .i64) where
  chk := fun b x w => check_int Tryz.underlying3 b 9999 x w
  eq := fun x y w => by
    show (Op.equalIn 10000 _ _ _).run _ _ = _
    rw [show (10000 : Nat) = 9999 + 1 from rfl, run_equalIn_int _ _ _ _ _ _ _ Tryz.underlying3]
    rfl
  now := ⟨_, Tryz.underlying3, fun x y => .inr rfl⟩
  bits := fun x => by simp [Instr.sameBits]
theorem KeyID : Key Tryz.prog 28 idv where
  chk := fun b x w => by
    have u := Tryz.underlying28
    have z := Tryz.sizeOf23
    have u3 := Tryz.underlying23
    have p := fun cs off v h w => part_int (P := Tryz.prog) u3 cs off v h w
    have c := fun b n x w => check_int (P := Tryz.prog) u3 b n x w
    unfold idv Instr.checkKey
    simp only [Sem.run_bind, run_underlying u, Result.andThen_ok]
    simp [List.range', List.forIn_cons, p, c, z]
  eq := fun x y w => eqlIn_id 9998 x y w
  now := ⟨_, Tryz.underlying28, fun x y => .inl rfl⟩
  bits := fun x => by simp [Instr.sameBits, idv]
end Go.Proofs.YtdocgemfedohdaaGreat
