/- Words for what lies in memory: slices that are read, boxes, and what a call leaves as it was. -/
import Derived.Test.YtkccakaaklemdaaProg
import Derived.WalkKit
import Derived.WalkSpells
import Derived.WalkLawsBesides
import Derived.OneCell
import Derived.ScopeJumps
import Derived.Maps.AppendAt
import Derived.OwnWalk
import Derived.Deep.QuietTactic
import Derived.BigQuiet
import Derived.Lib.Hide
namespace Go.Proofs.Ytkccakaaklemdaa
open Go.RowKit

theorem ret_int {k : IntKind} {a b : Int} (h : a = b) : Ending.returned (.int k a) = .returned (.int k b) := by rw [h]
theorem ret_bool {a b : Bool} (h : a = b) : Ending.returned (.bool a) = .returned (.bool b) := by rw [h]
theorem pw_below_drewN {B : Nat} {w W : World} (h : Below B w W) (n : Nat) : Below B w (W.drewN n) := ⟨h.os, h.tape, h.output, h.size, h.block⟩
/-- xs lie from A on, k cells each. -/
def Rd {α : Type} (k : Nat) (enc : α → List Value) (w : World) (A : Option Addr) (xs : List α) : Prop :=
  xs.length ≤ 9223372036854775807 ∧ (xs ≠ [] → ∃ b o, A = some ⟨b, o, none⟩ ∧ b < w.heap.size ∧
    ∀ i x, xs[i]? = some x → ∀ j u, (enc x)[j]? = some u → w.cell? ⟨b, o + i * k + j, none⟩ = some u)

theorem Rd.below {α : Type} {k : Nat} {enc : α → List Value} {w W : World} {A : Option Addr} {xs : List α} (h : Rd k enc w A xs) (hb : Below w.heap.size w W) : Rd k enc W A xs := by
  refine ⟨h.1, fun hne => ?_⟩
  obtain ⟨b, o, hA, hlt, hc⟩ := h.2 hne
  exact ⟨b, o, hA, Nat.lt_of_lt_of_le hlt hb.size, fun i x hx j u hu => (hb.cell (p := ⟨b, _, none⟩) hlt).trans (hc i x hx j u hu)⟩

/-- The element at i. -/
theorem Rd.at {α : Type} {k : Nat} {enc : α → List Value} {w : World} {A : Option Addr} {xs : List α} (h : Rd k enc w A xs) {i : Nat} (hi : i < xs.length) :
    ∃ b o, A = some ⟨b, o, none⟩ ∧ b < w.heap.size ∧ ∀ j u, (enc xs[i])[j]? = some u → w.cell? ⟨b, o + i * k + j, none⟩ = some u := by
  obtain ⟨b, o, hA, hlt, hc⟩ := h.2 (by intro e; rw [e] at hi; exact absurd hi (by simp))
  exact ⟨b, o, hA, hlt, hc i xs[i] (List.getElem?_eq_getElem hi)⟩

def encU (x : Int) : List Value := [.int .u64 x]
def encI (x : Int) : List Value := [.int .i64 x]
theorem Rd.atU {w : World} {A : Option Addr} {xs : List Int} (h : Rd 1 encU w A xs) {i : Nat} (hi : i < xs.length) :
    ∃ b o, A = some ⟨b, o, none⟩ ∧ b < w.heap.size ∧ w.cell? ⟨b, o + i, none⟩ = some (.int .u64 xs[i]) := by
  obtain ⟨b, o, hA, hlt, hc⟩ := h.at hi
  exact ⟨b, o, hA, hlt, by simpa using hc 0 _ rfl⟩
theorem Rd.atI {w : World} {A : Option Addr} {xs : List Int} (h : Rd 1 encI w A xs) {i : Nat} (hi : i < xs.length) :
    ∃ b o, A = some ⟨b, o, none⟩ ∧ b < w.heap.size ∧ w.cell? ⟨b, o + i, none⟩ = some (.int .i64 xs[i]) := by
  obtain ⟨b, o, hA, hlt, hc⟩ := h.at hi
  exact ⟨b, o, hA, hlt, by simpa using hc 0 _ rfl⟩

theorem heap_alloc_get (w : World) (o : Obj) (k : Nat) : (w.alloc o).heap[k]? = if k = w.heap.size then some o else w.heap[k]? := by
  show (w.heap.push o)[k]? = _
  rw [Array.getElem?_push]

/-- What is below B, and what block row is, apart: one step of a world that is the call's own. -/
theorem below_step {B : Nat} {w W W' : World} {row : Option Nat} (h : Below B w W) (hB : B ≤ W.heap.size) (hg : W.grownBy W' row) (hr : ∀ k, row = some k → B ≤ k) : Below B w W' := h.grown hg hB hr
theorem below_call {B : Nat} {w W W' : World} (h : Below B w W) (hB : B ≤ W.heap.size) (hg : Below W.heap.size W W') : Below B w W' := h.trans (hg.mono hB)
theorem bl_blk {B : Nat} {w W : World} (h : Below B w W) {k : Nat} {o : Obj} (hk : w.heap[k]? = some o) (hlt : k < B) : W.heap[k]? = some o := (h.block k hlt).trans hk
theorem bl_own {w W : World} (h : Below w.heap.size w W) {k : Nat} {o : Obj} (hk : w.heap[k]? = some o) : W.heap[k]? = some o := (h.block k (lt_of_block hk)).trans hk
theorem grown_own {w W : World} {row : Option Nat} (h : w.grownBy W row) {k : Nat} {o : Obj} (hk : w.heap[k]? = some o) (hne : some k ≠ row) : W.heap[k]? = some o := (h.block k (lt_of_block hk) hne).trans hk
theorem blk_cell {w : World} {b : Nat} {cs : Array Value} {T : TypeId} (h : w.heap[b]? = some (.cells cs T (0, 0))) (j : Nat) : w.cell? ⟨b, j, none⟩ = cs[j]? := by simp [World.cell?, h]
theorem blk_free {w : World} {b : Nat} {cs : Array Value} {T : TypeId} (h : w.heap[b]? = some (.cells cs T (0, 0))) (j : Nat) : w.frozen? ⟨b, j, none⟩ = false := by simp [World.frozen?, h]
theorem blk1 {w : World} {b : Nat} {x : Value} {T : TypeId} (h : w.heap[b]? = some (.cells #[x] T (0, 0))) : w.cell? ⟨b, 0, none⟩ = some x ∧ w.frozen? ⟨b, 0, none⟩ = false := ⟨blk_cell h 0, blk_free h 0⟩
theorem blk2 {w : World} {b : Nat} {x y : Value} {T : TypeId} (h : w.heap[b]? = some (.cells #[x, y] T (0, 0))) : w.cell? ⟨b, 0, none⟩ = some x ∧ w.cell? ⟨b, 1, none⟩ = some y ∧ w.frozen? ⟨b, 0, none⟩ = false ∧ w.frozen? ⟨b, 1, none⟩ = false :=
  ⟨blk_cell h 0, blk_cell h 1, blk_free h 0, blk_free h 1⟩
theorem ha_at {w : World} {o : Obj} {k : Nat} (h : k = w.heap.size) : (w.alloc o).heap[k]? = some o := by rw [heap_alloc_get, if_pos h]
theorem ha_lt {w : World} {o v : Obj} {k : Nat} (h : w.heap[k]? = some v) : (w.alloc o).heap[k]? = some v := by rw [heap_alloc_get, if_neg (by have := lt_of_block h; omega), h]
theorem Rd_nil {α : Type} (k : Nat) (enc : α → List Value) (w : World) (A : Option Addr) : Rd k enc w A [] := ⟨by simp, fun h => absurd rfl h⟩
theorem Rd_blk {α : Type} {k : Nat} {enc : α → List Value} {w : World} {g : Nat} {cs : Array Value} {T : TypeId} {fr : Nat × Nat} {xs : List α} (hl : xs.length ≤ 9223372036854775807) (h : w.heap[g]? = some (.cells cs T fr))
    (hc : ∀ i x, xs[i]? = some x → ∀ j u, (enc x)[j]? = some u → cs[i * k + j]? = some u) : Rd k enc w (some ⟨g, 0, none⟩) xs :=
  ⟨hl, fun _ => ⟨g, 0, rfl, lt_of_block h, fun i x hx j u hu => by simp [World.cell?, h, hc i x hx j u hu]⟩⟩
theorem Rd_newU {w : World} {T : TypeId} {l : List Int} {cs : Array Value} {g : Nat} (hg : g = w.heap.size) (hcs : cs = (l.map (Value.int .u64)).toArray) (hl : l.length ≤ 9223372036854775807) : Rd 1 encU (w.alloc (.cells cs T)) (some ⟨g, 0, none⟩) l :=
  Rd_blk hl (ha_at hg) (fun i x hx j u hu => by
    subst hcs
    cases j with
    | zero => simp [encU] at hu; subst hu; simp [hx]
    | succ j => simp [encU] at hu)
theorem Rd_newI {w : World} {T : TypeId} {l : List Int} {cs : Array Value} {g : Nat} (hg : g = w.heap.size) (hcs : cs = (l.map (Value.int .i64)).toArray) (hl : l.length ≤ 9223372036854775807) : Rd 1 encI (w.alloc (.cells cs T)) (some ⟨g, 0, none⟩) l :=
  Rd_blk hl (ha_at hg) (fun i x hx j u hu => by
    subst hcs
    cases j with
    | zero => simp [encI] at hu; subst hu; simp [hx]
    | succ j => simp [encI] at hu)

structure ID where
  hi : Int
  lo : Int
  deriving DecidableEq
structure Blk where
  slot : Int
  frm : Int
  par : ID
  salt : Int
  deriving DecidableEq
structure Vote where
  frm : Int
  slot : Int
  head : ID
  deriving DecidableEq
def idv (x : ID) : Value := .agg #[.int .u64 x.1, .int .u64 x.2]
def encID (x : ID) : List Value := [.int .u64 x.1, .int .u64 x.2]
def encBlk (b : Blk) : List Value := [.int .i64 b.slot, .int .i64 b.frm, .int .u64 b.par.1, .int .u64 b.par.2, .int .u64 b.salt]
def encVote (v : Vote) : List Value := [.int .i64 v.frm, .int .i64 v.slot, .int .u64 v.head.1, .int .u64 v.head.2]
theorem Rd.atID {w : World} {A : Option Addr} {xs : List ID} (h : Rd 2 encID w A xs) {i : Nat} (hi : i < xs.length) :
    ∃ b o, A = some ⟨b, o, none⟩ ∧ b < w.heap.size ∧ w.cell? ⟨b, o + i * 2, none⟩ = some (.int .u64 xs[i].1) ∧ w.cell? ⟨b, o + i * 2 + 1, none⟩ = some (.int .u64 xs[i].2) := by
  obtain ⟨b, o, hA, hlt, hc⟩ := h.at hi
  exact ⟨b, o, hA, hlt, hc 0 _ rfl, hc 1 _ rfl⟩
theorem Rd.atBlk {w : World} {A : Option Addr} {xs : List Blk} (h : Rd 5 encBlk w A xs) {i : Nat} (hi : i < xs.length) :
    ∃ b o, A = some ⟨b, o, none⟩ ∧ b < w.heap.size ∧ w.cell? ⟨b, o + i * 5, none⟩ = some (.int .i64 xs[i].slot) ∧ w.cell? ⟨b, o + i * 5 + 1, none⟩ = some (.int .i64 xs[i].frm) ∧
      w.cell? ⟨b, o + i * 5 + 2, none⟩ = some (.int .u64 xs[i].par.1) ∧ w.cell? ⟨b, o + i * 5 + 3, none⟩ = some (.int .u64 xs[i].par.2) ∧ w.cell? ⟨b, o + i * 5 + 4, none⟩ = some (.int .u64 xs[i].salt) := by
  obtain ⟨b, o, hA, hlt, hc⟩ := h.at hi
  exact ⟨b, o, hA, hlt, hc 0 _ rfl, hc 1 _ rfl, hc 2 _ rfl, hc 3 _ rfl, hc 4 _ rfl⟩
theorem Rd.atVote {w : World} {A : Option Addr} {xs : List Vote} (h : Rd 4 encVote w A xs) {i : Nat} (hi : i < xs.length) :
    ∃ b o, A = some ⟨b, o, none⟩ ∧ b < w.heap.size ∧ w.cell? ⟨b, o + i * 4, none⟩ = some (.int .i64 xs[i].frm) ∧ w.cell? ⟨b, o + i * 4 + 1, none⟩ = some (.int .i64 xs[i].slot) ∧
      w.cell? ⟨b, o + i * 4 + 2, none⟩ = some (.int .u64 xs[i].head.1) ∧ w.cell? ⟨b, o + i * 4 + 3, none⟩ = some (.int .u64 xs[i].head.2) := by
  obtain ⟨b, o, hA, hlt, hc⟩ := h.at hi
  exact ⟨b, o, hA, hlt, hc 0 _ rfl, hc 1 _ rfl, hc 2 _ rfl, hc 3 _ rfl⟩
/-- A slice of the call's own, from block 'base' on, that holds xs. -/
def Own {α : Type} (w : World) (base : Nat) (e : TypeId) (k : Nat) (enc : α → List Value) (v : Value) (xs : List α) : Prop := w.ownsRow base e k v xs.length (xs.flatMap enc)
theorem flatMap_get {α : Type} {k : Nat} {enc : α → List Value} (hk : ∀ x, (enc x).length = k) : ∀ (xs : List α) (i : Nat) (x : α), xs[i]? = some x → ∀ j u, (enc x)[j]? = some u → (xs.flatMap enc)[i * k + j]? = some u
  | [], i, x, h, _, _, _ => by simp at h
  | y :: xs, 0, x, h, j, u, hu => by
    simp only [List.getElem?_cons_zero, Option.some.injEq] at h
    subst h
    have hj : j < (enc y).length := (List.getElem?_eq_some_iff.1 hu).1
    simp only [List.flatMap_cons, Nat.zero_mul, Nat.zero_add]
    rw [List.getElem?_append_left hj, hu]
  | y :: xs, i + 1, x, h, j, u, hu => by
    simp only [List.getElem?_cons_succ] at h
    simp only [List.flatMap_cons]
    rw [List.getElem?_append_right (by rw [hk, Nat.succ_mul]; omega), hk, show (i + 1) * k + j - k = i * k + j by rw [Nat.succ_mul]; omega]
    exact flatMap_get hk xs i x h j u hu
theorem Own.rd {α : Type} {w : World} {base : Nat} {e : TypeId} {k : Nat} {enc : α → List Value} {v : Value} {xs : List α} (hk : ∀ x, (enc x).length = k) (h : Own w base e k enc v xs) : ∃ A c, v = .slice A xs.length c ∧ Rd k enc w A xs := by
  have h' := h
  obtain ⟨h1, h2⟩ := h
  rcases h2 with ⟨rfl, h0⟩ | ⟨g, cap, cur, rfl, hb, hh, hle, hm, hs, ht⟩
  · obtain rfl := List.eq_nil_of_length_eq_zero h0
    exact ⟨none, 0, rfl, Rd_nil _ _ _ _⟩
  · refine ⟨_, cap, rfl, Rd_blk (by unfold maxLen at hm; omega) hh (fun i x hx j u hu => ?_)⟩
    have hg := flatMap_get hk xs i x hx j u hu
    rw [← ht] at hg
    have := List.getElem?_take_of_lt (l := cur.toList) (i := i * k + j) (j := xs.length * k) (by
      have := (List.getElem?_eq_some_iff.1 hg).1
      rw [List.length_take] at this
      omega)
    rw [this] at hg
    simpa using hg
theorem Own.rdc {α : Type} {w : World} {base : Nat} {e : TypeId} {k : Nat} {enc : α → List Value} {v : Value} {xs : List α} (hk : ∀ x, (enc x).length = k) (h : Own w base e k enc v xs) : ∃ A c, v = .slice A xs.length c ∧ xs.length ≤ c ∧ Rd k enc w A xs := by
  obtain ⟨A, c, rfl, hr⟩ := h.rd hk
  refine ⟨A, c, rfl, ?_, hr⟩
  obtain ⟨h1, h2⟩ := h
  rcases h2 with ⟨he, h0⟩ | ⟨g, cap, cur, he, hb, hh, hle, _⟩
  · rw [h0]; exact Nat.zero_le _
  · cases he; exact hle
theorem Rd.take {α : Type} {k : Nat} {enc : α → List Value} {w : World} {A : Option Addr} {xs : List α} (h : Rd k enc w A xs) (n : Nat) : Rd k enc w A (xs.take n) := by
  refine ⟨by have := h.1; simp; omega, fun hne => ?_⟩
  obtain ⟨b, o, hA, hlt, hc⟩ := h.2 (fun e => hne (by rw [e]; simp))
  refine ⟨b, o, hA, hlt, fun i x hx => hc i x ?_⟩
  rw [List.getElem?_take] at hx
  split at hx
  · exact hx
  · cases hx
theorem Own.nil {α : Type} (w : World) (base : Nat) (e : TypeId) (k : Nat) (enc : α → List Value) : Own w base e k enc (.slice none 0 0) ([] : List α) := World.ownsRow_nil w base e k
theorem Own.below {α : Type} {w W : World} {base : Nat} {e : TypeId} {k : Nat} {enc : α → List Value} {v : Value} {xs : List α} (h : Own w base e k enc v xs) (hb : Below w.heap.size w W) : Own W base e k enc v xs := by
  obtain ⟨h1, h2⟩ := h
  refine ⟨h1, ?_⟩
  rcases h2 with h2 | ⟨g, cap, cur, hv, hg, hh, r⟩
  · exact .inl h2
  · exact .inr ⟨g, cap, cur, hv, hg, bl_own hb hh, r⟩
theorem Own.grown {α : Type} {w W : World} {base : Nat} {e : TypeId} {k : Nat} {enc : α → List Value} {v : Value} {xs : List α} {row : Option Nat} (h : Own w base e k enc v xs) (hg : w.grownBy W row) (hne : row = none ∨ v.ownBlock ≠ row) : Own W base e k enc v xs := by
  obtain ⟨h1, h2⟩ := h
  refine ⟨h1, ?_⟩
  rcases h2 with h2 | ⟨g, cap, cur, rfl, hgb, hh, r⟩
  · exact .inl h2
  · refine .inr ⟨g, cap, cur, rfl, hgb, grown_own hg hh ?_, r⟩
    rcases hne with e | e
    · rw [e]; simp
    · simpa [Value.ownBlock] using e
theorem Own.mono {α : Type} {w : World} {base base' : Nat} {e : TypeId} {k : Nat} {enc : α → List Value} {v : Value} {xs : List α} (h : Own w base e k enc v xs) (hb : base' ≤ base) : Own w base' e k enc v xs := by
  obtain ⟨h1, h2⟩ := h
  refine ⟨h1, ?_⟩
  rcases h2 with h2 | ⟨g, cap, cur, hv, hg, hh, r⟩
  · exact .inl h2
  · exact .inr ⟨g, cap, cur, hv, Nat.le_trans hb hg, hh, r⟩
/-- What an owned slice's block is: not below 'base'. -/
theorem Own.base {α : Type} {w : World} {base : Nat} {e : TypeId} {k : Nat} {enc : α → List Value} {v : Value} {xs : List α} (h : Own w base e k enc v xs) (j : Nat) (hj : v.ownBlock = some j) : base ≤ j ∧ j < w.heap.size := World.ownsRow.lt h j hj
section
variable {P : Program} {ops : Array Oper} {rest : List Oper} {o : Oper} {a : Act} {Q : Exit → Act → World → Prop} {α : Type}
/-- 'append(s, y)': y laid just ahead. -/
theorem wp_append1 {enc : α → List Value} {k base : Nat} {w : World} (hgd : o.guard = none) {s x : Operand} {t e : TypeId} (ho : o.op = .call { callee := .builtin .append, args := #[s, x], argTypes := #[t, t] })
    (ht : P.underlying t = some (.slice e)) {z : Value} {bytes : Nat} (hinfo : (P.info? e).map (fun i => (i.zero, i.size, i.bytes)) = some (some z, k, bytes)) (hz : z.cells.size = k) (hk0 : 0 < k) (hk : ∀ x, (enc x).length = k) (h1 : ∀ x, ∀ u ∈ enc x, u.oneCell' = true)
    {v : Value} {xs : List α} (hs : a.eval s = v) (hown : Own w base e k enc v xs) {g : Nat} {c : Nat} (hx : a.eval x = .slice (some ⟨g, 0, none⟩) 1 c) {y : α} {cs : Array Value} {T : TypeId} (hg : w.heap[g]? = some (.cells cs T (0, 0))) (hcs : cs = (enc y).toArray)
    (hb : (xs.length + 1) * bytes ≤ 140737488355328) (hl : xs.length + 1 ≤ maxLen) (hbase : base ≤ w.heap.size)
    (h : ∀ v' w', Own w' base e k enc v' (xs ++ [y]) → w.grownBy w' v.ownBlock → (v'.ownBlock = v.ownBlock ∨ v'.ownBlock = some w.heap.size) → wpList P ops Q rest (a.put o.dst v') w') : wpList P ops Q (o :: rest) a w := by
  obtain ⟨i0, hi, hz0, hz1, hz2⟩ := info_parts hinfo
  subst hcs
  refine wpList_append_own_at (w := w) hgd s x t ho base e i0 z k bytes ht hi hz0 hz1 hz2 hz hk0 v xs.length _ hs hown ⟨g, 0, none⟩ 1 c (enc y) hx (by rw [hk]; omega) (fun j u hu => ?_) (h1 y) hl hb hbase (fun v' w' h2 h3 _ h4 => h v' w' ?_ h3 h4)
  · have e1 : (⟨g, 0, none⟩ : Addr).add j = ⟨g, j, none⟩ := by unfold Addr.add; split <;> simp_all
    rw [e1, blk_cell hg]
    simpa using hu
  · show w'.ownsRow _ _ _ _ _ _
    rw [List.length_append, List.flatMap_append]
    simpa using h2
end
theorem grown_set (w : World) (p : Addr) (u : Value) : w.grownBy (w.setCell p u) (some p.block) := ⟨rfl, rfl, rfl, by simp [World.setCell], fun k _ hne => heap_setCell_other w p k u (fun e => hne (by rw [e]))⟩
theorem grown_trans {w w1 w2 : World} {row : Option Nat} (h1 : w.grownBy w1 row) (h2 : w1.grownBy w2 row) : w.grownBy w2 row :=
  ⟨h2.os.trans h1.os, h2.tape.trans h1.tape, h2.output.trans h1.output, Nat.le_trans h1.size h2.size, fun k hk hne => (h2.block k (Nat.lt_of_lt_of_le hk h1.size) hne).trans (h1.block k hk hne)⟩
theorem set2 {w : World} {b : Nat} {x y : Value} {T : TypeId} (h : w.heap[b]? = some (.cells #[x, y] T (0, 0))) (u v : Value) :
    ((w.setCell ⟨b, 0, none⟩ u).setCell ⟨b, 1, none⟩ v).heap[b]? = some (.cells #[u, v] T (0, 0)) ∧ w.grownBy ((w.setCell ⟨b, 0, none⟩ u).setCell ⟨b, 1, none⟩ v) (some b) := by
  refine ⟨?_, grown_trans (grown_set _ _ _) (grown_set _ _ _)⟩
  rw [heap_setCell_same _ _ _ _ _ _ (heap_setCell_same _ _ _ _ _ _ h)]
  rfl
def lenV : Value → Nat | .slice _ n _ => n | _ => 0
/-- A scope whose run jumps back to one label: the part behind the label, walked once. -/
theorem wp_scope_loop {P : Program} {a : Act} {w : World} {Q : Exit → Act → World → Prop} {c B : Code} (l : Nat) (J : Act → World → Prop) (μ : Act → World → Nat) (hf : findLabel c l = some (.seq .skip B))
    (pass : ∀ a w, J a w → B.wp P (Exit.jump l (fun a' w' => J a' w' ∧ μ a' w' < μ a w) Q) a w)
    (first : (∀ a w, J a w → B.wp P (Exit.jump l J Q) a w) → c.wp P (Exit.jump l J Q) a w) : (Code.scope c).wp P Q a w := by
  refine wp_scope_jumps l J μ hf (first fun a w h => ?_) fun a w h => ?_
  · refine Code.wp_mono (fun e a' w' hq => ?_) (pass a w h)
    cases e <;> first | exact ⟨hq.1, hq.2.1⟩ | exact hq
  · exact wp_seq (wp_skip (pass a w h))
theorem below_drew0 (w : World) : Below w.heap.size w { w with drawn := w.drawn + 1 } := ⟨rfl, rfl, rfl, Nat.le_refl _, fun _ _ => rfl⟩
/-- How far a world has grown: the draws, the new blocks. -/
structure GB where
  d : Nat
  os : Array Obj
  deriving Inhabited
def gr (w : World) (p : GB) : World := { w with heap := w.heap ++ p.os, drawn := p.d }
theorem gr_below (w : World) (p : GB) : Below w.heap.size w (gr w p) :=
  ⟨rfl, rfl, rfl, by simp [gr], fun k hk => by show (w.heap ++ p.os)[k]? = _; rw [Array.getElem?_append_left hk]⟩
theorem gr_of_below {w W : World} (h : Below w.heap.size w W) : ∃ p, W = gr w p := by
  refine ⟨⟨W.drawn, W.heap.extract w.heap.size W.heap.size⟩, ?_⟩
  obtain ⟨h1, h2, h3, h4, h5⟩ := h
  obtain ⟨heap, tape, drawn, os, output⟩ := W
  simp only at h1 h2 h3 h4 h5 ⊢
  unfold gr
  simp only [World.mk.injEq]
  refine ⟨?_, h2, trivial, h1, h3⟩
  apply Array.ext_getElem?
  intro k
  by_cases hk : k < w.heap.size
  · rw [Array.getElem?_append_left hk, h5 k hk]
  · rw [Array.getElem?_append_right (by omega)]
    by_cases hk2 : k < heap.size
    · rw [Array.getElem?_extract]
      rw [if_pos (by omega)]
      congr 1
      omega
    · rw [Array.getElem?_eq_none (by omega), Array.getElem?_eq_none (by simp; omega)]
theorem gr_cell {w : World} {a : Addr} {v : Value} (h : w.cell? a = some v) (p : GB) : (gr w p).cell? a = some v := ((gr_below w p).cell (World.block_lt_of_cell? w a h)).trans h
theorem gr_blk {w : World} {k : Nat} {o : Obj} (h : w.heap[k]? = some o) (p : GB) : (gr w p).heap[k]? = some o := bl_own (gr_below w p) h
theorem Calls.gr_of {P : Program} {f : FuncId} {args : Array Value} {w : World} {p : GB} {v : Value}
    (h : Calls P f args (gr w p) fun e w' => e = .returned v ∧ Below (gr w p).heap.size (gr w p) w') : Calls P f args (gr w p) fun e w'' => e = .returned v ∧ ∃ q : GB, w'' = gr w q :=
  h.mono fun _ _ ⟨he, hb⟩ => ⟨he, gr_of_below ((gr_below w p).trans (hb.mono (gr_below w p).size))⟩
/-- A region that draws its order, reads, and calls what only grows memory. -/
theorem wp_region_gr {P : Program} {id : Nat} {Q : Exit → Act → World → Prop} {a : Act} {w : World} {l : List Oper} (hm : P.follows .mixedOrders = true) (hB : Region.lexB .any l.toArray = true)
    (h : wpQuiet P l.toArray (fun w' => ∃ p : GB, w' = gr w p) (fun a' => ∀ w', (∃ p : GB, w' = gr w p) → Q .normal a' w') l a) : (Code.region id l.toArray true).wp P Q a w :=
  wp_region_quiet (C := fun w' => ∃ p : GB, w' = gr w p) hm hB (gr_of_below (below_drew0 w)) (by simpa using h)
end Go.Proofs.Ytkccakaaklemdaa
