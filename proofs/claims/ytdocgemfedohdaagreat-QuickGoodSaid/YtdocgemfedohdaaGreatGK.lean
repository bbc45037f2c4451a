/- GK: several texts in one. -/
import Derived.Shelf.SlIter.Collect
import Derived.RangeFuncNested
import Derived.RangeFuncBound
import Derived.RangeFuncCalls
import Derived.RangeFuncLeaves
import Derived.Shelf.Abstract
import Derived.Shelf.RegionOpen
import Derived.WalkKit
import Derived.OwnWalkIn
import Derived.TacticsInMore
import Derived.LoopNIn
import Derived.LoopIn
import Derived.Sort.MapsRangeIn
import Derived.Test.YtdocgemfedohdaaGreatGJ
import Derived.Test.YtdocgemfedohdaaGreatGI
import Derived.Deep.RegionHeld3
/-! maps.Values's iterator over a map of votes, and slices.AppendSeq over it. -/
namespace Go.Proofs.YtdocgemfedohdaaGreat
open Go.RowKit Go.Shelf Go.ChangeMaps Go.MapKept
section
variable {κ ν : Type} [DecidableEq κ] {ek : κ → Value} {ev : ν → Value} {F : Fence} {n : Nat} {P : Program} {ops : Array Oper} {rest : List Oper} {o : Oper} {a : Act} {Q : Exit → Act → World → Prop}
theorem wpi_range (hg : o.guard = none) {mo : Operand} {MT kt et : TypeId} (hop : o.op = Op.range MT mo) (ht : P.underlying MT = some (.map kt et)) {w : World} {B : Nat} (hm : a.eval mo = .map (some B)) {m : List (κ × ν)} (hM : MapIs ek ev w B m) {r : Nat} (hr : w.heap.size = r)
    (hK : ∀ w', RIs ek ev w' B r m [] → Below w.heap.size w w' → w'.heap.size = w.heap.size + 1 → wpListIn F n P ops Q rest (a.put o.dst (.pointer (some ⟨r, 0, none⟩))) w') : wpListIn F n P ops Q (o :: rest) a w := by
  subst hr
  refine wpListIn_plain hg fun K' hK' => ?_
  obtain ⟨w', hrun, r1, r2, r3⟩ := range_run ht hM
  unfold Oper.wpIn
  refine ⟨by simp [Oper.about, hop], ?_⟩
  rw [Oper.semAt_plain F _ _ (by rw [hop]; intro c hc'; cases hc')]
  simp [execOp, hop, hm, hrun, Result.andThen]
  exact hK' _ _ (hK w' r1 r2 r3)
theorem wpi_next (hg : o.guard = none) {it : Operand} (hop : o.op = Op.next it false) {w : World} {B r : Nat} {m : List (κ × ν)} {came : List κ} (hit : a.eval it = .pointer (some ⟨r, 0, none⟩)) (h : RIs ek ev w B r m came)
    (hDone : Hid (∀ p ∈ m, p.1 ∈ came) → wpListIn F n P ops Q rest (a.put o.dst (.tuple #[.bool false])) w)
    (hMore : ∀ (x : κ) (v : ν) (w' : World), Came ek ev w w' B r m came x v → (Instr.entry (.pointer (some ⟨r, 0, none⟩))).run P w' = .ok (.tuple #[ek x, ev v]) w' → wpListIn F n P ops Q rest (a.put o.dst (.tuple #[.bool true, ek x, ev v])) w') : wpListIn F n P ops Q (o :: rest) a w := by
  refine wpListIn_plain hg fun K' hK' => ?_
  unfold Oper.wpIn
  refine ⟨by simp [Oper.about, hop], ?_⟩
  rw [Oper.semAt_plain F _ _ (by rw [hop]; intro c hc'; cases hc')]
  rcases next_run (P := P) h o.type with ⟨h0, hrun⟩ | ⟨x, v, w', h1, h2, hrun, h3, h4, h5, h6, h7⟩
  · simp [execOp, hop, hit, hrun, Result.andThen]
    exact hK' _ _ (hDone (Lib.hid h0))
  · simp [execOp, hop, hit, hrun, Result.andThen]
    exact hK' _ _ (hMore x v w' ⟨h1, h2, h3, h4, h5, h6⟩ h7)
theorem RIs.of_walks {w w' : World} {B r : Nat} {m : List (κ × ν)} {came : List κ} (h : RIs ek ev w B r m came) (hk : KeepsWalks w w') : RIs ek ev w' B r m came ∧ w'.rangeLeft B r = w.rangeLeft B r := by
  have h' := h
  obtain ⟨es, clk, since, seen, c0, hb, _, _, _, _, hr, _⟩ := h
  exact h'.same ((hk.same B _ hb rfl).trans hb.symm) ((hk.same r _ hr rfl).trans hr.symm)
/-- What has come of a map. -/
def PartM (m : List (κ × ν)) (came : List κ) (ys : List ν) : Prop := ∃ ps : List (κ × ν), came = ps.map (·.1) ∧ ys = ps.reverse.map (·.2) ∧ (∀ p ∈ ps, p ∈ m) ∧ (ps.map (·.1)).Nodup
omit [DecidableEq κ] in
theorem part_nil (m : List (κ × ν)) : PartM m [] [] := ⟨[], rfl, rfl, by simp, List.nodup_nil⟩
omit [DecidableEq κ] in
theorem part_step {m : List (κ × ν)} {came : List κ} {ys : List ν} (h : PartM m came ys) {x : κ} {v : ν} (hm : (x, v) ∈ m) (hx : x ∉ came) : PartM m (x :: came) (ys ++ [v]) := by
  obtain ⟨ps, rfl, rfl, h3, h4⟩ := h
  refine ⟨(x, v) :: ps, rfl, by simp, fun p hp => ?_, List.nodup_cons.2 ⟨hx, h4⟩⟩
  rcases List.mem_cons.1 hp with rfl | hp
  · exact hm
  · exact h3 p hp
theorem part_lt {m : List (κ × ν)} {came : List κ} {ys : List ν} (h : PartM m came ys) {x : κ} {v : ν} (hm : (x, v) ∈ m) (hx : x ∉ came) : ys.length < m.length := by
  obtain ⟨ps, rfl, rfl, h3, h4⟩ := h
  have := nodup_sub_len (l := x :: ps.map (·.1)) (m := m.map (·.1)) (List.nodup_cons.2 ⟨hx, h4⟩) (fun y hy => by
    rcases List.mem_cons.1 hy with rfl | hy
    · exact List.mem_map_of_mem hm
    · obtain ⟨p, hp, rfl⟩ := List.mem_map.1 hy
      exact List.mem_map_of_mem (h3 p hp))
  simp at this ⊢
  omega
theorem nodup_of_map {α β : Type} (f : α → β) : ∀ {l : List α}, (l.map f).Nodup → l.Nodup
  | [], _ => List.nodup_nil
  | a :: l, h => by
    simp only [List.map_cons, List.nodup_cons] at h
    exact List.nodup_cons.2 ⟨fun ha => h.1 (List.mem_map_of_mem ha), nodup_of_map f h.2⟩
omit [DecidableEq κ] in
theorem key_inj {m : List (κ × ν)} (hm : (m.map (·.1)).Nodup) {p q : κ × ν} (hp : p ∈ m) (hq : q ∈ m) (h : p.1 = q.1) : p = q := by
  obtain ⟨i, hi, rfl⟩ := List.getElem_of_mem hp
  obtain ⟨j, hj, rfl⟩ := List.getElem_of_mem hq
  have : i = j := (List.getElem?_inj (by simpa using hi) hm).1 (by simp [hi, hj, h])
  subst this
  rfl
omit [DecidableEq κ] in
theorem part_all {m : List (κ × ν)} (hm : (m.map (·.1)).Nodup) {came : List κ} {ys : List ν} (h : PartM m came ys) (hall : ∀ p ∈ m, p.1 ∈ came) : ys.Perm (m.map (·.2)) := by
  obtain ⟨ps, rfl, rfl, h3, h4⟩ := h
  have : ps.Perm m := (List.perm_ext_iff_of_nodup (nodup_of_map _ h4) (nodup_of_map _ hm)).2 fun p => ⟨h3 p, fun hp => by
    obtain ⟨q, hq, e⟩ := List.mem_map.1 (hall p hp)
    rw [← key_inj hm (h3 q hq) hp e]; exact hq⟩
  exact ((List.reverse_perm ps).trans this).map _
end
theorem gb_none {w w' : World} (h : Below w.heap.size w w') (row : Option Nat) : w.grownBy w' row := ⟨h.os, h.tape, h.output, h.size, fun k hk _ => h.block k hk⟩
theorem ris_walk {κ ν : Type} [DecidableEq κ] {ek : κ → Value} {ev : ν → Value} {w : World} {B r : Nat} {m : List (κ × ν)} {came : List κ} (h : RIs ek ev w B r m came) : ∃ o : Obj, w.heap[r]? = some o ∧ o.isWalk = true := by
  obtain ⟨es, clk, since, seen, c0, hb, _, _, _, _, hr, _⟩ := h
  exact ⟨_, hr, rfl⟩
section
variable {F : Fence} {n : Nat} {P : Program} {ops : Array Oper} {rest : List Oper} {o : Oper} {a : Act} {Q : Exit → Act → World → Prop} {α : Type}
theorem wpi_append1 {enc : α → List Value} {k base : Nat} {w : World} (hgd : o.guard = none) {s x : Operand} {t e : TypeId} (ho : o.op = .call { callee := .builtin .append, args := #[s, x], argTypes := #[t, t] })
    (ht : P.underlying t = some (.slice e)) {z : Value} {bytes : Nat} (hinfo : (P.info? e).map (fun i => (i.zero, i.size, i.bytes)) = some (some z, k, bytes)) (hz : z.cells.size = k) (hk0 : 0 < k) (hk : ∀ x, (enc x).length = k) (h1 : ∀ x, ∀ u ∈ enc x, u.oneCell' = true)
    {v : Value} {xs : List α} (hs : a.eval s = v) (hown : Own w base e k enc v xs) {g : Nat} {c : Nat} (hx : a.eval x = .slice (some ⟨g, 0, none⟩) 1 c) {y : α} {cs : Array Value} {T : TypeId} (hg : w.heap[g]? = some (.cells cs T (0, 0))) (hcs : cs = (enc y).toArray)
    (hb : (xs.length + 1) * bytes ≤ 140737488355328) (hl : xs.length + 1 ≤ maxLen) (hbase : base ≤ w.heap.size)
    (h : ∀ v' w', Own w' base e k enc v' (xs ++ [y]) → w.grownBy w' v.ownBlock → wpListIn F n P ops Q rest (a.put o.dst v') w') : wpListIn F n P ops Q (o :: rest) a w := by
  obtain ⟨i0, hi, hz0, hz1, hz2⟩ := info_parts hinfo
  subst hcs
  refine wpListIn_append_own w hgd s x t ho base e i0 z k bytes ht hi hz0 hz1 hz2 hz hk0 v xs.length _ hs hown ⟨g, 0, none⟩ 1 c (enc y) hx (by rw [hk]; omega) (fun j u hu => ?_) (h1 y) hl hb hbase (fun v' w' h2 h3 _ => h v' w' ?_ h3)
  · have e1 : (⟨g, 0, none⟩ : Addr).add j = ⟨g, j, none⟩ := by unfold Addr.add; split <;> simp_all
    rw [e1, blk_cell hg]
    simpa using hu
  · show w'.ownsRow _ _ _ _ _ _
    rw [List.length_append, List.flatMap_append]
    simpa using h2
end
def apAssign : Code := (Code.region 2 #[{ dst := some 5, op := Op.alloc 37, type := 0, pos := "iter.go:51", after := #[], guard := none }, { dst := none, op := Op.store 37 (Operand.tmp 5) (Operand.tmp 7), type := 0, pos := "iter.go:51", after := #[{ on := 0, ground := Ground.data }, { on := 0, ground := Ground.phase }], guard := none }] false)
def apBody : Code := (Code.block 1 (Code.region 3 #[{ dst := some 8, op := Op.load 35 (Operand.tmp 2), type := 35, pos := "iter.go:52", after := #[], guard := none }, { dst := some 9, op := Op.load 37 (Operand.tmp 5), type := 37, pos := "iter.go:52", after := #[], guard := none }, { dst := some 10, op := Op.buildSlice 35 1 #[(0, Operand.tmp 9)], type := 35, pos := "iter.go:52", after := #[{ on := 1, ground := Ground.data }], guard := none }, { dst := some 11, op := Op.call { callee := Callee.builtin Builtin.append, args := #[Operand.tmp 8, Operand.tmp 10], argTypes := #[35, 35] }, type := 35, pos := "iter.go:52", after := #[{ on := 0, ground := Ground.data }, { on := 2, ground := Ground.data }], guard := none }, { dst := none, op := Op.store 35 (Operand.tmp 2) (Operand.tmp 11), type := 0, pos := "iter.go:52", after := #[{ on := 3, ground := Ground.data }, { on := 3, ground := Ground.chain }, { on := 0, ground := Ground.phase }, { on := 1, ground := Ground.phase }, { on := 2, ground := Ground.phase }, { on := 3, ground := Ground.phase }], guard := none }] false))
def apRec (fn : FuncId) (s0 sv : Value) (Bs D : Nat) (st : LoopState) (pend : Option Code) : Loop :=
  { state := st, pending := pend, fn, tmps := #[s0, sv, .pointer (some ⟨Bs, 0, none⟩), undef, .slice none 0 0, undef, sv, undef, undef, undef, undef, undef, undef], params := #[7], assign := apAssign, body := apBody, defers := D }
/-- Between two rounds. -/
structure ApAt (base : Nat) (w0 : World) (fn : FuncId) (s0 sv : Value) (Bs l D : Nat) (ss : List Vote) (W : World) : Prop where
  box : ∃ v, W.heap[Bs]? = some (.cells #[v] 35 (0, 0)) ∧ Own W base 37 4 encVote v ss
  L : W.heap[l]? = some (.loop (apRec fn s0 sv Bs D .ready none))
  K : W.heap[D]? = some (.deferred (some []))
  below : Below base w0 W
theorem own_ne {W : World} {base : Nat} {v : Value} {ss : List Vote} (h : Own W base 37 4 encVote v ss) {j : Nat} {o : Obj} (hj : W.heap[j]? = some o) (hno : ∀ cur, o ≠ .cells cur 37 (0, 0)) : v.ownBlock = none ∨ v.ownBlock ≠ some j := ownsRow_ne_a h hj hno
theorem own_ne2 {W : World} {base : Nat} {v : Value} {ss : List Vote} (h : Own W base 37 4 encVote v ss) {j : Nat} {o : Obj} (hj : W.heap[j]? = some o) (hno : ∀ cur, o ≠ .cells cur 37 (0, 0)) : some j ≠ v.ownBlock := by
  rcases own_ne h hj hno with e | e
  · rw [e]; simp
  · exact fun e' => e e'.symm
theorem ap_abides (base : Nat) (w0 : World) (fn : FuncId) (s0 sv : Value) (Bs l D B : Nat) (hb0 : base ≤ w0.heap.size) (hB : w0.heap.size ≤ B) : AbidesFrom B (ApAt base w0 fn s0 sv Bs l D) := fun s W W' row h hg hrow => by
  have hrow' : ∀ r, row = some r → ∃ o : Obj, W.heap[r]? = some o ∧ o.isWalk = true := fun r e => (hrow r e).2
  obtain ⟨v, hv, hr⟩ := h.box
  exact ⟨⟨v, (grownBy_keeps hg hrow' hv rfl).trans hv, ownsRow_abides_a hr hg hrow'⟩, (grownBy_keeps hg hrow' h.L rfl).trans h.L, (grownBy_keeps hg hrow' h.K rfl).trans h.K,
    h.below.grown hg (Nat.le_trans hb0 h.below.size) (fun k e => Nat.le_trans hb0 (Nat.le_trans hB (hrow k e).1))⟩
theorem vlay (w : World) (x : Vote) : Below w.heap.size w (w.alloc (.cells #[.int .i64 x.frm, .int .i64 x.slot, .int .u64 x.head.hi, .int .u64 x.head.lo] 37)) ∧ (w.alloc (.cells #[.int .i64 x.frm, .int .i64 x.slot, .int .u64 x.head.hi, .int .u64 x.head.lo] 37)).heap[w.heap.size]? = some (.cells #[.int .i64 x.frm, .int .i64 x.slot, .int .u64 x.head.hi, .int .u64 x.head.lo] 37 (0, 0)) :=
  ⟨(Below.refl _ w).alloc (Nat.le_refl _) _, ha_at rfl⟩
set_option maxRecDepth 100000 in
set_option maxHeartbeats 2000000 in
theorem ap_yield (F : Fence) (m base : Nat) (w0 : World) (fn : FuncId) (hfn : F.fn fn) (s0 sv : Value) (Bs l D : Nat) (hBl : Bs ≠ l) (hDl : D ≠ l) (hDB : D ≠ Bs) (hb0 : base ≤ w0.heap.size) (h0B : w0.heap.size ≤ Bs) (h0l : w0.heap.size ≤ l)
    (ss : List Vote) (x : Vote) (W : World) (h : ApAt base w0 fn s0 sv Bs l D ss W) (hlen : ss.length < 100000) :
    YieldAt F m Tryz.prog l #[votev x] W fun e W' => e = .returned (.bool true) ∧ ApAt base w0 fn s0 sv Bs l D (ss ++ [x]) W' ∧ KeepsWalks W W' := by
  have hun := Tryz.underlying35
  obtain ⟨v, hv, hrow⟩ := h.box
  refine ⟨fn, #[s0, sv, .pointer (some ⟨Bs, 0, none⟩), undef, .slice none 0 0, undef, sv, votev x, undef, undef, undef, undef, undef], apAssign, apBody, by simpa [apRec] using run_yield (P := Tryz.prog) (args := #[votev x]) h.L rfl, roundIn_of_wpIn hfn ?_⟩
  have hl : l < W.heap.size := (Array.getElem?_eq_some_iff.1 h.L).1
  obtain ⟨W1, hW1⟩ : ∃ W1, W.alloc (.cells #[.int .i64 x.frm, .int .i64 x.slot, .int .u64 x.head.hi, .int .u64 x.head.lo] 37) = W1 := ⟨_, rfl⟩
  have hB1 : Below W.heap.size W W1 := by subst hW1; exact (Below.refl _ W).alloc (Nat.le_refl _) _
  have x1 : W1.heap[W.heap.size]? = some (.cells #[.int .i64 x.frm, .int .i64 x.slot, .int .u64 x.head.hi, .int .u64 x.head.lo] 37 (0, 0)) := by subst hW1; exact ha_at rfl
  have hk1 : KeepsWalks W W1 := by subst hW1; exact KeepsWalks.alloc _ _
  have hL1 := bl_own hB1 h.L
  have hK1 := bl_own hB1 h.K
  have hv1 := bl_own hB1 hv
  have hrow1 : Own W1 base 37 4 encVote v ss := hrow.below hB1
  have hBW := h.below.size
  have hbr := run_beginRound (P := Tryz.prog) hL1 rfl
  obtain ⟨W2, hW2⟩ : ∃ W2, W1.putObj l (.loop { apRec fn s0 sv Bs D .ready none with state := .busy }) = W2 := ⟨_, rfl⟩
  rw [hW2] at hbr
  have hg2 : W1.grownBy W2 (some l) := by rw [← hW2]; exact grownBy_putObj_a _ _ _
  have hk2 : KeepsWalks W1 W2 := by rw [← hW2]; exact KeepsWalks.putObj _ hL1 rfl
  have hv2 := grown_own hg2 hv1 (fun e => hBl (Option.some.inj e))
  have hK2 := grown_own hg2 hK1 (fun e => hDl (Option.some.inj e))
  have x2 := grown_own hg2 x1 (fun e => by have := Option.some.inj e; omega)
  have hL2 : W2.heap[l]? = some (.loop { apRec fn s0 sv Bs D .ready none with state := .busy }) := by rw [← hW2]; exact World.putObj_heap_same (by have := hB1.size; omega)
  have hrow2 : Own W2 base 37 4 encVote v ss := hrow1.grown hg2 (.inr (fun e => own_ne2 hrow1 hL1 (fun cur e => by cases e) e.symm))
  have hb1 : Below base w0 W1 := h.below.grown (gb_none hB1 none) (by omega) (fun k e => by cases e)
  have hb2 : Below base w0 W2 := hb1.grown hg2 (by have := hB1.size; omega) (fun k e => by cases e; omega)
  obtain ⟨hc2, hf2⟩ := cell_of_box_a hv2
  obtain ⟨d0, d1, d2, d3⟩ := blk4 x2
  have hs2 := hb2.size
  have hbw := vlay W2 x
  have hB3 := hbw.1
  have x3 := hbw.2
  have hk3 : KeepsWalks W2 (W2.alloc (.cells #[.int .i64 x.frm, .int .i64 x.slot, .int .u64 x.head.hi, .int .u64 x.head.lo] 37)) := KeepsWalks.alloc _ _
  have hrow3 := hrow2.below hB3
  have hv3 := bl_own hB3 hv2
  have hL3 := bl_own hB3 hL2
  have hK3 := bl_own hB3 hK2
  have hb3 := hb2.grown (gb_none hB3 none) (by omega) (fun k e => by cases e)
  have hs3 := hb3.size
  clear hbw
  clear hW2
  unfold apAssign votev
  gi_wp2_with gi_round_op_a
  unfold apBody
  gi_wp2_with (first
    | (gi_at_builtin; refine wpi_append1 rfl rfl hun infoV rfl (by decide) encVote_len encVote_one rfl hrow3 (g := W2.heap.size) (c := 1) rfl (y := x) x3 rfl (by omega) (by unfold maxLen; omega) (by omega) ?_; intro v' W4 hown' hg4
       obtain ⟨A', c', rfl, _⟩ := hown'.rd encVote_len
       have hv4 := grown_own hg4 hv3 (own_ne2 hrow3 hv3 (fun cur e => by cases e))
       obtain ⟨hc4, hf4⟩ := cell_of_box_a hv4
       go_frame)
    | gi_round_op_a)
  have hL4 := grown_own hg4 hL3 (own_ne2 hrow3 hL3 (fun cur e => by cases e))
  have hK4 := grown_own hg4 hK3 (own_ne2 hrow3 hK3 (fun cur e => by cases e))
  obtain ⟨u', hu'⟩ : ∃ u', Value.slice A' (ss.length + 1) c' = u' := ⟨_, rfl⟩
  rw [show (ss ++ [x]).length = ss.length + 1 by simp, hu'] at hown'
  rw [hu']
  obtain ⟨W5, hW5⟩ : ∃ W5, W4.setCell ⟨Bs, 0, none⟩ u' = W5 := ⟨_, rfl⟩
  rw [hW5]
  have hg5 : W4.grownBy W5 (some Bs) := by rw [← hW5]; exact grownBy_setCell0_a _ _ _
  have hv5 : W5.heap[Bs]? = some (.cells #[u'] 35 (0, 0)) := by rw [← hW5]; exact heap_setCell_box_a _ hv4
  have hL5 := grown_own hg5 hL4 (fun e => hBl (Option.some.inj e).symm)
  have hK5 := grown_own hg5 hK4 (fun e => hDB (Option.some.inj e))
  have hown5 : Own W5 base 37 4 encVote u' (ss ++ [x]) := hown'.grown hg5 (.inr (fun e => own_ne2 hown' hv4 (fun cur e => by cases e) e.symm))
  have hb4 : Below base w0 W4 := hb3.grown hg4 (by omega) (fun k e => (hrow3.base k e).1)
  have hb5 : Below base w0 W5 := hb4.grown hg5 (by have := hb4.size; omega) (fun k e => by cases e; omega)
  have hk5 : KeepsWalks W W5 := (((hk1.trans hk2).trans hk3).trans (KeepsWalks.of_grownBy hg4 (ownsRow_not_walk_a hrow3))).trans (by rw [← hW5]; exact KeepsWalks.setCell _ _ _)
  have hl5 : l < W5.heap.size := lt_of_block hL5
  clear hW5
  have hg6 := grownBy_putObj_a W5 l (.loop { { apRec fn s0 sv Bs D .ready none with state := .busy } with state := if (none : Option Code).isNone then .ready else .done, pending := none })
  exact ⟨_, _, run_endRound none hL5, rfl, ⟨⟨_, (World.putObj_heap_other hBl).trans hv5, hown5.grown hg6 (.inr (fun e => own_ne2 hown5 hL5 (fun cur e => by cases e) e.symm))⟩, World.putObj_heap_same hl5, (World.putObj_heap_other hDl).trans hK5, hb5.grown hg6 (by have := hb5.size; omega) (fun k e => by cases e; omega)⟩, hk5.trans (KeepsWalks.putObj _ hL5 rfl)⟩
end Go.Proofs.YtdocgemfedohdaaGreat
/-! slices.AppendSeq and Collect over duty.those, walked. -/
namespace Go.Proofs.YtdocgemfedohdaaGreat
open Go.RowKit Go.Shelf
attribute [local go_sem] Oper.semAt_some
theorem infoInt : (Tryz.prog.info? 3).map (fun i => (i.zero, i.size, i.bytes)) = some (some (.int .i64 0), 1, 8) := by kernel_rfl
theorem own_neI {W : World} {base : Nat} {v : Value} {ss : List Int} (h : Own W base 3 1 encI v ss) {j : Nat} {o : Obj} (hj : W.heap[j]? = some o) (hno : ∀ cur, o ≠ .cells cur 3 (0, 0)) : some j ≠ v.ownBlock := by
  rcases ownsRow_ne_a h hj hno with e | e
  · rw [e]; simp
  · exact fun e' => e e'.symm
theorem own_cells {W : World} {base : Nat} {v : Value} {ss : List Int} (h : Own W base 3 1 encI v ss) : ∀ (j : Nat) (o : Obj), v.ownBlock = some j → W.heap[j]? = some o → o.isCells = true := by
  intro j o hj ho
  rcases h.2 with ⟨rfl, _⟩ | ⟨g, cap, cur, rfl, _, hgb, _⟩
  · simp [Value.ownBlock] at hj
  · have : g = j := by simpa [Value.ownBlock] using hj
    subst this; rw [hgb] at ho; cases ho; rfl
def finI {m : Nat} (l : List (Fin m)) : List Int := l.map fun i => (i.val : Int)
set_option maxRecDepth 100000 in
set_option maxHeartbeats 2000000 in
theorem appendSeqI_any (m Bc Bf : Nat) (hm : m ≤ 1000) (p : Nat → Bool) (w : World) (hseq : ∀ W, Below w.heap.size w W → ThoseK Fence.wide 2 Bc Bf w.heap.size m p W) :
    Calls Tryz.prog 40 #[.slice none 0 0, .func (.func 41) #[] #[.pointer (some ⟨Bc, 0, none⟩), .pointer (some ⟨Bf, 0, none⟩)]] w fun e w' => ∃ v, e = .returned v ∧ Own w' w.heap.size 3 1 encI v (finI (those m p m)) ∧ Below w.heap.size w w' := by
  have hmx : Tryz.prog.follows .mixedOrders = true := by kernel_rfl
  obtain ⟨V, hV⟩ : ∃ V, w.alloc (.cells #[.slice none 0 0] 22) = V := ⟨_, rfl⟩
  have hB : Below w.heap.size w V := by subst hV; exact (Below.refl _ w).alloc (Nat.le_refl _) _
  have hb : V.heap[w.heap.size]? = some (.cells #[.slice none 0 0] 22 (0, 0)) := by subst hV; exact ha_at rfl
  have hun := Tryz.underlying22
  refine (callsIn_wide (n := 3)).1 ?_
  refine callsIn_of_wp_marks Tryz.func40 rfl trivial ?_ rfl
  simp only [Tryz.ntmps40, List.size_toArray, List.length_cons, List.length_nil, Nat.reduceAdd, Nat.reduceSub, Array.replicate_succ, Array.replicate_zero, List.push_toArray, List.append_toArray, List.nil_append, List.cons_append]
  gi_wp2
  refine wpIn_rangeFunc_ownG rfl (by decide) (gf := 41) (lb := #[.pointer (some ⟨Bc, 0, none⟩), .pointer (some ⟨Bf, 0, none⟩)]) rfl trivial (enters_of Tryz.func41 (by kernel_rfl) rfl)
      (hseq V hB) belowK_t (belowK_b hB.size) (Below.refl _ _) (fun _ => rfl)
      (fun pre W => (∃ v, W.heap[w.heap.size]? = some (.cells #[v] 22 (0, 0)) ∧ Own W w.heap.size 3 1 encI v (finI pre)) ∧ Below w.heap.size w W)
      (fun _ _ _ => False)
      ?own
      (fun _ _ _ _ _ hs _ _ => hs)
      ⟨⟨_, hb, Own.nil _ _ _ _ _⟩, hB⟩
      (fun x => { tmps := #[.slice none 0 0, .func (.func 41) #[] #[.pointer (some ⟨Bc, 0, none⟩), .pointer (some ⟨Bf, 0, none⟩)], .pointer (some ⟨w.heap.size, 0, none⟩), undef, .slice none 0 0, .int .i64 (x.val : Int), .func (.func 41) #[] #[.pointer (some ⟨Bc, 0, none⟩), .pointer (some ⟨Bf, 0, none⟩)], .int .i64 (x.val : Int), undef, undef, undef, undef, undef], defers := [] }) ?assign ?body ?done ?stop
  case own =>
    rintro s A B' row ⟨⟨v, hv, ho⟩, hb⟩ hg hr
    refine ⟨⟨v, grown_own hg hv (fun e => ?_), ho.grown hg ?_⟩, hb.grown hg hb.size (fun k e => Nat.le_trans hB.size (hr k e).1)⟩
    · obtain ⟨_, o, h1, h2⟩ := hr _ e.symm
      rw [hv] at h1; cases h1; cases h2
    · cases row with
      | none => exact .inl rfl
      | some r =>
        obtain ⟨_, o, h1, h2⟩ := hr r rfl
        rcases ownsRow_ne_a ho h1 (fun cur e => by subst e; cases h2) with h3 | h3
        · exact .inr (by rw [h3]; simp)
        · exact .inr h3
  case assign =>
    intro l x W K hK
    unfold encF
    gi_wp2
    exact hK
  case body =>
    rintro l pre x W ⟨⟨v, hv, ho⟩, hBW⟩ hpl
    have hBs := hBW.size
    obtain ⟨W3, hW3⟩ : ∃ W3, W.alloc (.cells #[.int .i64 (x.val : Int)] 3) = W3 := ⟨_, rfl⟩
    have hB3 : Below W.heap.size W W3 := by subst hW3; exact (Below.refl _ W).alloc (Nat.le_refl _) _
    have x3 : W3.heap[W.heap.size]? = some (.cells #[.int .i64 (x.val : Int)] 3 (0, 0)) := by subst hW3; exact ha_at rfl
    have hko : KeepsOthers W W3 := by subst hW3; exact KeepsOthers.alloc _ _
    have hv3 := bl_own hB3 hv
    have ho3 := ho.below hB3
    have hs3 := hB3.size
    obtain ⟨d0, e0⟩ := blk1 hv
    have hlen : (finI pre).length = pre.length := by simp [finI]
    gi_wp2_with (first
      | (gi_at_builtin; refine wpi_append1 rfl rfl hun infoInt rfl (by decide) encI_len encI_one rfl ho3 (g := W.heap.size) (c := 1) rfl (y := (x.val : Int)) x3 rfl (by rw [hlen]; omega) (by rw [hlen]; unfold maxLen; omega) (by omega) ?_; intro v' W4 hown' hg4; replace hg4 : W3.grownBy W4 v.ownBlock := hg4; obtain ⟨A', c', rfl, _⟩ := hown'.rd encI_len; have hv4 := grown_own hg4 hv3 (own_neI ho3 hv3 (fun cur e => (by cases e))); obtain ⟨hc4, hf4⟩ := blk1 hv4)
      | gi_in)
    have hs4 := hg4.size
    have hg5 := grown_setC W4 ⟨w.heap.size, 0, none⟩ (.slice A' (finI pre ++ [(x.val : Int)]).length c')
    have hap : finI (pre ++ [x]) = finI pre ++ [(x.val : Int)] := by simp [finI]
    have hl2 : pre.length + 1 = (finI pre ++ [(x.val : Int)]).length := by simp [finI]
    have hK : Below w.heap.size W (W4.setCell ⟨w.heap.size, 0, none⟩ (.slice A' (finI pre ++ [(x.val : Int)]).length c')) := ((hB3.mono hBs).grown hg4 (by omega) (fun k e => (ho3.base k e).1)).setCell (p := ⟨w.heap.size, 0, none⟩) (Nat.le_refl _) _
    rw [hl2]
    refine ⟨((hko.trans (KeepsOthers.of_grownBy hg4 (own_cells ho3))).trans (KeepsOthers.setCell _ _ _)).from _, hK, ⟨_, Boxed.set _ hv4, ?_⟩, hBW.trans hK⟩
    rw [hap]
    exact hown'.grown hg5 (.inr (own_neI hown' hv4 (fun cur e => by cases e)).symm)
  case done =>
    rintro D ys W hD rfl ⟨⟨v, hv, ho⟩, hBW⟩ hK
    obtain ⟨d0, e0⟩ := blk1 hv
    obtain ⟨A', c', rfl, _⟩ := ho.rd encI_len
    gi_wp2
    refine ⟨by simp, .inl ⟨_, _, rfl, run_takeDeferred hK, ?_⟩⟩
    have hg5 := grownBy_putObj_a W D (.deferred none)
    exact ⟨_, results_tmp rfl _ _ _, .slice A' (finI (those m p m)).length c', rfl, ho.grown hg5 (.inr (own_neI ho hK (fun cur e => by cases e)).symm), hBW.trans (belowK_b (w := V) hB.size W D _ _ hD hK rfl rfl)⟩
  case stop =>
    rintro D c pre W _ _ h _
    exact h.elim
set_option maxRecDepth 100000 in
theorem collectI_any (m Bc Bf : Nat) (hm : m ≤ 1000) (p : Nat → Bool) (w : World) (hseq : ∀ W, Below w.heap.size w W → ThoseK Fence.wide 2 Bc Bf w.heap.size m p W) :
    Calls Tryz.prog 24 #[.func (.func 41) #[] #[.pointer (some ⟨Bc, 0, none⟩), .pointer (some ⟨Bf, 0, none⟩)]] w fun e w' => ∃ v, e = .returned v ∧ Own w' w.heap.size 3 1 encI v (finI (those m p m)) ∧ Below w.heap.size w w' := by
  have ha := appendSeqI_any m Bc Bf hm p w hseq
  go_enter Tryz.func24, Tryz.ntmps24
  go_wp2_with (go_at_call 40; refine ha.mono ?_; clear ha; rintro e w' ⟨v, rfl, ho, hb⟩; obtain ⟨A', c', rfl, _⟩ := ho.rd encI_len)
  go_ret
  exact ⟨_, rfl, ho, hb⟩
end Go.Proofs.YtdocgemfedohdaaGreat
/-! Who votes in a slot, walked. -/
namespace Go.Proofs.YtdocgemfedohdaaGreat
open Go.RowKit Go.Shelf
theorem thoseK_cm (c : Cfg) (A A2 : Option Addr) (k k2 Bc Bf Ba Bk Bs : Nat) (s seed : Int) (w2 W : World) (hM : MayC c) (hs : SlotOk s) (hsd : seed = mixStep c.seed (s / c.epoch)) (hA : Rd 1 encI w2 A c.W) (hc : ConfAt w2 Bc A k c)
    (hf : w2.heap[Bf]? = some (.cells #[.func (.func 26) #[] #[.pointer (some ⟨Ba, 0, none⟩), .pointer (some ⟨Bk, 0, none⟩), .pointer (some ⟨Bs, 0, none⟩)]] 65 (0, 0)))
    (hk : ConfAt w2 Bk A k c) (ha : w2.heap[Ba]? = some (.cells #[.slice A2 c.W.length k2] 22 (0, 0))) (hR : Rd 1 encI w2 A2 (permTo seed c.W.length c.W.length)) (hS : w2.heap[Bs]? = some (.cells #[.int .i64 s] 3 (0, 0)))
    (hW : Below w2.heap.size w2 W) : ThoseK Fence.wide 2 Bc Bf w2.heap.size c.W.length (comP c s) W := by
  intro l J Jx W' hW' hJ _ hY h0
  have hB := hW.trans (hW'.mono hW.size)
  refine those1_cm Fence.wide 2 trivial trivial rfl (by decide) l Bc Bf w2.heap.size c A k Ba Bk Bs (comP c s) J Jx W' (hA.below hB) (bl_own hB hc) (bl_own hB hf) hB.size (lt_of_block hc) (lt_of_block hf) ?_ hY h0 (fun pre V h => hJ pre V V.drew none h ⟨rfl, rfl, rfl, Nat.le_refl _, fun _ _ _ => rfl⟩ (fun r e => by cases e))
  intro i W'' hi hb''
  have hB2 := hB.trans hb''
  exact callsIn_wide.2 (cm1_any c A A2 k k2 Ba Bk Bs s i seed W'' hM hs hi hsd (bl_own hB2 hk) (blk_cell (bl_own hB2 ha) 0) (hR.below hB2) (blk_cell (bl_own hB2 hS) 0))
set_option maxRecDepth 100000 in
set_option maxHeartbeats 1000000 in
theorem dmays_any (c : Cfg) (s : Int) (A : Option Addr) (k : Nat) (w : World) (hr : Rd 1 encI w A c.W) :
    Calls Tryz.prog 21 #[cfgv A k c, .int .i64 s] w fun e w' => e = .returned (.bool (decide (MayC c ∧ SlotOk s))) ∧ Below w.heap.size w w' := by
  have hmay := fun W (hW : Below w.heap.size w W) => dmay_any c A k W (hr.below hW)
  have hm := hr.1
  have e1 : decide (MayC c ∧ SlotOk s) = (decide (MayC c) && decide (s > 0) && decide (s ≤ 1048576)) := by
    unfold SlotOk
    rw [Bool.eq_iff_iff]
    simp only [Bool.and_eq_true, decide_eq_true_eq]
    exact ⟨fun ⟨h, a, b⟩ => ⟨⟨h, by omega⟩, b⟩, fun ⟨⟨h, a⟩, b⟩ => ⟨h, by omega, b⟩⟩
  rw [e1]
  clear e1
  unfold cfgv at *
  have hW : ∃ W, w.alloc (.cells #[.slice A c.W.length k, .int .u64 c.seed, .int .i64 c.epoch, .int .i64 c.num, .int .i64 c.den] 25) = W := ⟨_, rfl⟩
  obtain ⟨W, hW⟩ := hW
  have hB : Below w.heap.size w W := by subst hW; exact (Below.refl _ w).alloc (Nat.le_refl _) _
  have hb : W.heap[w.heap.size]? = some (.cells #[.slice A c.W.length k, .int .u64 c.seed, .int .i64 c.epoch, .int .i64 c.num, .int .i64 c.den] 25 (0, 0)) := by subst hW; exact ha_at rfl
  obtain ⟨c0, c1, c2, c3, c4⟩ := blk5 hb
  have hmay := hmay W hB
  generalize decide (MayC c) = d at hmay ⊢
  generalize hd1 : decide (s > 0) = d1
  generalize hd2 : decide (s ≤ 1048576) = d2
  cases d
  · go_enter Tryz.func21, Tryz.ntmps21
    go_wp2_with (go_at_call 7; refine hmay.mono ?_; clear hmay; rintro e w1 ⟨rfl, hb1⟩; have hB1 := below_call hB hB.size hb1)
    go_ret
    exact ⟨rfl, hB1⟩
  · cases d1
    · go_enter Tryz.func21, Tryz.ntmps21
      go_wp2_with (go_at_call 7; refine hmay.mono ?_; clear hmay; rintro e w1 ⟨rfl, hb1⟩; have hB1 := below_call hB hB.size hb1)
      go_ret
      exact ⟨rfl, hB1⟩
    · go_enter Tryz.func21, Tryz.ntmps21
      go_wp2_with (go_at_call 7; refine hmay.mono ?_; clear hmay; rintro e w1 ⟨rfl, hb1⟩; have hB1 := below_call hB hB.size hb1)
      go_ret
      exact ⟨rfl, hB1⟩
theorem ck6 {W : World} {N : Nat} {A : Option Addr} {k : Nat} {c : Cfg} {s : Int} (h : ConfAt W N A k c) (h2 : W.heap[N + 1]? = some (.cells #[.int .i64 s] 3 (0, 0))) :
    W.cell? ⟨N, 0, none⟩ = some (.slice A c.W.length k) ∧ W.cell? ⟨N, 1, none⟩ = some (.int .u64 c.seed) ∧ W.cell? ⟨N, 2, none⟩ = some (.int .i64 c.epoch) ∧ W.cell? ⟨N, 3, none⟩ = some (.int .i64 c.num) ∧ W.cell? ⟨N, 4, none⟩ = some (.int .i64 c.den) ∧ W.cell? ⟨N + 1, 0, none⟩ = some (.int .i64 s) := by
  obtain ⟨d0, d1, d2, d3, d4⟩ := blk5 h
  exact ⟨d0, d1, d2, d3, d4, (blk1 h2).1⟩
set_option maxRecDepth 100000 in
set_option maxHeartbeats 4000000 in
theorem committee_any (c : Cfg) (s : Int) (A : Option Addr) (k : Nat) (w : World) (hr : Rd 1 encI w A c.W) :
    Calls Tryz.prog 9 #[cfgv A k c, .int .i64 s] w fun e w' => ∃ v, e = .returned v ∧ Own w' w.heap.size 3 1 encI v (comC c s) ∧ Below w.heap.size w w' := by
  have hm := hr.1
  have hmay := fun W (hW : Below w.heap.size w W) => dmays_any c s A k W (hr.below hW)
  have hW : ∃ W, (w.alloc (.cells #[.slice A c.W.length k, .int .u64 c.seed, .int .i64 c.epoch, .int .i64 c.num, .int .i64 c.den] 25)).alloc (.cells #[.int .i64 s] 3) = W := ⟨_, rfl⟩
  obtain ⟨W, hW⟩ := hW
  have hB : Below w.heap.size w W := by subst hW; exact ((Below.refl _ w).alloc (Nat.le_refl _) _).alloc (by simp) _
  have b0 : ConfAt W w.heap.size A k c := by subst hW; exact ha_lt (ha_at rfl)
  have b1 : W.heap[w.heap.size + 1]? = some (.cells #[.int .i64 s] 3 (0, 0)) := by subst hW; exact ha_at (by simp)
  obtain ⟨c0, c1, c2, c3, c4⟩ := blk5 b0
  obtain ⟨c5, f5⟩ := blk1 b1
  have hmay := hmay W hB
  unfold comC
  by_cases hok : MayC c ∧ SlotOk s
  · rw [if_pos hok]
    have hd : decide (MayC c ∧ SlotOk s) = true := by simpa using hok
    rw [hd] at hmay
    unfold cfgv at *
    have hlen := hok.1.len
    have hlen1 := hok.1.1.1
    have hep := hok.1.2
    have hsl := hok.2
    unfold SlotOk at hsl
    obtain ⟨q, hq⟩ : ∃ q, s / c.epoch = q := ⟨_, rfl⟩
    have htd : s.tdiv c.epoch = q := by rw [Int.tdiv_eq_ediv_of_nonneg (by omega)]; exact hq
    have hq0 : 0 ≤ q := by rw [← hq]; exact Int.ediv_nonneg (by omega) (by omega)
    have hq1 : q ≤ s := by rw [← hq]; exact Int.ediv_le_self _ (by omega)
    have hw1 : wrap64 q = q := w64_id hq0 (by omega)
    have hw2 : IntKind.u64.wrap q = q := u64_id hq0 (by omega)
    have hw3 : IntKind.i64.wrap q = q := by rw [IntKind.wrap_i64]; omega
    have hne : ¬ c.epoch = 0 := by omega
    have hok' := Lib.hid hok
    have hq' := Lib.hid hq
    clear hok hd hq hep hsl hq0 hq1
    go_enter Tryz.func9, Tryz.ntmps9
    go_wp2_with (go_at_call 21; refine hmay.mono ?_; clear hmay; rintro e w1 ⟨rfl, hb1⟩; have hB1 := below_call hB hB.size hb1; have b0' := bl_own hb1 b0; have b1' := bl_own hb1 b1; obtain ⟨d0, d1, d2, d3, d4⟩ := blk5 b0'; obtain ⟨d5, f5'⟩ := blk1 b1')
    clear c0 c1 c2 c3 c4 c5 f5
    go_region_held3 (fun W' => W'.cell? ⟨w.heap.size, 0, none⟩ = some (.slice A c.W.length k) ∧ W'.cell? ⟨w.heap.size, 1, none⟩ = some (.int .u64 c.seed) ∧ W'.cell? ⟨w.heap.size, 2, none⟩ = some (.int .i64 c.epoch) ∧ W'.cell? ⟨w.heap.size, 3, none⟩ = some (.int .i64 c.num) ∧ W'.cell? ⟨w.heap.size, 4, none⟩ = some (.int .i64 c.den) ∧ W'.cell? ⟨w.heap.size + 1, 0, none⟩ = some (.int .i64 s))
      (first | exact ck6 b0' b1' | exact ck6 (ha_lt b0') (ha_lt b1') | exact ck6 b0'' b1'' | exact ck6 (ha_lt b0'') (ha_lt b1'') | exact ck6 b0s b1s) ((first
        | (go_at_call 23; refine (step_any _ _ _).mono ?_; rintro e w' ⟨rfl, rfl⟩)
        | (go_at_call 22; (with_reducible refine (perm_any (mixStep c.seed q) c.W.length hlen1 (by omega) w1.drew).mono ?_); rintro e w2 ⟨v, rfl, ho, hb2⟩; obtain ⟨A2, k2, hv, hR2⟩ := ho.rd encI_len; rw [permTo_len] at hv; subst hv; have hQ2 := below_call (Below.refl _ w1).drew (Nat.le_refl _) hb2; have b0'' : ConfAt w2 w.heap.size A k c := bl_own hQ2 b0'; have b1'' := bl_own hQ2 b1')
        | (go_at_call 22; (with_reducible refine (perm_any (mixStep c.seed q) c.W.length hlen1 (by omega) (w1.alloc (.cells #[.slice none 0 0] 22)).drew).mono ?_); rintro e w2 ⟨v, rfl, ho, hb2⟩; obtain ⟨A2, k2, hv, hR2⟩ := ho.rd encI_len; rw [permTo_len] at hv; subst hv; have hbx := bl_own hb2 (ha_at (w := w1) (o := .cells #[.slice none 0 0] 22) (k := w1.heap.size) rfl); obtain ⟨i0, j0⟩ := blk1 hbx; have hQ2 := below_call (((Below.refl _ w1).alloc (Nat.le_refl _) (.cells #[.slice none 0 0] 22)).drew) (by simp) hb2; have b0'' : ConfAt w2 w.heap.size A k c := bl_own hQ2 b0'; have b1'' := bl_own hQ2 b1'; have hset := Boxed.set (.slice A2 c.W.length k2) hbx; have hgs := grown_setC w2 ⟨w1.heap.size, 0, none⟩ (.slice A2 c.W.length k2); have b0s : ConfAt (w2.setCell ⟨w1.heap.size, 0, none⟩ (.slice A2 c.W.length k2)) w.heap.size A k c := grown_own hgs b0'' (fun e => (by have h1 := Option.some.inj e; have h2 := lt_of_block b0'; change w.heap.size = w1.heap.size at h1; omega)); have b1s := grown_own hgs b1'' (fun e => (by have h1 := Option.some.inj e; have h2 := lt_of_block b1'; change w.heap.size + 1 = w1.heap.size at h1; omega)))))
    · have hfin : Below w.heap.size w (w2.alloc (.cells #[.slice A2 c.W.length k2] 22)) ∧ Rd 1 encI (w2.alloc (.cells #[.slice A2 c.W.length k2] 22)) A2 (permTo (mixStep c.seed q) c.W.length c.W.length) ∧ ConfAt (w2.alloc (.cells #[.slice A2 c.W.length k2] 22)) w.heap.size A k c ∧
          (w2.alloc (.cells #[.slice A2 c.W.length k2] 22)).heap[w.heap.size + 1]? = some (.cells #[.int .i64 s] 3 (0, 0)) ∧ (w2.alloc (.cells #[.slice A2 c.W.length k2] 22)).heap[w2.heap.size]? = some (.cells #[.slice A2 c.W.length k2] 22 (0, 0)) :=
        ⟨(below_call hB1 hB1.size hQ2).alloc (below_call hB1 hB1.size hQ2).size _, hR2.below ((Below.refl _ w2).alloc (Nat.le_refl _) _), ha_lt b0'', ha_lt b1'', ha_at rfl⟩
      generalize w2.alloc (.cells #[.slice A2 c.W.length k2] 22) = w3 at hfin ⊢
      obtain ⟨hB3, hR3, b03, b13, bx3⟩ := hfin
      clear hQ2 b0'' b1'' hb2 hR2 ho
      generalize w2.heap.size = Bx at bx3 ⊢
      obtain ⟨d0, d1, d2, d3, d4⟩ := blk5 b03
      go_wp2_with (first
        | (go_at_call 25; refine (those_any c A k w3 _ _).mono ?_; rintro e w4 ⟨rfl, hc4, hf4, hs4, hb4⟩; have hB4 := below_call hB3 hB3.size hb4; have hcol := collectI_any c.W.length _ _ (by omega) (comP c s) w4 (fun V hV => thoseK_cm c A A2 k k2 _ _ Bx w.heap.size (w.heap.size + 1) s _ w4 V hok'.out.1 hok'.out.2 (by rw [hq'.out]) (hr.below hB4) hc4 hf4 (bl_own hb4 b03) (bl_own hb4 bx3) (hR3.below hb4) (bl_own hb4 b13) hV); clear hs4 hf4)
        | (go_at_call 24; refine hcol.mono ?_; clear hcol; rintro e w5 ⟨v5, rfl, ho5, hb5⟩; obtain ⟨A5, k5, hv5, _⟩ := ho5.rd encI_len; subst hv5))
      go_ret
      exact ⟨.slice A5 (finI (those c.W.length (comP c s) c.W.length)).length k5, rfl, ownsRow_base_a ho5 hB4.size, below_call hB4 hB4.size hb5⟩
    · have hfin : Below w.heap.size w (w2.setCell ⟨w1.heap.size, 0, none⟩ (.slice A2 c.W.length k2)) ∧ Rd 1 encI (w2.setCell ⟨w1.heap.size, 0, none⟩ (.slice A2 c.W.length k2)) A2 (permTo (mixStep c.seed q) c.W.length c.W.length) ∧ ConfAt (w2.setCell ⟨w1.heap.size, 0, none⟩ (.slice A2 c.W.length k2)) w.heap.size A k c ∧
          (w2.setCell ⟨w1.heap.size, 0, none⟩ (.slice A2 c.W.length k2)).heap[w.heap.size + 1]? = some (.cells #[.int .i64 s] 3 (0, 0)) ∧ (w2.setCell ⟨w1.heap.size, 0, none⟩ (.slice A2 c.W.length k2)).heap[w1.heap.size]? = some (.cells #[.slice A2 c.W.length k2] 22 (0, 0)) := by
        have hle := hB1.size
        refine ⟨(below_call hB1 hB1.size hQ2).setCell (p := ⟨w1.heap.size, 0, none⟩) hle _, ?_, b0s, b1s, hset⟩
        obtain ⟨A3, k3, hv3, hR3⟩ := (ho.grown hgs (.inr (own_neI ho hbx (fun cur e => by cases e)).symm)).rd encI_len
        injection hv3 with e1
        subst e1
        exact hR3
      generalize w2.setCell ⟨w1.heap.size, 0, none⟩ (.slice A2 c.W.length k2) = w3 at hfin ⊢
      obtain ⟨hB3, hR3, b03, b13, bx3⟩ := hfin
      clear hQ2 b0'' b1'' hb2 hR2 ho hgs b0s b1s hset hbx i0 j0
      generalize w1.heap.size = Bx at bx3 ⊢
      obtain ⟨d0, d1, d2, d3, d4⟩ := blk5 b03
      go_wp2_with (first
        | (go_at_call 25; refine (those_any c A k w3 _ _).mono ?_; rintro e w4 ⟨rfl, hc4, hf4, hs4, hb4⟩; have hB4 := below_call hB3 hB3.size hb4; have hcol := collectI_any c.W.length _ _ (by omega) (comP c s) w4 (fun V hV => thoseK_cm c A A2 k k2 _ _ Bx w.heap.size (w.heap.size + 1) s _ w4 V hok'.out.1 hok'.out.2 (by rw [hq'.out]) (hr.below hB4) hc4 hf4 (bl_own hb4 b03) (bl_own hb4 bx3) (hR3.below hb4) (bl_own hb4 b13) hV); clear hs4 hf4)
        | (go_at_call 24; refine hcol.mono ?_; clear hcol; rintro e w5 ⟨v5, rfl, ho5, hb5⟩; obtain ⟨A5, k5, hv5, _⟩ := ho5.rd encI_len; subst hv5))
      go_ret
      exact ⟨.slice A5 (finI (those c.W.length (comP c s) c.W.length)).length k5, rfl, ownsRow_base_a ho5 hB4.size, below_call hB4 hB4.size hb5⟩
    · have hfin : Below w.heap.size w (w2.setCell ⟨w1.heap.size, 0, none⟩ (.slice A2 c.W.length k2)) ∧ Rd 1 encI (w2.setCell ⟨w1.heap.size, 0, none⟩ (.slice A2 c.W.length k2)) A2 (permTo (mixStep c.seed q) c.W.length c.W.length) ∧ ConfAt (w2.setCell ⟨w1.heap.size, 0, none⟩ (.slice A2 c.W.length k2)) w.heap.size A k c ∧
          (w2.setCell ⟨w1.heap.size, 0, none⟩ (.slice A2 c.W.length k2)).heap[w.heap.size + 1]? = some (.cells #[.int .i64 s] 3 (0, 0)) ∧ (w2.setCell ⟨w1.heap.size, 0, none⟩ (.slice A2 c.W.length k2)).heap[w1.heap.size]? = some (.cells #[.slice A2 c.W.length k2] 22 (0, 0)) := by
        have hle := hB1.size
        refine ⟨(below_call hB1 hB1.size hQ2).setCell (p := ⟨w1.heap.size, 0, none⟩) hle _, ?_, b0s, b1s, hset⟩
        obtain ⟨A3, k3, hv3, hR3⟩ := (ho.grown hgs (.inr (own_neI ho hbx (fun cur e => by cases e)).symm)).rd encI_len
        injection hv3 with e1
        subst e1
        exact hR3
      generalize w2.setCell ⟨w1.heap.size, 0, none⟩ (.slice A2 c.W.length k2) = w3 at hfin ⊢
      obtain ⟨hB3, hR3, b03, b13, bx3⟩ := hfin
      clear hQ2 b0'' b1'' hb2 hR2 ho hgs b0s b1s hset hbx i0 j0
      generalize w1.heap.size = Bx at bx3 ⊢
      obtain ⟨d0, d1, d2, d3, d4⟩ := blk5 b03
      go_wp2_with (first
        | (go_at_call 25; refine (those_any c A k w3 _ _).mono ?_; rintro e w4 ⟨rfl, hc4, hf4, hs4, hb4⟩; have hB4 := below_call hB3 hB3.size hb4; have hcol := collectI_any c.W.length _ _ (by omega) (comP c s) w4 (fun V hV => thoseK_cm c A A2 k k2 _ _ Bx w.heap.size (w.heap.size + 1) s _ w4 V hok'.out.1 hok'.out.2 (by rw [hq'.out]) (hr.below hB4) hc4 hf4 (bl_own hb4 b03) (bl_own hb4 bx3) (hR3.below hb4) (bl_own hb4 b13) hV); clear hs4 hf4)
        | (go_at_call 24; refine hcol.mono ?_; clear hcol; rintro e w5 ⟨v5, rfl, ho5, hb5⟩; obtain ⟨A5, k5, hv5, _⟩ := ho5.rd encI_len; subst hv5))
      go_ret
      exact ⟨.slice A5 (finI (those c.W.length (comP c s) c.W.length)).length k5, rfl, ownsRow_base_a ho5 hB4.size, below_call hB4 hB4.size hb5⟩
  · rw [if_neg hok]
    have hd : decide (MayC c ∧ SlotOk s) = false := by simpa using hok
    rw [hd] at hmay
    clear hok hd
    unfold cfgv at *
    go_enter Tryz.func9, Tryz.ntmps9
    go_wp2_with (go_at_call 21; refine hmay.mono ?_; clear hmay; rintro e w1 ⟨rfl, hb1⟩; have hB1 := below_call hB hB.size hb1)
    go_ret
    exact ⟨_, rfl, Own.nil _ _ _ _ _, hB1⟩
end Go.Proofs.YtdocgemfedohdaaGreat
/-! Whether a vote is of who is not in a committee, walked. -/
namespace Go.Proofs.YtdocgemfedohdaaGreat
open Go.RowKit
set_option maxRecDepth 100000 in
set_option maxHeartbeats 1000000 in
theorem gindex_any (x : Int) (l : List Int) (A : Option Addr) (k : Nat) (w : World) (hr : Rd 1 encI w A l) :
    Calls Tryz.prog 63 #[.slice A l.length k, .int .i64 x] w fun e w' => (∃ j : Int, e = .returned (.int .i64 j) ∧ decide (j ≥ 0) = decide (x ∈ l)) ∧ w' = w := by
  have hm := hr.1
  go_enter Tryz.func63, Tryz.ntmps63
  go_wp2_with fail
  go_loopw [5, 8] (fun _ i wr => ∃ j : Nat, j ≤ l.length ∧ i = .int .i64 j ∧ Hid (x ∉ l.take j) ∧ wr = w) (fun _ i _ => l.length - (intOf i).toNat)
  case atStart => exact ⟨0, by omega, rfl, Lib.hid (by simp), rfl⟩
  case round =>
    obtain ⟨j, hj, rfl, hn, rfl⟩ := hrel
    by_cases hlt : j < l.length
    · obtain ⟨b, o, rfl, hbo, d⟩ := hr.atI hlt
      by_cases he : x = l[j]
      · have hin := Lib.hid (show x ∈ l by rw [he]; exact List.getElem_mem hlt)
        have heb : (x == l[j]) = true := by simpa using he
        clear he
        go_wp2_with fail
        go_ret
        refine ⟨⟨_, rfl, ?_⟩, rfl⟩
        simp [hin.out]
      · have heb : (x == l[j]) = false := by simpa using he
        have hst := Lib.hid (show x ∉ l.take (j + 1) by
          rw [← List.take_append_getElem hlt]
          intro h
          rcases List.mem_append.1 h with h | h
          · exact hn.out h
          · exact he (List.mem_singleton.1 h))
        clear he
        go_wp2_with fail
        go_roundw
        case rel => exact ⟨j + 1, hlt, by go_num, hst, trivial⟩
        case measure => simp [intOf]; omega
    · obtain rfl : j = l.length := by omega
      have hnn : x ∉ l := by simpa using hn.out
      have hnn' := Lib.hid hnn
      clear hnn
      go_wp2_with fail
      go_ret
      refine ⟨⟨_, rfl, ?_⟩, rfl⟩
      simp [hnn'.out]
set_option maxRecDepth 100000 in
theorem gcontains_any (x : Int) (l : List Int) (A : Option Addr) (k : Nat) (w : World) (hr : Rd 1 encI w A l) :
    Calls Tryz.prog 48 #[.slice A l.length k, .int .i64 x] w fun e w' => e = .returned (.bool (decide (x ∈ l))) ∧ w' = w := by
  have hi := gindex_any x l A k w hr
  go_enter Tryz.func48, Tryz.ntmps48
  go_wp2_with (go_at_call 63; refine hi.mono ?_; clear hi; rintro e w' ⟨⟨j, rfl, hj⟩, rfl⟩)
  go_ret
  exact ⟨by first | rfl | rw [hj], rfl⟩
set_option maxRecDepth 100000 in
set_option maxHeartbeats 1000000 in
theorem bout_any (x : Vote) (l : List Int) (A : Option Addr) (k : Nat) (w : World) (hr : Rd 1 encI w A l) :
    Calls Tryz.prog 31 #[.slice A l.length k, votev x] w fun e w' => e = .returned (.bool (!decide (x.frm ∈ l))) ∧ Below w.heap.size w w' := by
  unfold votev
  obtain ⟨W, hW⟩ : ∃ W, w.alloc (.cells #[.int .i64 x.frm, .int .i64 x.slot, .int .u64 x.head.hi, .int .u64 x.head.lo] 37) = W := ⟨_, rfl⟩
  have hB : Below w.heap.size w W := by subst hW; exact (Below.refl _ w).alloc (Nat.le_refl _) _
  have hb : W.heap[w.heap.size]? = some (.cells #[.int .i64 x.frm, .int .i64 x.slot, .int .u64 x.head.hi, .int .u64 x.head.lo] 37 (0, 0)) := by subst hW; exact ha_at rfl
  have c0 := blk_cell hb 0
  have hc := gcontains_any x.frm l A k W (hr.below hB)
  go_enter Tryz.func31, Tryz.ntmps31
  go_wp2_with (go_at_call 48; refine hc.mono ?_; clear hc; rintro e w' ⟨rfl, rfl⟩)
  go_ret
  exact ⟨rfl, hB⟩
end Go.Proofs.YtdocgemfedohdaaGreat
/-! slices.IndexFunc over votes, with a committee's method, walked. -/
namespace Go.Proofs.YtdocgemfedohdaaGreat
open Go.RowKit
set_option maxRecDepth 100000 in
set_option maxHeartbeats 2000000 in
theorem gindexf_any (l : List Vote) (cm : List Int) (A A2 : Option Addr) (k k2 : Nat) (w : World) (hr : Rd 4 encVote w A l) (hr2 : Rd 1 encI w A2 cm) :
    Calls Tryz.prog 49 #[.slice A l.length k, .func (.func 31) #[.slice A2 cm.length k2] #[]] w fun e w' =>
      ((e = .returned (.int .i64 (-1)) ∧ ∀ x ∈ l, x.frm ∈ cm) ∨ ∃ j : Nat, e = .returned (.int .i64 j) ∧ (∀ x ∈ l.take j, x.frm ∈ cm) ∧ ∃ h : j < l.length, l[j].frm ∉ cm) ∧ Below w.heap.size w w' := by
  have hm := hr.1
  go_enter Tryz.func49, Tryz.ntmps49
  go_wp2_with fail
  go_loopw [5, 8] (fun _ i wr => ∃ j : Nat, j ≤ l.length ∧ i = .int .i64 j ∧ Hid (∀ x ∈ l.take j, x.frm ∈ cm) ∧ Below w.heap.size w wr) (fun _ i _ => l.length - (intOf i).toNat)
  case atStart => exact ⟨0, by omega, rfl, Lib.hid (by simp), Below.refl _ _⟩
  case round =>
    obtain ⟨j, hj, rfl, hn, hb⟩ := hrel
    by_cases hlt : j < l.length
    · obtain ⟨b, o, rfl, hbo, d0, d1, d2, d3⟩ := (hr.below hb).atVote hlt
      have hou := bout_any l[j] cm A2 k2 wr (hr2.below hb)
      unfold votev at hou
      by_cases he : l[j].frm ∈ cm
      · have hst := Lib.hid (show ∀ x ∈ l.take (j + 1), x.frm ∈ cm by
          intro x hx
          rw [← List.take_append_getElem hlt] at hx
          rcases List.mem_append.1 hx with h | h
          · exact hn.out x h
          · rw [List.mem_singleton.1 h]; exact he)
        have hd : (!decide (l[j].frm ∈ cm)) = false := by simpa using he
        rw [hd] at hou
        clear he hd
        go_wp2_with (go_at_call 31; refine hou.mono ?_; clear hou; rintro e w' ⟨rfl, hb1⟩)
        go_roundw
        case rel => exact ⟨j + 1, hlt, by go_num, hst, below_call hb hb.size hb1⟩
        case measure => simp [intOf]; omega
      · have hd : (!decide (l[j].frm ∈ cm)) = true := by simpa using he
        rw [hd] at hou
        have he' := Lib.hid he
        clear he hd
        go_wp2_with (go_at_call 31; refine hou.mono ?_; clear hou; rintro e w' ⟨rfl, hb1⟩)
        go_ret
        exact ⟨.inr ⟨j, rfl, hn.out, hlt, he'.out⟩, below_call hb hb.size hb1⟩
    · obtain rfl : j = l.length := by omega
      go_wp2_with fail
      go_ret
      exact ⟨.inl ⟨rfl, by simpa using hn.out⟩, hb⟩
end Go.Proofs.YtdocgemfedohdaaGreat
