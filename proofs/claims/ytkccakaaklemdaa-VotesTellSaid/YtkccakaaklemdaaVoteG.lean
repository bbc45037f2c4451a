/- maps.Values's iterator over a map of votes, and slices.AppendSeq over it. -/
import Derived.Shelf.SlIter.Collect
import Derived.RangeFuncNested
import Derived.RangeFuncBound
import Derived.RangeFuncCalls
import Derived.RangeFuncLeaves
import Derived.Shelf.Abstract
import Derived.Shelf.RegionOpen
import Derived.WalkKit
import Derived.OwnWalkIn
import Derived.TacticsInMore
import Derived.LoopNIn
import Derived.LoopIn
import Derived.Sort.MapsRangeIn
import Derived.Test.YtkccakaaklemdaaVoteE
namespace Go.Proofs.Ytkccakaaklemdaa
open Go.RowKit Go.Shelf Go.ChangeMaps Go.MapKept
section
variable {κ ν : Type} [DecidableEq κ] {ek : κ → Value} {ev : ν → Value} {F : Fence} {n : Nat} {P : Program} {ops : Array Oper} {rest : List Oper} {o : Oper} {a : Act} {Q : Exit → Act → World → Prop}
theorem wpi_range (hg : o.guard = none) {mo : Operand} {MT kt et : TypeId} (hop : o.op = Op.range MT mo) (ht : P.underlying MT = some (.map kt et)) {w : World} {B : Nat} (hm : a.eval mo = .map (some B)) {m : List (κ × ν)} (hM : MapIs ek ev w B m) {r : Nat} (hr : w.heap.size = r)
    (hK : ∀ w', RIs ek ev w' B r m [] → Below w.heap.size w w' → w'.heap.size = w.heap.size + 1 → wpListIn F n P ops Q rest (a.put o.dst (.pointer (some ⟨r, 0, none⟩))) w') : wpListIn F n P ops Q (o :: rest) a w := by
  subst hr
  refine wpListIn_plain hg fun K' hK' => ?_
  obtain ⟨w', hrun, r1, r2, r3⟩ := range_run ht hM
  unfold Oper.wpIn
  refine ⟨by simp [Oper.about, hop], ?_⟩
  rw [Oper.semAt_plain F _ _ (by rw [hop]; intro c hc'; cases hc')]
  simp [execOp, hop, hm, hrun, Result.andThen]
  exact hK' _ _ (hK w' r1 r2 r3)
theorem wpi_next (hg : o.guard = none) {it : Operand} (hop : o.op = Op.next it false) {w : World} {B r : Nat} {m : List (κ × ν)} {came : List κ} (hit : a.eval it = .pointer (some ⟨r, 0, none⟩)) (h : RIs ek ev w B r m came)
    (hDone : Hid (∀ p ∈ m, p.1 ∈ came) → wpListIn F n P ops Q rest (a.put o.dst (.tuple #[.bool false])) w)
    (hMore : ∀ (x : κ) (v : ν) (w' : World), Came ek ev w w' B r m came x v → (Instr.entry (.pointer (some ⟨r, 0, none⟩))).run P w' = .ok (.tuple #[ek x, ev v]) w' → wpListIn F n P ops Q rest (a.put o.dst (.tuple #[.bool true, ek x, ev v])) w') : wpListIn F n P ops Q (o :: rest) a w := by
  refine wpListIn_plain hg fun K' hK' => ?_
  unfold Oper.wpIn
  refine ⟨by simp [Oper.about, hop], ?_⟩
  rw [Oper.semAt_plain F _ _ (by rw [hop]; intro c hc'; cases hc')]
  rcases next_run (P := P) h o.type with ⟨h0, hrun⟩ | ⟨x, v, w', h1, h2, hrun, h3, h4, h5, h6, h7⟩
  · simp [execOp, hop, hit, hrun, Result.andThen]
    exact hK' _ _ (hDone (Lib.hid h0))
  · simp [execOp, hop, hit, hrun, Result.andThen]
    exact hK' _ _ (hMore x v w' ⟨h1, h2, h3, h4, h5, h6⟩ h7)
theorem RIs.of_walks {w w' : World} {B r : Nat} {m : List (κ × ν)} {came : List κ} (h : RIs ek ev w B r m came) (hk : KeepsWalks w w') : RIs ek ev w' B r m came ∧ w'.rangeLeft B r = w.rangeLeft B r := by
  have h' := h
  obtain ⟨es, clk, since, seen, c0, hb, _, _, _, _, hr, _⟩ := h
  exact h'.same ((hk.same B _ hb rfl).trans hb.symm) ((hk.same r _ hr rfl).trans hr.symm)
/-- What has come of a map. -/
def PartM (m : List (κ × ν)) (came : List κ) (ys : List ν) : Prop := ∃ ps : List (κ × ν), came = ps.map (·.1) ∧ ys = ps.reverse.map (·.2) ∧ (∀ p ∈ ps, p ∈ m) ∧ (ps.map (·.1)).Nodup
omit [DecidableEq κ] in
theorem part_nil (m : List (κ × ν)) : PartM m [] [] := ⟨[], rfl, rfl, by simp, List.nodup_nil⟩
omit [DecidableEq κ] in
theorem part_step {m : List (κ × ν)} {came : List κ} {ys : List ν} (h : PartM m came ys) {x : κ} {v : ν} (hm : (x, v) ∈ m) (hx : x ∉ came) : PartM m (x :: came) (ys ++ [v]) := by
  obtain ⟨ps, rfl, rfl, h3, h4⟩ := h
  refine ⟨(x, v) :: ps, rfl, by simp, fun p hp => ?_, List.nodup_cons.2 ⟨hx, h4⟩⟩
  rcases List.mem_cons.1 hp with rfl | hp
  · exact hm
  · exact h3 p hp
theorem part_lt {m : List (κ × ν)} {came : List κ} {ys : List ν} (h : PartM m came ys) {x : κ} {v : ν} (hm : (x, v) ∈ m) (hx : x ∉ came) : ys.length < m.length := by
  obtain ⟨ps, rfl, rfl, h3, h4⟩ := h
  have := nodup_sub_len (l := x :: ps.map (·.1)) (m := m.map (·.1)) (List.nodup_cons.2 ⟨hx, h4⟩) (fun y hy => by
    rcases List.mem_cons.1 hy with rfl | hy
    · exact List.mem_map_of_mem hm
    · obtain ⟨p, hp, rfl⟩ := List.mem_map.1 hy
      exact List.mem_map_of_mem (h3 p hp))
  simp at this ⊢
  omega
theorem nodup_of_map {α β : Type} (f : α → β) : ∀ {l : List α}, (l.map f).Nodup → l.Nodup
  | [], _ => List.nodup_nil
  | a :: l, h => by
    simp only [List.map_cons, List.nodup_cons] at h
    exact List.nodup_cons.2 ⟨fun ha => h.1 (List.mem_map_of_mem ha), nodup_of_map f h.2⟩
omit [DecidableEq κ] in
theorem key_inj {m : List (κ × ν)} (hm : (m.map (·.1)).Nodup) {p q : κ × ν} (hp : p ∈ m) (hq : q ∈ m) (h : p.1 = q.1) : p = q := by
  obtain ⟨i, hi, rfl⟩ := List.getElem_of_mem hp
  obtain ⟨j, hj, rfl⟩ := List.getElem_of_mem hq
  have : i = j := (List.getElem?_inj (by simpa using hi) hm).1 (by simp [hi, hj, h])
  subst this
  rfl
omit [DecidableEq κ] in
theorem part_all {m : List (κ × ν)} (hm : (m.map (·.1)).Nodup) {came : List κ} {ys : List ν} (h : PartM m came ys) (hall : ∀ p ∈ m, p.1 ∈ came) : ys.Perm (m.map (·.2)) := by
  obtain ⟨ps, rfl, rfl, h3, h4⟩ := h
  have : ps.Perm m := (List.perm_ext_iff_of_nodup (nodup_of_map _ h4) (nodup_of_map _ hm)).2 fun p => ⟨h3 p, fun hp => by
    obtain ⟨q, hq, e⟩ := List.mem_map.1 (hall p hp)
    rw [← key_inj hm (h3 q hq) hp e]; exact hq⟩
  exact ((List.reverse_perm ps).trans this).map _
end
theorem gb_none {w w' : World} (h : Below w.heap.size w w') (row : Option Nat) : w.grownBy w' row := ⟨h.os, h.tape, h.output, h.size, fun k hk _ => h.block k hk⟩
theorem ris_walk {κ ν : Type} [DecidableEq κ] {ek : κ → Value} {ev : ν → Value} {w : World} {B r : Nat} {m : List (κ × ν)} {came : List κ} (h : RIs ek ev w B r m came) : ∃ o : Obj, w.heap[r]? = some o ∧ o.isWalk = true := by
  obtain ⟨es, clk, since, seen, c0, hb, _, _, _, _, hr, _⟩ := h
  exact ⟨_, hr, rfl⟩
set_option maxRecDepth 100000 in
set_option maxHeartbeats 2000000 in
/-- maps.Values's iterator: all votes of the map come, in some order. -/
theorem values1_in (F : Fence) (n : Nat) (h57 : F.fn 57) (hro : F.round = none) (hn : 1 ≤ n) (l Bm M : Nat) (m : List (Int × Vote)) (J : List Vote → World → Prop)
    (hY : ∀ pre x W, J pre W → pre.length < m.length → YieldAt F (n - 1) Try.prog l #[votev x] W fun e W' => e = .returned (.bool true) ∧ J (pre ++ [x]) W' ∧ KeepsWalks W W')
    (W : World) (hJ : AbidesFrom W.heap.size J) (hm : W.cell? ⟨Bm, 0, none⟩ = some (.map (some M))) (hM : MapIs (Value.int .i64) votev W M m) (h0 : J [] W) :
    CallsIn F n Try.prog 57 #[.func (.yield l) #[] #[], .pointer (some ⟨Bm, 0, none⟩)] W fun e W' => (∃ v, e = .returned v) ∧ ∃ ys : List Vote, ys.Perm (m.map (·.2)) ∧ J ys W' := by
  have hNd : (m.map (·.1)).Nodup := by obtain ⟨_, _, _, _, _, _, h⟩ := hM; exact h
  have hNd' := Lib.hid hNd
  clear hNd
  refine callsIn_of_wp Try.func57 rfl h57 ?_ hro
  simp only [Try.ntmps57, List.size_toArray, List.length_cons, List.length_nil, Nat.reduceAdd, Nat.reduceSub, Array.replicate_succ, Array.replicate_zero, List.push_toArray, List.append_toArray, List.nil_append, List.cons_append]
  gi_wp2_with (first
    | (gi_at_range; refine wpi_range rfl rfl Try.underlying78 rfl hM rfl ?_; intro w0 hR0 hB0 hs0)
    | gi_in)
  go_frame
  gi_loopw [4] (fun _ wr => ∃ (came : List Int) (ys : List Vote), RIs (Value.int .i64) votev wr M W.heap.size m came ∧ Hid (PartM m came ys) ∧ J ys wr) (fun _ wr => wr.rangeLeft M W.heap.size)
  case atStart =>
    exact ⟨[], [], hR0, Lib.hid (part_nil m), hJ [] W w0 none h0 (gb_none hB0 none) (fun r e => by cases e)⟩
  case round =>
    obtain ⟨came, ys, hR, hP, hJs⟩ := hrel
    gi_wp2_with (first
      | (gi_at_next; refine wpi_next rfl rfl rfl hR ?_ ?_)
      | gi_in)
    · intro hall
      gi_wp2
      go_end0
      exact ⟨⟨_, rfl⟩, ys, part_all hNd'.out hP.out (fun p hp => hall.out p.1 p.2 hp), hJs⟩
    · intro k v w3 hcm hen
      have hJ3 : J ys w3 := hJ ys wr w3 (some W.heap.size) hJs hcm.grown (fun r e => by cases e; exact ⟨Nat.le_refl _, ris_walk hR⟩)
      have hlt := part_lt hP.out hcm.mem hcm.fresh
      obtain ⟨W4, hW4⟩ : ∃ W4, w3.alloc (.cells #[.int .i64 v.frm, .int .i64 v.slot, .int .u64 v.head.hi, .int .u64 v.head.lo] 38) = W4 := ⟨_, rfl⟩
      have hB4 : Below w3.heap.size w3 W4 := by subst hW4; exact (Below.refl _ w3).alloc (Nat.le_refl _) _
      have x4 : W4.heap[w3.heap.size]? = some (.cells #[.int .i64 v.frm, .int .i64 v.slot, .int .u64 v.head.hi, .int .u64 v.head.lo] 38 (0, 0)) := by subst hW4; exact ha_at rfl
      obtain ⟨d0, d1, d2, d3⟩ := blk4 x4
      have hJ4 : J ys W4 := hJ ys w3 W4 none hJ3 (gb_none hB4 none) (fun r e => by cases e)
      have hr4 := hcm.ris.below hB4
      obtain ⟨fn, tmps, assign, body, hy, hRd⟩ := hY ys v W4 hJ4 hlt
      unfold votev at hy hen
      gi_wp2
      refine hRd.mono ?_
      rintro e W5 ⟨rfl, hJ5, hk5⟩
      gi_wp2
      have hr5 := hr4.1.of_walks hk5
      go_roundw
      case rel => exact ⟨k :: came, ys ++ [v], hr5.1, Lib.hid (part_step hP.out hcm.mem hcm.fresh), hJ5⟩
      case measure => rw [hr5.2, hr4.2]; exact hcm.less

/-- maps.Values(m): the map is boxed. -/
theorem values_in (F : Fence) (n : Nat) (hf : F.fn 45) (hro : F.round = none) (mb : Option Nat) (w : World) :
    CallsIn F n Try.prog 45 #[.map mb] w fun e w' => e = .returned (.func (.func 57) #[] #[.pointer (some ⟨w.heap.size, 0, none⟩)]) ∧ w' = w.alloc (.cells #[.map mb] 78) := by
  refine callsIn_of_wp Try.func45 rfl hf ?_ hro
  simp only [Try.ntmps45, List.size_toArray, List.length_cons, List.length_nil, Nat.reduceAdd, Nat.reduceSub, Array.replicate_succ, Array.replicate_zero, List.push_toArray, List.append_toArray, List.nil_append, List.cons_append]
  gi_wp2
  go_ret
  exact ⟨rfl, rfl⟩
/-! ## slices.AppendSeq -/
section
variable {F : Fence} {n : Nat} {P : Program} {ops : Array Oper} {rest : List Oper} {o : Oper} {a : Act} {Q : Exit → Act → World → Prop} {α : Type}
theorem wpi_append1 {enc : α → List Value} {k base : Nat} {w : World} (hgd : o.guard = none) {s x : Operand} {t e : TypeId} (ho : o.op = .call { callee := .builtin .append, args := #[s, x], argTypes := #[t, t] })
    (ht : P.underlying t = some (.slice e)) {z : Value} {bytes : Nat} (hinfo : (P.info? e).map (fun i => (i.zero, i.size, i.bytes)) = some (some z, k, bytes)) (hz : z.cells.size = k) (hk0 : 0 < k) (hk : ∀ x, (enc x).length = k) (h1 : ∀ x, ∀ u ∈ enc x, u.oneCell' = true)
    {v : Value} {xs : List α} (hs : a.eval s = v) (hown : Own w base e k enc v xs) {g : Nat} {c : Nat} (hx : a.eval x = .slice (some ⟨g, 0, none⟩) 1 c) {y : α} {cs : Array Value} {T : TypeId} (hg : w.heap[g]? = some (.cells cs T (0, 0))) (hcs : cs = (enc y).toArray)
    (hb : (xs.length + 1) * bytes ≤ 140737488355328) (hl : xs.length + 1 ≤ maxLen) (hbase : base ≤ w.heap.size)
    (h : ∀ v' w', Own w' base e k enc v' (xs ++ [y]) → w.grownBy w' v.ownBlock → wpListIn F n P ops Q rest (a.put o.dst v') w') : wpListIn F n P ops Q (o :: rest) a w := by
  obtain ⟨i0, hi, hz0, hz1, hz2⟩ := info_parts hinfo
  subst hcs
  refine wpListIn_append_own w hgd s x t ho base e i0 z k bytes ht hi hz0 hz1 hz2 hz hk0 v xs.length _ hs hown ⟨g, 0, none⟩ 1 c (enc y) hx (by rw [hk]; omega) (fun j u hu => ?_) (h1 y) hl hb hbase (fun v' w' h2 h3 _ => h v' w' ?_ h3)
  · have e1 : (⟨g, 0, none⟩ : Addr).add j = ⟨g, j, none⟩ := by unfold Addr.add; split <;> simp_all
    rw [e1, blk_cell hg]
    simpa using hu
  · show w'.ownsRow _ _ _ _ _ _
    rw [List.length_append, List.flatMap_append]
    simpa using h2
end
def apAssign : Code := (Code.region 2 #[{ dst := some 5, op := Op.alloc 38, type := 0, pos := "iter.go:51", after := #[], guard := none }, { dst := none, op := Op.store 38 (Operand.tmp 5) (Operand.tmp 7), type := 0, pos := "iter.go:51", after := #[{ on := 0, ground := Ground.data }, { on := 0, ground := Ground.phase }], guard := none }] false)
def apBody : Code := (Code.block 1 (Code.region 3 #[{ dst := some 8, op := Op.load 27 (Operand.tmp 2), type := 27, pos := "iter.go:52", after := #[], guard := none }, { dst := some 9, op := Op.load 38 (Operand.tmp 5), type := 38, pos := "iter.go:52", after := #[], guard := none }, { dst := some 10, op := Op.buildSlice 27 1 #[(0, Operand.tmp 9)], type := 27, pos := "iter.go:52", after := #[{ on := 1, ground := Ground.data }], guard := none }, { dst := some 11, op := Op.call { callee := Callee.builtin Builtin.append, args := #[Operand.tmp 8, Operand.tmp 10], argTypes := #[27, 27] }, type := 27, pos := "iter.go:52", after := #[{ on := 0, ground := Ground.data }, { on := 2, ground := Ground.data }], guard := none }, { dst := none, op := Op.store 27 (Operand.tmp 2) (Operand.tmp 11), type := 0, pos := "iter.go:52", after := #[{ on := 3, ground := Ground.data }, { on := 3, ground := Ground.chain }, { on := 0, ground := Ground.phase }, { on := 1, ground := Ground.phase }, { on := 2, ground := Ground.phase }, { on := 3, ground := Ground.phase }], guard := none }] false))
def apRec (fn : FuncId) (s0 sv : Value) (Bs D : Nat) (st : LoopState) (pend : Option Code) : Loop :=
  { state := st, pending := pend, fn, tmps := #[s0, sv, .pointer (some ⟨Bs, 0, none⟩), undef, .slice none 0 0, undef, sv, undef, undef, undef, undef, undef, undef], params := #[7], assign := apAssign, body := apBody, defers := D }
/-- Between two rounds. -/
structure ApAt (base : Nat) (w0 : World) (fn : FuncId) (s0 sv : Value) (Bs l D : Nat) (ss : List Vote) (W : World) : Prop where
  box : ∃ v, W.heap[Bs]? = some (.cells #[v] 27 (0, 0)) ∧ Own W base 38 4 encVote v ss
  L : W.heap[l]? = some (.loop (apRec fn s0 sv Bs D .ready none))
  K : W.heap[D]? = some (.deferred (some []))
  below : Below base w0 W
theorem own_ne {W : World} {base : Nat} {v : Value} {ss : List Vote} (h : Own W base 38 4 encVote v ss) {j : Nat} {o : Obj} (hj : W.heap[j]? = some o) (hno : ∀ cur, o ≠ .cells cur 38 (0, 0)) : v.ownBlock = none ∨ v.ownBlock ≠ some j := ownsRow_ne_a h hj hno
theorem own_ne2 {W : World} {base : Nat} {v : Value} {ss : List Vote} (h : Own W base 38 4 encVote v ss) {j : Nat} {o : Obj} (hj : W.heap[j]? = some o) (hno : ∀ cur, o ≠ .cells cur 38 (0, 0)) : some j ≠ v.ownBlock := by
  rcases own_ne h hj hno with e | e
  · rw [e]; simp
  · exact fun e' => e e'.symm
theorem ap_abides (base : Nat) (w0 : World) (fn : FuncId) (s0 sv : Value) (Bs l D B : Nat) (hb0 : base ≤ w0.heap.size) (hB : w0.heap.size ≤ B) : AbidesFrom B (ApAt base w0 fn s0 sv Bs l D) := fun s W W' row h hg hrow => by
  have hrow' : ∀ r, row = some r → ∃ o : Obj, W.heap[r]? = some o ∧ o.isWalk = true := fun r e => (hrow r e).2
  obtain ⟨v, hv, hr⟩ := h.box
  exact ⟨⟨v, (grownBy_keeps hg hrow' hv rfl).trans hv, ownsRow_abides_a hr hg hrow'⟩, (grownBy_keeps hg hrow' h.L rfl).trans h.L, (grownBy_keeps hg hrow' h.K rfl).trans h.K,
    h.below.grown hg (Nat.le_trans hb0 h.below.size) (fun k e => Nat.le_trans hb0 (Nat.le_trans hB (hrow k e).1))⟩
theorem vlay (w : World) (x : Vote) : Below w.heap.size w (w.alloc (.cells #[.int .i64 x.frm, .int .i64 x.slot, .int .u64 x.head.hi, .int .u64 x.head.lo] 38)) ∧ (w.alloc (.cells #[.int .i64 x.frm, .int .i64 x.slot, .int .u64 x.head.hi, .int .u64 x.head.lo] 38)).heap[w.heap.size]? = some (.cells #[.int .i64 x.frm, .int .i64 x.slot, .int .u64 x.head.hi, .int .u64 x.head.lo] 38 (0, 0)) :=
  ⟨(Below.refl _ w).alloc (Nat.le_refl _) _, ha_at rfl⟩
set_option maxRecDepth 100000 in
set_option maxHeartbeats 2000000 in
theorem ap_yield (F : Fence) (m base : Nat) (w0 : World) (fn : FuncId) (hfn : F.fn fn) (s0 sv : Value) (Bs l D : Nat) (hBl : Bs ≠ l) (hDl : D ≠ l) (hDB : D ≠ Bs) (hb0 : base ≤ w0.heap.size) (h0B : w0.heap.size ≤ Bs) (h0l : w0.heap.size ≤ l)
    (ss : List Vote) (x : Vote) (W : World) (h : ApAt base w0 fn s0 sv Bs l D ss W) (hlen : ss.length < 100000) :
    YieldAt F m Try.prog l #[votev x] W fun e W' => e = .returned (.bool true) ∧ ApAt base w0 fn s0 sv Bs l D (ss ++ [x]) W' ∧ KeepsWalks W W' := by
  have hun := Try.underlying27
  obtain ⟨v, hv, hrow⟩ := h.box
  refine ⟨fn, #[s0, sv, .pointer (some ⟨Bs, 0, none⟩), undef, .slice none 0 0, undef, sv, votev x, undef, undef, undef, undef, undef], apAssign, apBody, by simpa [apRec] using run_yield (P := Try.prog) (args := #[votev x]) h.L rfl, roundIn_of_wpIn hfn ?_⟩
  have hl : l < W.heap.size := (Array.getElem?_eq_some_iff.1 h.L).1
  obtain ⟨W1, hW1⟩ : ∃ W1, W.alloc (.cells #[.int .i64 x.frm, .int .i64 x.slot, .int .u64 x.head.hi, .int .u64 x.head.lo] 38) = W1 := ⟨_, rfl⟩
  have hB1 : Below W.heap.size W W1 := by subst hW1; exact (Below.refl _ W).alloc (Nat.le_refl _) _
  have x1 : W1.heap[W.heap.size]? = some (.cells #[.int .i64 x.frm, .int .i64 x.slot, .int .u64 x.head.hi, .int .u64 x.head.lo] 38 (0, 0)) := by subst hW1; exact ha_at rfl
  have hk1 : KeepsWalks W W1 := by subst hW1; exact KeepsWalks.alloc _ _
  have hL1 := bl_own hB1 h.L
  have hK1 := bl_own hB1 h.K
  have hv1 := bl_own hB1 hv
  have hrow1 : Own W1 base 38 4 encVote v ss := hrow.below hB1
  have hBW := h.below.size
  have hbr := run_beginRound (P := Try.prog) hL1 rfl
  obtain ⟨W2, hW2⟩ : ∃ W2, W1.putObj l (.loop { apRec fn s0 sv Bs D .ready none with state := .busy }) = W2 := ⟨_, rfl⟩
  rw [hW2] at hbr
  have hg2 : W1.grownBy W2 (some l) := by rw [← hW2]; exact grownBy_putObj_a _ _ _
  have hk2 : KeepsWalks W1 W2 := by rw [← hW2]; exact KeepsWalks.putObj _ hL1 rfl
  have hv2 := grown_own hg2 hv1 (fun e => hBl (Option.some.inj e))
  have hK2 := grown_own hg2 hK1 (fun e => hDl (Option.some.inj e))
  have x2 := grown_own hg2 x1 (fun e => by have := Option.some.inj e; omega)
  have hL2 : W2.heap[l]? = some (.loop { apRec fn s0 sv Bs D .ready none with state := .busy }) := by rw [← hW2]; exact World.putObj_heap_same (by have := hB1.size; omega)
  have hrow2 : Own W2 base 38 4 encVote v ss := hrow1.grown hg2 (.inr (fun e => own_ne2 hrow1 hL1 (fun cur e => by cases e) e.symm))
  have hb1 : Below base w0 W1 := h.below.grown (gb_none hB1 none) (by omega) (fun k e => by cases e)
  have hb2 : Below base w0 W2 := hb1.grown hg2 (by have := hB1.size; omega) (fun k e => by cases e; omega)
  obtain ⟨hc2, hf2⟩ := cell_of_box_a hv2
  obtain ⟨d0, d1, d2, d3⟩ := blk4 x2
  have hs2 := hb2.size
  have hbw := vlay W2 x
  have hB3 := hbw.1
  have x3 := hbw.2
  have hk3 : KeepsWalks W2 (W2.alloc (.cells #[.int .i64 x.frm, .int .i64 x.slot, .int .u64 x.head.hi, .int .u64 x.head.lo] 38)) := KeepsWalks.alloc _ _
  have hrow3 := hrow2.below hB3
  have hv3 := bl_own hB3 hv2
  have hL3 := bl_own hB3 hL2
  have hK3 := bl_own hB3 hK2
  have hb3 := hb2.grown (gb_none hB3 none) (by omega) (fun k e => by cases e)
  have hs3 := hb3.size
  clear hbw
  clear hW2
  unfold apAssign votev
  gi_wp2_with gi_round_op_a
  unfold apBody
  gi_wp2_with (first
    | (gi_at_builtin; refine wpi_append1 rfl rfl hun infoV rfl (by decide) encVote_len encVote_one rfl hrow3 (g := W2.heap.size) (c := 1) rfl (y := x) x3 rfl (by omega) (by unfold maxLen; omega) (by omega) ?_; intro v' W4 hown' hg4
       obtain ⟨A', c', rfl, _⟩ := hown'.rd encVote_len
       have hv4 := grown_own hg4 hv3 (own_ne2 hrow3 hv3 (fun cur e => by cases e))
       obtain ⟨hc4, hf4⟩ := cell_of_box_a hv4
       go_frame)
    | gi_round_op_a)
  have hL4 := grown_own hg4 hL3 (own_ne2 hrow3 hL3 (fun cur e => by cases e))
  have hK4 := grown_own hg4 hK3 (own_ne2 hrow3 hK3 (fun cur e => by cases e))
  obtain ⟨u', hu'⟩ : ∃ u', Value.slice A' (ss.length + 1) c' = u' := ⟨_, rfl⟩
  rw [show (ss ++ [x]).length = ss.length + 1 by simp, hu'] at hown'
  rw [hu']
  obtain ⟨W5, hW5⟩ : ∃ W5, W4.setCell ⟨Bs, 0, none⟩ u' = W5 := ⟨_, rfl⟩
  rw [hW5]
  have hg5 : W4.grownBy W5 (some Bs) := by rw [← hW5]; exact grownBy_setCell0_a _ _ _
  have hv5 : W5.heap[Bs]? = some (.cells #[u'] 27 (0, 0)) := by rw [← hW5]; exact heap_setCell_box_a _ hv4
  have hL5 := grown_own hg5 hL4 (fun e => hBl (Option.some.inj e).symm)
  have hK5 := grown_own hg5 hK4 (fun e => hDB (Option.some.inj e))
  have hown5 : Own W5 base 38 4 encVote u' (ss ++ [x]) := hown'.grown hg5 (.inr (fun e => own_ne2 hown' hv4 (fun cur e => by cases e) e.symm))
  have hb4 : Below base w0 W4 := hb3.grown hg4 (by omega) (fun k e => (hrow3.base k e).1)
  have hb5 : Below base w0 W5 := hb4.grown hg5 (by have := hb4.size; omega) (fun k e => by cases e; omega)
  have hk5 : KeepsWalks W W5 := (((hk1.trans hk2).trans hk3).trans (KeepsWalks.of_grownBy hg4 (ownsRow_not_walk_a hrow3))).trans (by rw [← hW5]; exact KeepsWalks.setCell _ _ _)
  have hl5 : l < W5.heap.size := lt_of_block hL5
  clear hW5
  have hg6 := grownBy_putObj_a W5 l (.loop { { apRec fn s0 sv Bs D .ready none with state := .busy } with state := if (none : Option Code).isNone then .ready else .done, pending := none })
  exact ⟨_, _, run_endRound none hL5, rfl, ⟨⟨_, (World.putObj_heap_other hBl).trans hv5, hown5.grown hg6 (.inr (fun e => own_ne2 hown5 hL5 (fun cur e => by cases e) e.symm))⟩, World.putObj_heap_same hl5, (World.putObj_heap_other hDl).trans hK5, hb5.grown hg6 (by have := hb5.size; omega) (fun k e => by cases e; omega)⟩, hk5.trans (KeepsWalks.putObj _ hL5 rfl)⟩
set_option maxRecDepth 100000 in
set_option maxHeartbeats 2000000 in
/-- slices.AppendSeq(s, seq), where s has nothing, and the sequence gives votes. -/
theorem appendSeq_in (F : Fence) (n : Nat) (h44 : F.fn 44) (hro : F.round = none) (hn : 2 ≤ n) (g : Nat) (lb : Array Value) (hFg : F.fn g) (eg : ∀ args w, (callFunc g args).run Try.prog w = .ok (.enter g args) w)
    (S : List Vote → Prop) (N base : Nat) (hN : N ≤ 100000) (s0 : Value) (w : World) (hb0 : base ≤ w.heap.size) (hs0 : Own w base 38 4 encVote s0 []) (hseq : SeqGives F (n - 1) Try.prog g lb votev S N w) :
    CallsIn F n Try.prog 44 #[s0, .func (.func g) #[] lb] w fun e w' => ∃ (v : Value) (ss : List Vote), e = .returned v ∧ S ss ∧ Own w' base 38 4 encVote v ss ∧ Below base w w' := by
  have h1 : 1 ≤ n := by omega
  obtain ⟨A0, c0, e0, _⟩ := hs0.rd encVote_len
  have e1 : s0 = .slice A0 0 c0 := e0
  subst e1
  clear e0
  refine callsIn_of_wp_marks Try.func44 rfl h44 ?_ hro
  simp only [Try.ntmps44, List.size_toArray, List.length_cons, List.length_nil, Nat.reduceAdd, Nat.reduceSub, Array.replicate_succ, Array.replicate_zero, List.push_toArray, List.append_toArray, List.nil_append, List.cons_append]
  gi_wp2
  refine wpIn_rangeFunc ?_
  intro fn hfn
  rw [hro]
  obtain ⟨W0, hW0⟩ : ∃ W0, w.alloc (.cells #[.slice A0 0 c0] 27) = W0 := ⟨_, rfl⟩
  have hz0 : W0.heap.size = w.heap.size + 1 := by rw [← hW0]; simp
  have hv0 : W0.heap[w.heap.size]? = some (.cells #[.slice A0 0 c0] 27 (0, 0)) := by rw [← hW0]; exact ha_at rfl
  have hB0 : Below w.heap.size w W0 := by rw [← hW0]; exact (Below.refl _ w).alloc (Nat.le_refl _) _
  have ho0 := hs0.below hB0
  rw [hW0]
  obtain ⟨W1, hW1⟩ : ∃ W1, (W0.alloc (.deferred (some []))).alloc (.loop (apRec fn (.slice A0 0 c0) (.func (.func g) #[] lb) w.heap.size W0.heap.size .ready none)) = W1 := ⟨_, rfl⟩
  have hB1 : Below W0.heap.size W0 W1 := by rw [← hW1]; exact ((Below.refl _ W0).alloc (Nat.le_refl _) _).alloc (by simp) _
  have hb1 : Below w.heap.size w W1 := below_call hB0 hB0.size hB1
  have hs1 : W1.heap.size = W0.heap.size + 2 := by rw [← hW1]; simp
  have hM : ApAt base w fn (.slice A0 0 c0) (.func (.func g) #[] lb) w.heap.size (W0.heap.size + 1) W0.heap.size [] W1 :=
    ⟨⟨_, bl_own hB1 hv0, ho0.below hB1⟩, by rw [← hW1]; exact ha_at (by simp), by rw [← hW1]; exact ha_lt (ha_at rfl), hb1.mono hb0⟩
  refine ⟨W0.heap.size + 1, [{ target := .collected W0.heap.size, args := #[] }], W1, { target := .fn (.func g) lb, args := #[.func (.yield (W0.heap.size + 1)) #[] #[]] }, W1, g,
    #[.func (.yield (W0.heap.size + 1)) #[] #[]] ++ lb, W1, ?_, ?_, ?_, ?_, fun _ => h1, ?_⟩
  · rw [← hW1]; exact run_enterLoop_outer _ _ _ _ _
  · simp [resolve, go_sem]
  · intro f' hf'; simp [Target.leads] at hf'; subst hf'; exact hFg
  · simp [invoke, go_sem, eg]
  · refine (hseq (W0.heap.size + 1) (ApAt base w fn (.slice A0 0 c0) (.func (.func g) #[] lb) w.heap.size (W0.heap.size + 1) W0.heap.size) W1 hb1 (ap_abides _ _ _ _ _ _ _ _ _ hb0 hb1.size)
      (fun pre x W hJ hl => ap_yield F (n - 1 - 1) base w fn hfn _ _ w.heap.size (W0.heap.size + 1) W0.heap.size (by omega) (by omega) (by omega) hb0 (Nat.le_refl _) (by omega) pre x W hJ (by omega)) hM).mono ?_
    rintro e W2 ⟨⟨v0, rfl⟩, ss, hS, h2⟩
    obtain ⟨v, hv, hrow⟩ := h2.box
    have hend := run_endLoop (P := Try.prog) h2.L (by simp [apRec])
    obtain ⟨W3, hW3⟩ : ∃ W3, W2.putObj (W0.heap.size + 1) (.loop { apRec fn (.slice A0 0 c0) (.func (.func g) #[] lb) w.heap.size W0.heap.size .ready none with state := .exhausted }) = W3 := ⟨_, rfl⟩
    rw [hW3] at hend
    have hg3 : W2.grownBy W3 (some (W0.heap.size + 1)) := by rw [← hW3]; exact grownBy_putObj_a _ _ _
    have hv3 := grown_own hg3 hv (fun e => by have := Option.some.inj e; omega)
    have hK3 := grown_own hg3 h2.K (fun e => by have := Option.some.inj e; omega)
    have hrow3 := hrow.grown hg3 (.inr (fun e => own_ne2 hrow h2.L (fun cur e => by cases e) e.symm))
    have hs2 := h2.below.size
    have hb3 : Below base w W3 := h2.below.grown hg3 (by omega) (fun k e => by cases e; omega)
    obtain ⟨hc3, hf3⟩ := cell_of_box_a hv3
    obtain ⟨Av, cv, rfl, _⟩ := hrow.rd encVote_len
    clear hW3
    refine ⟨none, W3, hend, ?_⟩
    gi_wp2
    rw [← hz0]
    refine ⟨by simp, .inl ⟨_, _, rfl, run_takeDeferred hK3, ?_⟩⟩
    have hg4 := grownBy_putObj_a W3 W0.heap.size (.deferred none)
    exact ⟨_, results_tmp rfl _ _ _, .slice Av ss.length cv, ss, rfl, hS, hrow3.grown hg4 (.inr (fun e => own_ne2 hrow3 hK3 (fun cur e => by cases e) e.symm)), hb3.grown hg4 (by have := hb3.size; omega) (fun k e => by cases e; omega)⟩
end Go.Proofs.Ytkccakaaklemdaa
