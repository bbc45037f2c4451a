/- A range over a map that the loop leaves as it is, and deletion from a map: maps as lists of pairs. -/
import Derived.Test.YtkccakaaklemdaaMaps
import Derived.Lib.Hide
namespace Go.Proofs.Ytkccakaaklemdaa
open Go.RowKit Go.ChangeMaps Go.MapKept
section
variable {κ ν : Type} [DecidableEq κ] {ek : κ → Value} {ev : ν → Value}
/-- A range over block B's map is under way, its iterator in block r; the keys 'seen' have come. -/
def RIs (ek : κ → Value) (ev : ν → Value) (w : World) (B r : Nat) (m : List (κ × ν)) (came : List κ) : Prop :=
  ∃ es clk since seen c0, w.heap[B]? = some (.map es clk) ∧ es.toList.map (fun e => (e.key, e.val)) = m.map (fun p => (ek p.1, ev p.2)) ∧
    (es.toList.map (·.born)).Pairwise (· < ·) ∧ (∀ e ∈ es.toList, e.born < clk) ∧ (m.map (·.1)).Nodup ∧
    w.heap[r]? = some (.mapIter (some B) since seen c0) ∧ (∀ e ∈ es.toList, e.born < since) ∧
    (∀ (i : Nat) (e : MapEntry) (p : κ × ν), es.toList[i]? = some e → m[i]? = some p → seen.contains e.born = decide (p.1 ∈ came)) ∧ since ≤ c0 ∧ since ≤ clk
theorem RIs.map {w : World} {B r : Nat} {m : List (κ × ν)} {came : List κ} (h : RIs ek ev w B r m came) : MapIs ek ev w B m := by
  obtain ⟨es, clk, _, _, _, h1, h2, h3, h4, h5, _⟩ := h
  exact ⟨es, clk, h1, h2, h3, h4, h5⟩
theorem RIs.ne {w : World} {B r : Nat} {m : List (κ × ν)} {came : List κ} (h : RIs ek ev w B r m came) : r ≠ B := by
  obtain ⟨es, clk, since, seen, c0, hb, _, _, _, _, hr, _⟩ := h
  intro e
  rw [e, hb] at hr
  cases hr
theorem RIs.lt {w : World} {B r : Nat} {m : List (κ × ν)} {came : List κ} (h : RIs ek ev w B r m came) : r < w.heap.size := by
  obtain ⟨es, clk, since, seen, c0, hb, _, _, _, _, hr, _⟩ := h
  exact lt_of_block hr
theorem RIs.same {w w' : World} {B r : Nat} {m : List (κ × ν)} {came : List κ} (h : RIs ek ev w B r m came) (h1 : w'.heap[B]? = w.heap[B]?) (h2 : w'.heap[r]? = w.heap[r]?) : RIs ek ev w' B r m came ∧ w'.rangeLeft B r = w.rangeLeft B r := by
  refine ⟨?_, by unfold World.rangeLeft; rw [h1, h2]⟩
  obtain ⟨es, clk, since, seen, c0, hb, a1, a2, a3, a4, hr, rest⟩ := h
  exact ⟨es, clk, since, seen, c0, h1.trans hb, a1, a2, a3, a4, h2.trans hr, rest⟩
theorem RIs.grown {w w' : World} {B r : Nat} {m : List (κ × ν)} {came : List κ} {row : Option Nat} (h : RIs ek ev w B r m came) (hg : w.grownBy w' row) (h1 : some B ≠ row) (h2 : some r ≠ row) : RIs ek ev w' B r m came ∧ w'.rangeLeft B r = w.rangeLeft B r :=
  h.same (hg.block B (MapIs_lt h.map) h1) (hg.block r h.lt h2)
theorem RIs.below {w w' : World} {B r : Nat} {m : List (κ × ν)} {came : List κ} (h : RIs ek ev w B r m came) (hb : Below w.heap.size w w') : RIs ek ev w' B r m came ∧ w'.rangeLeft B r = w.rangeLeft B r :=
  h.same (hb.block B (MapIs_lt h.map)) (hb.block r h.lt)
omit [DecidableEq κ] in
theorem ent_at {es : Array MapEntry} {m : List (κ × ν)} (h : es.toList.map (fun e => (e.key, e.val)) = m.map (fun p => (ek p.1, ev p.2))) {i : Nat} {e : MapEntry} (hi : es.toList[i]? = some e) : ∃ p, m[i]? = some p ∧ e.key = ek p.1 ∧ e.val = ev p.2 := by
  have h1 := congrArg (·[i]?) h
  simp only [List.getElem?_map, hi, Option.map_some] at h1
  cases hp : m[i]? with
  | none => rw [hp] at h1; simp at h1
  | some p =>
    rw [hp] at h1
    simp only [Option.map_some, Option.some.injEq, Prod.mk.injEq] at h1
    exact ⟨p, rfl, h1.1, h1.2⟩
omit [DecidableEq κ] in
theorem ent_of {es : Array MapEntry} {m : List (κ × ν)} (h : es.toList.map (fun e => (e.key, e.val)) = m.map (fun p => (ek p.1, ev p.2))) {i : Nat} {p : κ × ν} (hi : m[i]? = some p) : ∃ e, es.toList[i]? = some e ∧ e.key = ek p.1 ∧ e.val = ev p.2 := by
  have h1 := congrArg (·[i]?) h
  simp only [List.getElem?_map, hi, Option.map_some] at h1
  cases hp : es.toList[i]? with
  | none => rw [hp] at h1; simp at h1
  | some e =>
    rw [hp] at h1
    simp only [Option.map_some, Option.some.injEq, Prod.mk.injEq] at h1
    exact ⟨e, rfl, h1.1, h1.2⟩
theorem nodup_born {l : List MapEntry} (h : (l.map (·.born)).Pairwise (· < ·)) : (l.map (·.born)).Nodup := h.imp (fun h => by omega)
/-- 'range m'. -/
theorem range_run {P : Program} {MT kt et : TypeId} (ht : P.underlying MT = some (.map kt et)) {w : World} {B : Nat} {m : List (κ × ν)} (hM : MapIs ek ev w B m) :
    ∃ w', (Instr.range MT (.map (some B))).run P w = .ok (.pointer (some ⟨w.heap.size, 0, none⟩)) w' ∧ RIs ek ev w' B w.heap.size m [] ∧ Below w.heap.size w w' ∧ w'.heap.size = w.heap.size + 1 := by
  obtain ⟨es, clk, hB, hes, hbn, hbc, hnd⟩ := hM
  have hlt := lt_of_block hB
  refine ⟨_, run_range_map w MT kt et B es clk ht hB, ⟨es, clk, clk, #[], clk, ha_lt hB, hes, hbn, hbc, hnd, ha_at rfl, hbc, fun i e p _ _ => by simp, Nat.le_refl _, Nat.le_refl _⟩, (Below.refl _ w).alloc (Nat.le_refl _) _, by simp⟩
/-- The step. -/
theorem next_run {P : Program} {w : World} {B r : Nat} {m : List (κ × ν)} {came : List κ} (h : RIs ek ev w B r m came) (ty : TypeId) :
    ((∀ p ∈ m, p.1 ∈ came) ∧ (Instr.next (.pointer (some ⟨r, 0, none⟩)) false ty).run P w = .ok (.tuple #[.bool false]) w) ∨
    ∃ x v w', (x, v) ∈ m ∧ x ∉ came ∧ (Instr.next (.pointer (some ⟨r, 0, none⟩)) false ty).run P w = .ok (.tuple #[.bool true, ek x, ev v]) w' ∧ RIs ek ev w' B r m (x :: came) ∧ w'.rangeLeft B r < w.rangeLeft B r ∧
      w.grownBy w' (some r) ∧ w'.heap.size = w.heap.size ∧ (Instr.entry (.pointer (some ⟨r, 0, none⟩))).run P w' = .ok (.tuple #[ek x, ev v]) w' := by
  have hne := h.ne
  obtain ⟨es, clk, since, seen, c0, hb, hes, hbn, hbc, hnd, hr, hold, hseen, hsc, hsk⟩ := h
  have hnb := nodup_born hbn
  rcases run_next_at (P := P) w ty r B since c0 seen es clk hr hb hold hsc with ⟨h0, hrun⟩ | ⟨e, he, w1, hal, hrun⟩
  · refine .inl ⟨fun p hp => ?_, hrun⟩
    obtain ⟨i, hi⟩ := List.mem_iff_getElem?.1 hp
    obtain ⟨e, hei, _⟩ := ent_of hes hi
    have := hseen i e p hei hi
    rw [all_seen es seen h0 e (List.mem_of_getElem? hei)] at this
    simpa using this.symm
  · obtain ⟨hem, hen⟩ := mem_left he
    obtain ⟨i, hi⟩ := List.mem_iff_getElem?.1 hem
    obtain ⟨p, hp, hk, hv⟩ := ent_at hes hi
    have hpc := hseen i e p hi hp
    rw [hen] at hpc
    have hnc : p.1 ∉ came := by simpa using hpc.symm
    have hr1 : w1.heap[r]? = some (.mapIter (some B) since seen c0) := by rcases hal with rfl | rfl <;> exact hr
    have hb1 : w1.heap[B]? = some (.map es clk) := by rcases hal with rfl | rfl <;> exact hb
    have hset := heap_set (o' := .mapIter (some B) since (seen.push e.born) clk) hr1
    have hb' : (setBlock w1 r (.mapIter (some B) since (seen.push e.born) clk)).heap[B]? = some (.map es clk) := (hset.2 B (fun e1 => hne e1.symm)).trans hb1
    refine .inr ⟨p.1, p.2, setBlock w1 r (.mapIter (some B) since (seen.push e.born) clk), List.mem_of_getElem? hp, hnc, by rw [hrun, hk, hv],
      ⟨es, clk, since, seen.push e.born, clk, hb', hes, hbn, hbc, hnd, hset.1, hold, fun j e' p' hj hp' => ?_, hsk, hsk⟩, ?_, ?_, ?_, ?_⟩
    · rw [contains_push, hseen j e' p' hj hp', Bool.eq_iff_iff]
      simp only [Bool.or_eq_true, decide_eq_true_eq, beq_iff_eq, List.mem_cons]
      constructor
      · rintro (h | h)
        · exact .inr h
        · have : e' = e := born_inj hnb (List.mem_of_getElem? hj) hem (by omega)
          subst this
          have hij : j = i := by
            have hl1 := (List.getElem?_eq_some_iff.1 hj).1
            have hl2 := (List.getElem?_eq_some_iff.1 hi).1
            have e1 : (es.toList.map (·.born))[j]? = (es.toList.map (·.born))[i]? := by simp [List.getElem?_map, hj, hi]
            have hl1' : j < (es.toList.map (·.born)).length := by simpa using hl1
            exact (List.getElem?_inj hl1' hnb).1 e1
          subst hij
          rw [hp] at hp'
          cases hp'
          exact .inl rfl
      · rintro (h | h)
        · right
          have hij : j = i := by
            have e1 : (m.map (·.1))[j]? = (m.map (·.1))[i]? := by simp [List.getElem?_map, hp, hp', h]
            have hl : j < (m.map (·.1)).length := by simpa using (List.getElem?_eq_some_iff.1 hp').1
            exact (List.getElem?_inj hl hnd).1 e1
          subst hij
          rw [hi] at hj
          cases hj
          rfl
        · exact .inl h
    · have := left_shrinks es seen e he
      unfold World.rangeLeft
      rw [hb', show (setBlock w1 r (.mapIter (some B) since (seen.push e.born) clk)).heap[r]? = _ from hset.1, hb, hr]
      exact this
    · rcases hal with rfl | rfl <;> exact ⟨rfl, rfl, rfl, by simp [setBlock], fun i _ hi => hset.2 i (fun e1 => hi (by rw [e1]))⟩
    · rcases hal with rfl | rfl <;> simp [setBlock]
    · rw [run_entry_at _ r B since seen es clk e hset.1 hb' hem hnb, hk, hv]
variable {P : Program} {ops : Array Oper} {rest : List Oper} {o : Oper} {a : Act} {Q : Exit → Act → World → Prop}
theorem wp_range (hg : o.guard = none) {mo : Operand} {MT kt et : TypeId} (hop : o.op = Op.range MT mo) (ht : P.underlying MT = some (.map kt et)) {w : World} {B : Nat} (hm : a.eval mo = .map (some B)) {m : List (κ × ν)} (hM : MapIs ek ev w B m) {r : Nat} (hr : w.heap.size = r)
    (hK : ∀ w', RIs ek ev w' B r m [] → Below w.heap.size w w' → w'.heap.size = w.heap.size + 1 → wpList P ops Q rest (a.put o.dst (.pointer (some ⟨r, 0, none⟩))) w') : wpList P ops Q (o :: rest) a w := by
  subst hr
  refine wpList_plain hg fun K' hK' => ?_
  obtain ⟨w', hrun, r1, r2, r3⟩ := range_run ht hM
  unfold Oper.wp
  simp [execOp, hop, hm, hrun, Result.andThen]
  exact hK' _ _ (hK w' r1 r2 r3)
/-- An entry has come. -/
structure Came (ek : κ → Value) (ev : ν → Value) (w w' : World) (B r : Nat) (m : List (κ × ν)) (came : List κ) (x : κ) (v : ν) : Prop where
  mem : (x, v) ∈ m
  fresh : x ∉ came
  ris : RIs ek ev w' B r m (x :: came)
  less : w'.rangeLeft B r < w.rangeLeft B r
  grown : w.grownBy w' (some r)
  size : w'.heap.size = w.heap.size
theorem wp_next (hg : o.guard = none) {it : Operand} (hop : o.op = Op.next it false) {w : World} {B r : Nat} {m : List (κ × ν)} {came : List κ} (hit : a.eval it = .pointer (some ⟨r, 0, none⟩)) (h : RIs ek ev w B r m came)
    (hDone : Hid (∀ p ∈ m, p.1 ∈ came) → wpList P ops Q rest (a.put o.dst (.tuple #[.bool false])) w)
    (hMore : ∀ (x : κ) (v : ν) (w' : World), Came ek ev w w' B r m came x v → (Instr.entry (.pointer (some ⟨r, 0, none⟩))).run P w' = .ok (.tuple #[ek x, ev v]) w' → wpList P ops Q rest (a.put o.dst (.tuple #[.bool true, ek x, ev v])) w') : wpList P ops Q (o :: rest) a w := by
  refine wpList_plain hg fun K' hK' => ?_
  unfold Oper.wp
  rcases next_run (P := P) h o.type with ⟨h0, hrun⟩ | ⟨x, v, w', h1, h2, hrun, h3, h4, h5, h6, h7⟩
  · simp [execOp, hop, hit, hrun, Result.andThen]
    exact hK' _ _ (hDone (Lib.hid h0))
  · simp [execOp, hop, hit, hrun, Result.andThen]
    exact hK' _ _ (hMore x v w' ⟨h1, h2, h3, h4, h5, h6⟩ h7)
end
section
variable {κ ν : Type} [DecidableEq κ] {ek : κ → Value} {ev : ν → Value}
def mdel (m : List (κ × ν)) (x : κ) : List (κ × ν) := m.filter fun p => decide (p.1 ≠ x)
theorem keyIdx_some {ks : List κ} {x : κ} {i j : Nat} (h : keyIdx ks x i = some j) : i ≤ j ∧ ks[j - i]? = some x := keyIdx_ge h
theorem eraseIdx_filter {m : List (κ × ν)} (hnd : (m.map (·.1)).Nodup) {j : Nat} {v : κ × ν} (hj : m[j]? = some v) : m.eraseIdx j = m.filter fun p => decide (p.1 ≠ v.1) := by
  induction m generalizing j with
  | nil => simp at hj
  | cons a m ih =>
    simp only [List.map_cons, List.nodup_cons] at hnd
    cases j with
    | zero =>
      simp only [List.getElem?_cons_zero, Option.some.injEq] at hj
      subst hj
      simp only [List.eraseIdx_cons_zero, List.filter_cons, ne_eq, not_true_eq_false, decide_false, Bool.false_eq_true, if_false]
      refine (List.filter_eq_self.2 fun p hp => ?_).symm
      simp only [decide_eq_true_eq]
      intro e
      exact hnd.1 (e ▸ List.mem_map_of_mem hp)
    | succ j =>
      simp only [List.getElem?_cons_succ] at hj
      have hne : a.1 ≠ v.1 := by
        intro e
        exact hnd.1 (e ▸ List.mem_map_of_mem (List.mem_of_getElem? hj))
      simp only [List.eraseIdx_cons_succ, List.filter_cons, ne_eq, hne, not_false_eq_true, decide_true, if_true]
      rw [ih hnd.2 hj]
theorem delete_run {P : Program} {MT kt et : TypeId} (K : Key P kt ek) (ht : P.underlying MT = some (.map kt et)) {w : World} {B : Nat} {m : List (κ × ν)} (hM : MapIs ek ev w B m) (x : κ) (t2 ty : TypeId) :
    ∃ w', (Builtin.delete_ #[MT, t2] ty #[.map (some B), ek x]).run P w = .ok (.tuple #[]) w' ∧ MapIs ek ev w' B (mdel m x) ∧ w.grownBy w' (some B) ∧ w'.heap.size = w.heap.size := by
  obtain ⟨es, clk, hB, hes, hbn, hbc, hnd⟩ := hM
  have hlt := lt_of_block hB
  have hf := findKey_run K x w (m.map (·.1)) es.toList (entries_key hes)
  have hgo : (getObj B).run P w = .ok (.map es clk) w := by simp [getObj, Sem.run, hB]
  have hset : ∀ o, (setObj B o).run P w = .ok () { w with heap := w.heap.setIfInBounds B o } := by intro o; simp [setObj, Sem.run, hB]
  have hgrow : ∀ o, w.grownBy { w with heap := w.heap.setIfInBounds B o } (some B) := fun o => ⟨rfl, rfl, rfl, by simp, fun k _ hne => by
    have : B ≠ k := fun e => hne (by rw [e])
    simp [Array.getElem?_setIfInBounds_ne this]⟩
  have hat : ∀ o : Obj, ({ w with heap := w.heap.setIfInBounds B o } : World).heap[B]? = some o := fun o => by simp [hlt]
  cases hj : keyIdx (m.map (·.1)) x 0 with
  | none =>
    rw [hj] at hf
    have hx := keyIdx_none hj
    have hmd : mdel m x = m := List.filter_eq_self.2 fun p hp => by
      simp only [decide_eq_true_eq]
      intro e
      exact hx (e ▸ List.mem_map_of_mem hp)
    refine ⟨{ w with heap := w.heap.setIfInBounds B (.map es clk) }, ?_, ⟨es, clk, hat _, by rw [hmd]; exact hes, hbn, hbc, by rw [hmd]; exact hnd⟩, hgrow _, by simp⟩
    simp [Builtin.delete_, run_underlying ht, hgo, K.chk, hf, hset, Result.andThen]
  | some j =>
    rw [hj] at hf
    obtain ⟨_, hjk⟩ := keyIdx_some hj
    simp only [Nat.sub_zero, List.getElem?_map, Option.map_eq_some_iff] at hjk
    obtain ⟨p, hp, hpx⟩ := hjk
    obtain ⟨e, he, _, _⟩ := ent_of hes hp
    have hjl : j < es.size := by have := (List.getElem?_eq_some_iff.1 he).1; simpa using this
    have hmd : mdel m x = m.eraseIdx j := by rw [eraseIdx_filter hnd hp, hpx]; rfl
    have hsub : (es.eraseIdxIfInBounds j).toList = es.toList.eraseIdx j := by
      unfold Array.eraseIdxIfInBounds
      rw [dif_pos hjl]
      simp
    have he' : es[j]? = some e := by simpa using he
    refine ⟨{ w with heap := w.heap.setIfInBounds B (.map (es.eraseIdxIfInBounds j) clk) }, ?_, ⟨_, clk, hat _, ?_, ?_, ?_, ?_⟩, hgrow _, by simp⟩
    · simp [Builtin.delete_, run_underlying ht, hgo, K.chk, hf, he', hset, Result.andThen]
    · rw [hsub, hmd, map_eraseIdx, map_eraseIdx, hes]
    · rw [hsub, map_eraseIdx]
      exact hbn.sublist (List.eraseIdx_sublist _ _)
    · intro x hx
      rw [hsub] at hx
      exact hbc x ((List.eraseIdx_sublist _ _).subset hx)
    · rw [hmd, map_eraseIdx]
      exact hnd.sublist (List.eraseIdx_sublist _ _)
variable {P : Program} {ops : Array Oper} {rest : List Oper} {o : Oper} {a : Act} {Q : Exit → Act → World → Prop}
theorem wp_delete (hg : o.guard = none) {mo xo : Operand} {MT kt et t2 : TypeId} (hop : o.op = Op.call { callee := Callee.builtin Builtin.delete, args := #[mo, xo], argTypes := #[MT, t2] }) (K : Key P kt ek) (ht : P.underlying MT = some (.map kt et)) {w : World} {B : Nat}
    (hm : a.eval mo = .map (some B)) {x : κ} (hx : a.eval xo = ek x) {m : List (κ × ν)} (hM : MapIs ek ev w B m)
    (hK : ∀ w', MapIs ek ev w' B (mdel m x) → w.grownBy w' (some B) → w'.heap.size = w.heap.size → wpList P ops Q rest (a.put o.dst (.tuple #[])) w') : wpList P ops Q (o :: rest) a w := by
  refine wpList_plain hg fun K' hK' => ?_
  obtain ⟨w', hrun, r1, r2, r3⟩ := delete_run (t2 := t2) (ty := o.type) K ht hM x
  unfold Oper.wp
  simp [execOp, hop, resolve, invoke, builtin, hm, hx, hrun, Result.andThen]
  exact hK' _ _ (hK w' r1 r2 r3)
end
end Go.Proofs.Ytkccakaaklemdaa
