/- append(own, s...) for a whole slice. -/
import Derived.Test.YtkccakaaklemdaaBase
import Derived.Laws.AppendOwnNone
namespace Go.Proofs.Ytkccakaaklemdaa
open Go.RowKit
theorem flatMap_len {α : Type} {k : Nat} {enc : α → List Value} (hk : ∀ x, (enc x).length = k) (ys : List α) : (ys.flatMap enc).length = ys.length * k := by
  induction ys with
  | nil => simp
  | cons y ys ih => simp only [List.flatMap_cons, List.length_append, hk, ih, List.length_cons, Nat.succ_mul]; omega
theorem Rd.cellAt {α : Type} {k : Nat} {enc : α → List Value} (hk : ∀ x, (enc x).length = k) (hk0 : 0 < k) {w : World} {b o : Nat} {ys : List α} (h : Rd k enc w (some ⟨b, o, none⟩) ys) (j : Nat) (u : Value) (hu : (ys.flatMap enc)[j]? = some u) : w.cell? ⟨b, o + j, none⟩ = some u := by
  have hlt : j < ys.length * k := by rw [← flatMap_len hk]; exact (List.getElem?_eq_some_iff.1 hu).1
  have hi : j / k < ys.length := Nat.div_lt_of_lt_mul (by rwa [Nat.mul_comm])
  have hr : j % k < k := Nat.mod_lt _ hk0
  obtain ⟨b', o', he, _, hc⟩ := h.at hi
  cases he
  have hrk : j % k < (enc ys[j / k]).length := by rw [hk]; exact hr
  have hu' : (enc ys[j / k])[j % k]? = some (enc ys[j / k])[j % k] := List.getElem?_eq_getElem hrk
  have h1 := flatMap_get hk ys (j / k) _ (List.getElem?_eq_getElem hi) (j % k) _ hu'
  have hd : j / k * k + j % k = j := by rw [Nat.mul_comm]; exact Nat.div_add_mod j k
  rw [hd, hu] at h1
  have h2 := hc (j % k) _ hu'
  rw [Nat.add_assoc, hd] at h2
  rw [h2, h1]
section
variable {α : Type} {P : Program} {ops : Array Oper} {rest : List Oper} {o : Oper} {a : Act} {Q : Exit → Act → World → Prop}
theorem addr_add' (b o j : Nat) : (⟨b, o, none⟩ : Addr).add j = ⟨b, o + j, none⟩ := by unfold Addr.add; split <;> simp_all
theorem wp_append_all {enc : α → List Value} {k base : Nat} {w : World} (hgd : o.guard = none) {s x : Operand} {t e : TypeId} (ho : o.op = .call { callee := .builtin .append, args := #[s, x], argTypes := #[t, t] })
    (ht : P.underlying t = some (.slice e)) {z : Value} {bytes : Nat} (hinfo : (P.info? e).map (fun i => (i.zero, i.size, i.bytes)) = some (some z, k, bytes)) (hz : z.cells.size = k) (hk0 : 0 < k) (hk : ∀ x, (enc x).length = k) (h1 : ∀ x, ∀ u ∈ enc x, u.oneCell' = true)
    {v : Value} {xs : List α} (hs : a.eval s = v) (hown : Own w base e k enc v xs) {A : Option Addr} {c : Nat} {ys : List α} (hx : a.eval x = .slice A ys.length c) (hA : A = none → c = 0) (hR : Rd k enc w A ys)
    (hb : (xs.length + ys.length) * bytes ≤ 140737488355328) (hl : xs.length + ys.length ≤ maxLen) (hbase : base ≤ w.heap.size)
    (h : ∀ v' w', Own w' base e k enc v' (xs ++ ys) → w.grownBy w' v.ownBlock → (v'.ownBlock = v.ownBlock ∨ v'.ownBlock = some w.heap.size) → wpList P ops Q rest (a.put o.dst v') w') : wpList P ops Q (o :: rest) a w := by
  obtain ⟨i0, hi, hz0, hz1, hz2⟩ := info_parts hinfo
  cases A with
  | none =>
    have hys : ys = [] := by
      rcases Classical.em (ys = []) with e | e
      · exact e
      · obtain ⟨b, o, hA', _⟩ := hR.2 e
        cases hA'
    subst hys
    obtain rfl := hA rfl
    refine wpList_append_own_none (w := w) hgd s x t ho base e i0 k ht hi v xs.length _ hs hown hx ?_
    exact h v w (by simpa using hown) ⟨rfl, rfl, rfl, Nat.le_refl _, fun _ _ _ => rfl⟩ (.inl rfl)
  | some ad =>
    refine wpList_append_own_at (w := w) hgd s x t ho base e i0 z k bytes ht hi hz0 hz1 hz2 hz hk0 v xs.length _ hs hown ad ys.length c (ys.flatMap enc) hx (flatMap_len hk ys) (fun j u hu => ?_) (fun u hu => ?_) hl hb hbase (fun v' w' h2 h3 _ h4 => h v' w' ?_ h3 h4)
    · have hne : ys ≠ [] := fun e => by subst e; simp at hu
      obtain ⟨b, o, hA', _⟩ := hR.2 hne
      cases hA'
      rw [addr_add']
      exact hR.cellAt hk hk0 j u hu
    · obtain ⟨y, _, hy⟩ := List.mem_flatMap.1 hu
      exact h1 y u hy
    · show w'.ownsRow _ _ _ _ _ _
      rw [List.length_append, List.flatMap_append]
      exact h2
/-- The same as one step of a region that draws its order. -/
theorem step_append_all {enc : α → List Value} {k base : Nat} {w : World} {K : Act → World → Prop} {E : Prop} (hgd : o.guard = none) {s x : Operand} {t e : TypeId} (ho : o.op = .call { callee := .builtin .append, args := #[s, x], argTypes := #[t, t] })
    (ht : P.underlying t = some (.slice e)) {z : Value} {bytes : Nat} (hinfo : (P.info? e).map (fun i => (i.zero, i.size, i.bytes)) = some (some z, k, bytes)) (hz : z.cells.size = k) (hk0 : 0 < k) (hk : ∀ x, (enc x).length = k) (h1 : ∀ x, ∀ u ∈ enc x, u.oneCell' = true)
    {v : Value} {xs : List α} (hs : a.eval s = v) (hown : Own w base e k enc v xs) {A : Option Addr} {c : Nat} {ys : List α} (hx : a.eval x = .slice A ys.length c) (hA : A = none → c = 0) (hR : Rd k enc w A ys)
    (hb : (xs.length + ys.length) * bytes ≤ 140737488355328) (hl : xs.length + ys.length ≤ maxLen) (hbase : base ≤ w.heap.size)
    (h : ∀ v' w', Own w' base e k enc v' (xs ++ ys) → w.grownBy w' v.ownBlock → (v'.ownBlock = v.ownBlock ∨ v'.ownBlock = some w.heap.size) → K (a.put o.dst v') w') : if Region.wanted o (yielded ops a.tmps) = true then Oper.wp P o a w K Q else E := by
  have hw : Region.wanted o (yielded ops a.tmps) = true := by simp [Region.wanted, hgd]
  rw [if_pos hw]
  obtain ⟨i0, hi, hz0, hz1, hz2⟩ := info_parts hinfo
  cases A with
  | none =>
    have hys : ys = [] := by
      rcases Classical.em (ys = []) with e | e
      · exact e
      · obtain ⟨b, o, hA', _⟩ := hR.2 e
        cases hA'
    subst hys
    obtain rfl := hA rfl
    have hrun := run_append_owned_none (P := P) (w := w) base t o.type e i0 k ht hi v xs.length _ hown
    unfold Oper.wp
    simp only [List.length_nil] at hx
    simp [execOp, ho, resolve, invoke, builtin, hs, hx, hrun, Result.andThen]
    exact h v w (by simpa using hown) ⟨rfl, rfl, rfl, Nat.le_refl _, fun _ _ _ => rfl⟩ (.inl rfl)
  | some ad =>
    obtain ⟨v', w', hr, h2, h3, _, h5⟩ := run_append_own_at (P := P) w base t o.type e i0 z k bytes ht hi hz0 hz1 hz2 hz hk0 v xs.length _ hown ad ys.length c (ys.flatMap enc) (flatMap_len hk ys) (fun j u hu => by
      have hne : ys ≠ [] := fun e => by subst e; simp at hu
      obtain ⟨b, o, hA', _⟩ := hR.2 hne
      cases hA'
      rw [addr_add']
      exact hR.cellAt hk hk0 j u hu) (fun u hu => by
      obtain ⟨y, _, hy⟩ := List.mem_flatMap.1 hu
      exact h1 y u hy) hl hb hbase
    unfold Oper.wp execOp
    simp only [ho, resolve, invoke, builtin, Sem.run_bind, Sem.run_pure, Result.andThen_ok, List.map_toArray, List.map_cons, List.map_nil, hs, hx, hr]
    refine h v' w' ?_ h3 h5
    show w'.ownsRow _ _ _ _ _ _
    rw [List.length_append, List.flatMap_append]
    exact h2
theorem step_append1 {enc : α → List Value} {k base : Nat} {w : World} {K : Act → World → Prop} {E : Prop} (hgd : o.guard = none) {s x : Operand} {t e : TypeId} (ho : o.op = .call { callee := .builtin .append, args := #[s, x], argTypes := #[t, t] })
    (ht : P.underlying t = some (.slice e)) {z : Value} {bytes : Nat} (hinfo : (P.info? e).map (fun i => (i.zero, i.size, i.bytes)) = some (some z, k, bytes)) (hz : z.cells.size = k) (hk0 : 0 < k) (hk : ∀ x, (enc x).length = k) (h1 : ∀ x, ∀ u ∈ enc x, u.oneCell' = true)
    {v : Value} {xs : List α} (hs : a.eval s = v) (hown : Own w base e k enc v xs) {g : Nat} {c : Nat} (hx : a.eval x = .slice (some ⟨g, 0, none⟩) 1 c) {y : α} {cs : Array Value} {T : TypeId} (hg : w.heap[g]? = some (.cells cs T (0, 0))) (hcs : cs = (enc y).toArray)
    (hb : (xs.length + 1) * bytes ≤ 140737488355328) (hl : xs.length + 1 ≤ maxLen) (hbase : base ≤ w.heap.size)
    (h : ∀ v' w', Own w' base e k enc v' (xs ++ [y]) → w.grownBy w' v.ownBlock → (v'.ownBlock = v.ownBlock ∨ v'.ownBlock = some w.heap.size) → K (a.put o.dst v') w') : if Region.wanted o (yielded ops a.tmps) = true then Oper.wp P o a w K Q else E := by
  refine step_append_all (ys := [y]) (A := some ⟨g, 0, none⟩) (c := c) hgd ho ht hinfo hz hk0 hk h1 hs hown hx (fun e => by cases e) ?_ hb hl hbase h
  refine Rd_blk (by simp) hg (fun i x hx j u hu => ?_)
  subst hcs
  cases i with
  | zero => simp only [List.getElem?_cons_zero, Option.some.injEq] at hx; subst hx; simpa using hu
  | succ i => simp at hx
end
end Go.Proofs.Ytkccakaaklemdaa
