/- GI: several texts in one. -/
import Derived.Test.YtdocgemfedohdaaGreatGH
import Derived.Test.YtdocgemfedohdaaGreatGG
import Derived.Deep.QuietTactic
import Derived.Lib.MinMax
import Derived.Test.YtdocgemfedohdaaGreatGA
import Derived.Laws.AppendOwnNone
import Derived.Laws.MakeOwn
import Derived.Test.YtdocgemfedohdaaGreatGE
import Derived.Test.YtdocgemfedohdaaGreatShelf
import Derived.Shelf.GgSortFunc.InsertionK
import Derived.Lib.Hide
/-! Shuffles: where a round, and all rounds, take a place. -/
namespace Go.Proofs.YtdocgemfedohdaaGreat
open Go.RowKit
set_option maxRecDepth 100000 in
set_option maxHeartbeats 1600000 in
theorem turn_any (B : Nat) (r : Nat) (seed n asked i : Int) (w : World) (hr : r < 10) (hn0 : 0 < n) (hn1 : n ≤ 1000) (hi0 : 0 ≤ i) (hi1 : i < n) (h : DeckC w B seed n asked) :
    Calls Tryz.prog 52 #[.pointer (some ⟨B, 0, none⟩), .int .i64 r, .int .i64 i] w fun e w' => e = .returned (.int .i64 (shufRound seed n r i)) ∧
      DeckC w' B seed n (wrap64 (asked + 1)) ∧ w.grownBy w' (some B) := by
  have hg := get_any B r seed n asked w hr hn0 hn1 h
  have hne : ¬ n = 0 := by omega
  have hlo := Int.emod_nonneg (mixStep seed r) hne
  have hhi := Int.emod_lt_of_pos (mixStep seed r) hn0
  unfold RoundC at hg
  unfold shufRound
  dsimp only
  generalize mixStep seed r % n = pv at hg hlo hhi ⊢
  have h1 : wrap64 (pv + n) = pv + n := w64_id (by omega) (by omega)
  have h2 : wrap64 (pv + n - i) = pv + n - i := w64_id (by omega) (by omega)
  have h1' : IntKind.i64.wrap (pv + n) = pv + n := by rw [IntKind.wrap_i64]; omega
  have h2' : IntKind.i64.wrap (pv + n - i) = pv + n - i := by rw [IntKind.wrap_i64]; omega
  have h3 : (pv + n - i).tmod n = (pv + n - i) % n := Int.tmod_eq_emod_of_nonneg (by omega)
  have hm0 := Int.emod_nonneg (pv + n - i) hne
  have hm1 := Int.emod_lt_of_pos (pv + n - i) hn0
  obtain ⟨mate, hmate⟩ : ∃ m, (pv + n - i) % n = m := ⟨_, rfl⟩
  rw [hmate] at h3 hm0 hm1 ⊢
  have h4 : wrap64 mate = mate := w64_id hm0 (by omega)
  have h5 : IntKind.u64.wrap mate = mate := u64_id hm0 (by omega)
  obtain ⟨mx, hmx⟩ : ∃ m, (if i < mate then mate else i) = m := ⟨_, rfl⟩
  have hx0 : 0 ≤ mx ∧ mx < n := by rw [← hmx]; split <;> omega
  have h6 : IntKind.u64.wrap mx = mx := u64_id hx0.1 (by omega)
  have hmax : max i mate = mx := by rw [← hmx, Int.max_def]; split <;> split <;> omega
  rw [hmx]
  have hb1 : ∀ x : Int, bits BinOp.and IntKind.u64 (mixStep (mixStep seed (1000 + r)) x) 1 = mixStep (mixStep seed (1000 + r)) x % 2 := fun x => by
    obtain ⟨k, hk, e⟩ := mixWord_nat (IntKind.u64.wrap (bits BinOp.xor IntKind.u64 (mixStep seed (1000 + r)) x + 11400714819323198485))
    unfold mixStep at e ⊢
    rw [e]
    have h := u64_and_nat k 1 hk (by omega)
    rw [Nat.and_one_is_mod] at h
    exact h.trans (by omega)
  have hbit : mixStep (mixStep seed (1000 + r)) mx % 2 = 1 ∨ mixStep (mixStep seed (1000 + r)) mx % 2 = 0 := by omega
  have hbv := hb1 mx
  clear hmate hlo hhi hmx hx0 hb1 h hm0 hm1
  rcases hbit with hx | hx
  · rw [if_pos hx]
    rw [hx] at hbv
    clear hx
    go_enter Tryz.func52, Tryz.ntmps52
    go_wp2_with (go_at_call 64; refine hg.mono ?_; rintro e w' ⟨rfl, hd, ⟨e3, e4⟩, hgr⟩; have e1 := hd.c1)
    go_still (by kernel_rfl)
    change Exit.then _ _ _ _ w'.drew
    have e3' : w'.drew.cell? ⟨B, 2 + 5 * r + 3, none⟩ = some (.int .i64 pv) := e3
    have e4' : w'.drew.cell? ⟨B, 2 + 5 * r + 4, none⟩ = some (.int .u64 (mixStep seed (1000 + r))) := e4
    replace hd := hd.kept (row := none) (w' := w'.drew) ⟨rfl, rfl, rfl, Nat.le_refl _, fun _ _ _ => rfl⟩ (by simp)
    replace hgr : w.grownBy w'.drew (some B) := ⟨hgr.os, hgr.tape, hgr.output, hgr.size, hgr.block⟩
    clear e3 e4 e1 h1 h2 h1' h2' h3
    generalize w'.drew = W at e3' e4' hd hgr ⊢
    go_wp2_with (go_at_call 23; refine (step_any _ _ _).mono ?_; rintro e w' ⟨rfl, rfl⟩)
    go_ret
    exact ⟨rfl, hd, hgr⟩
  · rw [if_neg (by omega)]
    rw [hx] at hbv
    clear hx
    go_enter Tryz.func52, Tryz.ntmps52
    go_wp2_with (go_at_call 64; refine hg.mono ?_; rintro e w' ⟨rfl, hd, ⟨e3, e4⟩, hgr⟩; have e1 := hd.c1)
    go_still (by kernel_rfl)
    change Exit.then _ _ _ _ w'.drew
    have e3' : w'.drew.cell? ⟨B, 2 + 5 * r + 3, none⟩ = some (.int .i64 pv) := e3
    have e4' : w'.drew.cell? ⟨B, 2 + 5 * r + 4, none⟩ = some (.int .u64 (mixStep seed (1000 + r))) := e4
    replace hd := hd.kept (row := none) (w' := w'.drew) ⟨rfl, rfl, rfl, Nat.le_refl _, fun _ _ _ => rfl⟩ (by simp)
    replace hgr : w.grownBy w'.drew (some B) := ⟨hgr.os, hgr.tape, hgr.output, hgr.size, hgr.block⟩
    clear e3 e4 e1 h1 h2 h1' h2' h3
    generalize w'.drew = W at e3' e4' hd hgr ⊢
    go_wp2_with (go_at_call 23; refine (step_any _ _ _).mono ?_; rintro e w' ⟨rfl, rfl⟩)
    go_ret
    exact ⟨rfl, hd, hgr⟩
end Go.Proofs.YtdocgemfedohdaaGreat
/-! Shuffles: where all rounds take a place; all of them. -/
namespace Go.Proofs.YtdocgemfedohdaaGreat
open Go.RowKit
set_option maxRecDepth 100000 in
set_option maxHeartbeats 1600000 in
theorem at_any (B : Nat) (seed n asked i : Int) (w : World) (hn0 : 0 < n) (hn1 : n ≤ 1000) (hi0 : 0 ≤ i) (hi1 : i < n) (ha0 : 0 ≤ asked) (ha1 : asked ≤ 100000) (h : DeckC w B seed n asked) :
    Calls Tryz.prog 37 #[.pointer (some ⟨B, 0, none⟩), .int .i64 i] w fun e w' => e = .returned (.int .i64 (shufAt seed n i)) ∧
      DeckC w' B seed n (asked + 10) ∧ w.grownBy w' (some B) := by
  go_enter Tryz.func37, Tryz.ntmps37
  go_wp2_with fail
  go_loopw [1, 5, 6] (fun x _ c wr => ∃ k : Nat, k ≤ 10 ∧ c = .int .i64 k ∧ x = .int .i64 (shufTo seed n k i) ∧ DeckC wr B seed n (asked + k) ∧ w.grownBy wr (some B)) (fun _ _ c _ => 10 - (intOf c).toNat)
  case atStart => exact ⟨0, by omega, rfl, rfl, by simpa using h, ⟨rfl, rfl, rfl, Nat.le_refl _, fun _ _ _ => rfl⟩⟩
  case round =>
    obtain ⟨k, hk, rfl, rfl, hd, hg⟩ := hrel
    by_cases hlt : k < 10
    · have hb := shufTo_bd (seed := seed) hn0 hi0 hi1 k
      have hw : wrap64 (asked + k + 1) = asked + (k + 1 : Nat) := by rw [w64_id (by omega) (by omega)]; omega
      have ht := turn_any B k seed n (asked + k) (shufTo seed n k i) wr hlt hn0 hn1 hb.1 hb.2 hd
      rw [hw] at ht
      clear hw
      go_wp2_with (go_at_call 52; refine ht.mono ?_; rintro e w' ⟨rfl, hd', hg'⟩)
      go_roundw
      case rel => exact ⟨k + 1, hlt, by go_num, rfl, hd', hg.trans hg'⟩
      case measure => simp [intOf]; omega
    · obtain rfl : k = 10 := by omega
      go_wp2_with fail
      go_ret
      exact ⟨rfl, hd, hg⟩
end Go.Proofs.YtdocgemfedohdaaGreat
/-! append(own, s...) for a whole slice. -/
namespace Go.Proofs.YtdocgemfedohdaaGreat
open Go.RowKit
theorem flatMap_len {α : Type} {k : Nat} {enc : α → List Value} (hk : ∀ x, (enc x).length = k) (ys : List α) : (ys.flatMap enc).length = ys.length * k := by
  induction ys with
  | nil => simp
  | cons y ys ih => simp only [List.flatMap_cons, List.length_append, hk, ih, List.length_cons, Nat.succ_mul]; omega
theorem Rd.cellAt {α : Type} {k : Nat} {enc : α → List Value} (hk : ∀ x, (enc x).length = k) (hk0 : 0 < k) {w : World} {b o : Nat} {ys : List α} (h : Rd k enc w (some ⟨b, o, none⟩) ys) (j : Nat) (u : Value) (hu : (ys.flatMap enc)[j]? = some u) : w.cell? ⟨b, o + j, none⟩ = some u := by
  have hlt : j < ys.length * k := by rw [← flatMap_len hk]; exact (List.getElem?_eq_some_iff.1 hu).1
  have hi : j / k < ys.length := Nat.div_lt_of_lt_mul (by rwa [Nat.mul_comm])
  have hr : j % k < k := Nat.mod_lt _ hk0
  obtain ⟨b', o', he, _, hc⟩ := h.at hi
  cases he
  have hrk : j % k < (enc ys[j / k]).length := by rw [hk]; exact hr
  have hu' : (enc ys[j / k])[j % k]? = some (enc ys[j / k])[j % k] := List.getElem?_eq_getElem hrk
  have h1 := flatMap_get hk ys (j / k) _ (List.getElem?_eq_getElem hi) (j % k) _ hu'
  have hd : j / k * k + j % k = j := by rw [Nat.mul_comm]; exact Nat.div_add_mod j k
  rw [hd, hu] at h1
  have h2 := hc (j % k) _ hu'
  rw [Nat.add_assoc, hd] at h2
  rw [h2, h1]
section
variable {α : Type} {P : Program} {ops : Array Oper} {rest : List Oper} {o : Oper} {a : Act} {Q : Exit → Act → World → Prop}
theorem addr_add' (b o j : Nat) : (⟨b, o, none⟩ : Addr).add j = ⟨b, o + j, none⟩ := by unfold Addr.add; split <;> simp_all
theorem wp_append_all {enc : α → List Value} {k base : Nat} {w : World} (hgd : o.guard = none) {s x : Operand} {t e : TypeId} (ho : o.op = .call { callee := .builtin .append, args := #[s, x], argTypes := #[t, t] })
    (ht : P.underlying t = some (.slice e)) {z : Value} {bytes : Nat} (hinfo : (P.info? e).map (fun i => (i.zero, i.size, i.bytes)) = some (some z, k, bytes)) (hz : z.cells.size = k) (hk0 : 0 < k) (hk : ∀ x, (enc x).length = k) (h1 : ∀ x, ∀ u ∈ enc x, u.oneCell' = true)
    {v : Value} {xs : List α} (hs : a.eval s = v) (hown : Own w base e k enc v xs) {A : Option Addr} {c : Nat} {ys : List α} (hx : a.eval x = .slice A ys.length c) (hA : A = none → c = 0) (hR : Rd k enc w A ys)
    (hb : (xs.length + ys.length) * bytes ≤ 140737488355328) (hl : xs.length + ys.length ≤ maxLen) (hbase : base ≤ w.heap.size)
    (h : ∀ v' w', Own w' base e k enc v' (xs ++ ys) → w.grownBy w' v.ownBlock → (v'.ownBlock = v.ownBlock ∨ v'.ownBlock = some w.heap.size) → wpList P ops Q rest (a.put o.dst v') w') : wpList P ops Q (o :: rest) a w := by
  obtain ⟨i0, hi, hz0, hz1, hz2⟩ := info_parts hinfo
  cases A with
  | none =>
    have hys : ys = [] := by
      rcases Classical.em (ys = []) with e | e
      · exact e
      · obtain ⟨b, o, hA', _⟩ := hR.2 e
        cases hA'
    subst hys
    obtain rfl := hA rfl
    refine wpList_append_own_none (w := w) hgd s x t ho base e i0 k ht hi v xs.length _ hs hown hx ?_
    exact h v w (by simpa using hown) ⟨rfl, rfl, rfl, Nat.le_refl _, fun _ _ _ => rfl⟩ (.inl rfl)
  | some ad =>
    refine wpList_append_own_at (w := w) hgd s x t ho base e i0 z k bytes ht hi hz0 hz1 hz2 hz hk0 v xs.length _ hs hown ad ys.length c (ys.flatMap enc) hx (flatMap_len hk ys) (fun j u hu => ?_) (fun u hu => ?_) hl hb hbase (fun v' w' h2 h3 _ h4 => h v' w' ?_ h3 h4)
    · have hne : ys ≠ [] := fun e => by subst e; simp at hu
      obtain ⟨b, o, hA', _⟩ := hR.2 hne
      cases hA'
      rw [addr_add']
      exact hR.cellAt hk hk0 j u hu
    · obtain ⟨y, _, hy⟩ := List.mem_flatMap.1 hu
      exact h1 y u hy
    · show w'.ownsRow _ _ _ _ _ _
      rw [List.length_append, List.flatMap_append]
      exact h2
/-- The same as one step of a region that draws its order. -/
theorem step_append_all {enc : α → List Value} {k base : Nat} {w : World} {K : Act → World → Prop} {E : Prop} (hgd : o.guard = none) {s x : Operand} {t e : TypeId} (ho : o.op = .call { callee := .builtin .append, args := #[s, x], argTypes := #[t, t] })
    (ht : P.underlying t = some (.slice e)) {z : Value} {bytes : Nat} (hinfo : (P.info? e).map (fun i => (i.zero, i.size, i.bytes)) = some (some z, k, bytes)) (hz : z.cells.size = k) (hk0 : 0 < k) (hk : ∀ x, (enc x).length = k) (h1 : ∀ x, ∀ u ∈ enc x, u.oneCell' = true)
    {v : Value} {xs : List α} (hs : a.eval s = v) (hown : Own w base e k enc v xs) {A : Option Addr} {c : Nat} {ys : List α} (hx : a.eval x = .slice A ys.length c) (hA : A = none → c = 0) (hR : Rd k enc w A ys)
    (hb : (xs.length + ys.length) * bytes ≤ 140737488355328) (hl : xs.length + ys.length ≤ maxLen) (hbase : base ≤ w.heap.size)
    (h : ∀ v' w', Own w' base e k enc v' (xs ++ ys) → w.grownBy w' v.ownBlock → (v'.ownBlock = v.ownBlock ∨ v'.ownBlock = some w.heap.size) → K (a.put o.dst v') w') : if Region.wanted o (yielded ops a.tmps) = true then Oper.wp P o a w K Q else E := by
  have hw : Region.wanted o (yielded ops a.tmps) = true := by simp [Region.wanted, hgd]
  rw [if_pos hw]
  obtain ⟨i0, hi, hz0, hz1, hz2⟩ := info_parts hinfo
  cases A with
  | none =>
    have hys : ys = [] := by
      rcases Classical.em (ys = []) with e | e
      · exact e
      · obtain ⟨b, o, hA', _⟩ := hR.2 e
        cases hA'
    subst hys
    obtain rfl := hA rfl
    have hrun := run_append_owned_none (P := P) (w := w) base t o.type e i0 k ht hi v xs.length _ hown
    unfold Oper.wp
    simp only [List.length_nil] at hx
    simp [execOp, ho, resolve, invoke, builtin, hs, hx, hrun, Result.andThen]
    exact h v w (by simpa using hown) ⟨rfl, rfl, rfl, Nat.le_refl _, fun _ _ _ => rfl⟩ (.inl rfl)
  | some ad =>
    obtain ⟨v', w', hr, h2, h3, _, h5⟩ := run_append_own_at (P := P) w base t o.type e i0 z k bytes ht hi hz0 hz1 hz2 hz hk0 v xs.length _ hown ad ys.length c (ys.flatMap enc) (flatMap_len hk ys) (fun j u hu => by
      have hne : ys ≠ [] := fun e => by subst e; simp at hu
      obtain ⟨b, o, hA', _⟩ := hR.2 hne
      cases hA'
      rw [addr_add']
      exact hR.cellAt hk hk0 j u hu) (fun u hu => by
      obtain ⟨y, _, hy⟩ := List.mem_flatMap.1 hu
      exact h1 y u hy) hl hb hbase
    unfold Oper.wp execOp
    simp only [ho, resolve, invoke, builtin, Sem.run_bind, Sem.run_pure, Result.andThen_ok, List.map_toArray, List.map_cons, List.map_nil, hs, hx, hr]
    refine h v' w' ?_ h3 h5
    show w'.ownsRow _ _ _ _ _ _
    rw [List.length_append, List.flatMap_append]
    exact h2
theorem step_append1 {enc : α → List Value} {k base : Nat} {w : World} {K : Act → World → Prop} {E : Prop} (hgd : o.guard = none) {s x : Operand} {t e : TypeId} (ho : o.op = .call { callee := .builtin .append, args := #[s, x], argTypes := #[t, t] })
    (ht : P.underlying t = some (.slice e)) {z : Value} {bytes : Nat} (hinfo : (P.info? e).map (fun i => (i.zero, i.size, i.bytes)) = some (some z, k, bytes)) (hz : z.cells.size = k) (hk0 : 0 < k) (hk : ∀ x, (enc x).length = k) (h1 : ∀ x, ∀ u ∈ enc x, u.oneCell' = true)
    {v : Value} {xs : List α} (hs : a.eval s = v) (hown : Own w base e k enc v xs) {g : Nat} {c : Nat} (hx : a.eval x = .slice (some ⟨g, 0, none⟩) 1 c) {y : α} {cs : Array Value} {T : TypeId} (hg : w.heap[g]? = some (.cells cs T (0, 0))) (hcs : cs = (enc y).toArray)
    (hb : (xs.length + 1) * bytes ≤ 140737488355328) (hl : xs.length + 1 ≤ maxLen) (hbase : base ≤ w.heap.size)
    (h : ∀ v' w', Own w' base e k enc v' (xs ++ [y]) → w.grownBy w' v.ownBlock → (v'.ownBlock = v.ownBlock ∨ v'.ownBlock = some w.heap.size) → K (a.put o.dst v') w') : if Region.wanted o (yielded ops a.tmps) = true then Oper.wp P o a w K Q else E := by
  refine step_append_all (ys := [y]) (A := some ⟨g, 0, none⟩) (c := c) hgd ho ht hinfo hz hk0 hk h1 hs hown hx (fun e => by cases e) ?_ hb hl hbase h
  refine Rd_blk (by simp) hg (fun i x hx j u hu => ?_)
  subst hcs
  cases i with
  | zero => simp only [List.getElem?_cons_zero, Option.some.injEq] at hx; subst hx; simpa using hu
  | succ i => simp at hx
end
end Go.Proofs.YtdocgemfedohdaaGreat
/-! Shuffles: all places. -/
namespace Go.Proofs.YtdocgemfedohdaaGreat
open Go.RowKit
theorem flatMap_set1 (u : Int) : ∀ (xs : List Int) (i : Nat), i < xs.length → (xs.set i u).flatMap encI = (xs.flatMap encI).set i (.int .i64 u)
  | [], i, hi => by simp at hi
  | y :: xs, 0, hi => by simp [encI]
  | y :: xs, i + 1, hi => by
    have := flatMap_set1 u xs i (by simpa using hi)
    simp only [List.set_cons_succ, List.flatMap_cons, this]
    simp [encI]
theorem Own.blkI {α : Type} {w : World} {base : Nat} {e : TypeId} {k : Nat} {enc : α → List Value} {g n cap : Nat} {xs : List α} (h : Own w base e k enc (.slice (some ⟨g, 0, none⟩) n cap) xs) :
    ∃ cur, w.heap[g]? = some (.cells cur e (0, 0)) ∧ base ≤ g ∧ n = xs.length ∧ n ≤ cap ∧ cap ≤ maxLen ∧ cur.size = cap * k ∧ cur.toList.take (n * k) = xs.flatMap enc := by
  obtain ⟨h1, h2⟩ := h
  rcases h2 with ⟨he, _⟩ | ⟨g', cap', cur, he, hb, hh, hle, hm, hs, ht⟩
  · cases he
  · injection he with e1 e2 e3
    injection e1 with e1
    injection e1 with e1
    subst e1; subst e3; subst e2
    exact ⟨cur, hh, hb, rfl, hle, hm, hs, ht⟩
theorem Own.setI {w : World} {base : Nat} {e : TypeId} {g n cap : Nat} {xs : List Int} (h : Own w base e 1 encI (.slice (some ⟨g, 0, none⟩) n cap) xs) {i : Nat} (hi : i < xs.length) (u : Int) :
    Own (w.setCell ⟨g, i, none⟩ (.int .i64 u)) base e 1 encI (.slice (some ⟨g, 0, none⟩) n cap) (xs.set i u) := by
  obtain ⟨cur, hh, hb, rfl, hle, hm, hs, ht⟩ := h.blkI
  refine ⟨flatMap_len encI_len _, .inr ⟨g, cap, cur.setIfInBounds i (.int .i64 u), by simp, hb, Go.heap_setCell_same w g _ cur e _ hh, by simpa using hle, hm, by simpa using hs, ?_⟩⟩
  rw [List.length_set, flatMap_set1 u xs i hi, ← ht, Array.toList_setIfInBounds, List.take_set]
theorem madeI_own (w : World) (n base : Nat) (hb : base ≤ w.heap.size) (hn : n ≤ 1000) : Own (w.alloc (.cells (madeCells #[.int .i64 0] n) 3)) base 3 1 encI (.slice (some ⟨w.heap.size, 0, none⟩) n n) (List.replicate n 0) := by
  have hl : (List.replicate n (0 : Int)).length = n := by simp
  have hm : (madeCells #[Value.int .i64 0] n).toList = List.replicate n (Value.int .i64 0) := by
    unfold madeCells
    apply List.ext_getElem?
    intro i
    by_cases h : i < n
    · simp [h, Nat.mod_one]
    · simp [h]
  refine ⟨by rw [flatMap_len encI_len], .inr ⟨w.heap.size, n, madeCells #[.int .i64 0] n, by rw [hl], hb, ha_at rfl, by rw [hl]; exact Nat.le_refl _, by unfold maxLen; omega, by rw [size_madeCells]; omega, ?_⟩⟩
  rw [hl, hm, Nat.mul_one]
  rw [List.take_of_length_le (by simp)]
  induction n with
  | zero => rfl
  | succ n _ => simp [encI, List.replicate_succ, List.flatMap_replicate]
theorem smay_any (n : Nat) (h1 : 1 ≤ n) (h2 : n ≤ 1000) (w : World) :
    Calls Tryz.prog 36 #[.int .i64 n, .int .i64 0] w fun e w' => e = .returned (.bool true) ∧ w' = w := by
  have e1 : decide ((0 : Int) < n) = true := by simp; omega
  have e2 : decide ((n : Int) ≤ 1000) = true := by simp; omega
  have e3 : decide ((n : Int) > 0) = true := by simp; omega
  go_enter Tryz.func36, Tryz.ntmps36
  go_wp2
  go_ret
  exact ⟨rfl, rfl⟩
def deckCells (seed n : Int) : Array Value := #[Value.int .u64 seed, Value.int .i64 n, Value.int .u32 0, Value.int .i32 0, Value.int .u32 0, Value.int .i64 0, Value.int .u64 0, Value.int .u32 0, Value.int .i32 0, Value.int .u32 0, Value.int .i64 0, Value.int .u64 0, Value.int .u32 0, Value.int .i32 0, Value.int .u32 0, Value.int .i64 0, Value.int .u64 0, Value.int .u32 0, Value.int .i32 0, Value.int .u32 0, Value.int .i64 0, Value.int .u64 0, Value.int .u32 0, Value.int .i32 0, Value.int .u32 0, Value.int .i64 0, Value.int .u64 0, Value.int .u32 0, Value.int .i32 0, Value.int .u32 0, Value.int .i64 0, Value.int .u64 0, Value.int .u32 0, Value.int .i32 0, Value.int .u32 0, Value.int .i64 0, Value.int .u64 0, Value.int .u32 0, Value.int .i32 0, Value.int .u32 0, Value.int .i64 0, Value.int .u64 0, Value.int .u32 0, Value.int .i32 0, Value.int .u32 0, Value.int .i64 0, Value.int .u64 0, Value.int .u32 0, Value.int .i32 0, Value.int .u32 0, Value.int .i64 0, Value.int .u64 0, Value.int .i64 0]
theorem deck_new {w W : World} (seed n : Int) (h : W.heap[w.heap.size]? = some (.cells (deckCells seed n) 101 (0, 0))) : DeckC W w.heap.size seed n 0 := by
  have hc := fun j => blk_cell h j
  refine ⟨lt_of_block h, fun j _ => blk_free h j, hc 0, hc 1, hc 52, fun r hr => ?_, fun r hr => .inl ?_⟩
  · rw [hc]
    match r, hr with
    | 0, _ => rfl
    | 1, _ => rfl
    | 2, _ => rfl
    | 3, _ => rfl
    | 4, _ => rfl
    | 5, _ => rfl
    | 6, _ => rfl
    | 7, _ => rfl
    | 8, _ => rfl
    | 9, _ => rfl
  · rw [hc, hc, hc]
    match r, hr with
    | 0, _ => exact ⟨rfl, ⟨_, rfl⟩, _, rfl⟩
    | 1, _ => exact ⟨rfl, ⟨_, rfl⟩, _, rfl⟩
    | 2, _ => exact ⟨rfl, ⟨_, rfl⟩, _, rfl⟩
    | 3, _ => exact ⟨rfl, ⟨_, rfl⟩, _, rfl⟩
    | 4, _ => exact ⟨rfl, ⟨_, rfl⟩, _, rfl⟩
    | 5, _ => exact ⟨rfl, ⟨_, rfl⟩, _, rfl⟩
    | 6, _ => exact ⟨rfl, ⟨_, rfl⟩, _, rfl⟩
    | 7, _ => exact ⟨rfl, ⟨_, rfl⟩, _, rfl⟩
    | 8, _ => exact ⟨rfl, ⟨_, rfl⟩, _, rfl⟩
    | 9, _ => exact ⟨rfl, ⟨_, rfl⟩, _, rfl⟩
/-- The places, by where they go. -/
def permTo (seed : Int) (n : Nat) (k : Nat) : List Int := (List.range n).map fun i => if i < k then shufAt seed n i else 0
theorem permTo_len (seed : Int) (n k : Nat) : (permTo seed n k).length = n := by simp [permTo]
theorem permTo_zero (seed : Int) (n : Nat) : permTo seed n 0 = List.replicate n 0 := by
  apply List.ext_getElem (by simp [permTo])
  intro i h1 h2
  simp [permTo]
theorem permTo_step {seed : Int} {n k : Nat} : (permTo seed n k).set k (shufAt seed n k) = permTo seed n (k + 1) := by
  apply List.ext_getElem (by simp [permTo])
  intro i h1 h2
  rw [List.getElem_set]
  by_cases e : k = i
  · subst e; simp [permTo]
  · simp only [e, if_false, permTo, List.getElem_map, List.getElem_range]
    by_cases e2 : i < k
    · rw [if_pos e2, if_pos (by omega)]
    · rw [if_neg e2, if_neg (by omega)]
set_option maxRecDepth 100000 in
set_option maxHeartbeats 1600000 in
theorem perm_any (seed : Int) (n : Nat) (h1 : 1 ≤ n) (h2 : n ≤ 1000) (w : World) :
    Calls Tryz.prog 22 #[.int .u64 seed, .int .i64 n] w fun e w' => ∃ v, e = .returned v ∧ Own w' w.heap.size 3 1 encI v (permTo seed n n) ∧ Below w.heap.size w w' := by
  have hmk : ∀ V, (Instr.makeSlice 22 (.int .i64 n) (.int .i64 n)).run Tryz.prog V = .ok (.slice (some ⟨V.heap.size, 0, none⟩) n n) (V.alloc (.cells (madeCells #[.int .i64 0] n) 3)) := fun V => by
    obtain ⟨i0, hi0, hz0, hz1, hz2⟩ := info_parts (show (Tryz.prog.info? 3).map (fun i => (i.zero, i.size, i.bytes)) = some (some (.int .i64 0), 1, 8) by kernel_rfl)
    have := run_make (P := Tryz.prog) V 22 3 i0 (.int .i64 0) Tryz.underlying22 hi0 hz0 .i64 .i64 n n (by omega) (Int.le_refl _) (by rw [hz2]; omega) (by omega)
    rw [hz1, show (Value.int .i64 0).cells = #[Value.int .i64 0] from rfl] at this
    simpa using this
  go_enter Tryz.func22, Tryz.ntmps22
  go_wp2_with (go_at_call 36; refine (smay_any n h1 h2 _).mono ?_; rintro e w' ⟨rfl, rfl⟩)
  have hd0 := deck_new (w := w') (W := (w'.alloc (.cells (deckCells seed n) 101)).alloc (.cells (madeCells #[.int .i64 0] n) 3)) seed n (ha_lt (ha_at rfl))
  have ho0 := madeI_own (w'.alloc (.cells (deckCells seed n) 101)) n w'.heap.size (by simp) h2
  have hb0 : Below w'.heap.size w' ((w'.alloc (.cells (deckCells seed n) 101)).alloc (.cells (madeCells #[.int .i64 0] n) 3)) := ((Below.refl _ w').alloc (Nat.le_refl _) _).alloc (by simp) _
  rw [World.size_alloc] at ho0
  unfold deckCells at hd0 ho0 hb0
  generalize (w'.alloc (.cells _ 101)).alloc (.cells (madeCells #[.int .i64 0] n) 3) = V0 at hd0 ho0 hb0 ⊢
  obtain ⟨B, hB⟩ : ∃ B, w'.heap.size = B := ⟨_, rfl⟩
  rw [hB] at hd0 ho0 hb0 ⊢
  clear hmk
  go_loopw [7, 19] (fun _ c wr => ∃ k : Nat, k ≤ n ∧ c = .int .i64 k ∧ DeckC wr B seed n (10 * (k : Int)) ∧ Own wr B 3 1 encI (.slice (some ⟨B + 1, 0, none⟩) n n) (permTo seed n k) ∧ Below B w' wr) (fun _ c _ => n - (intOf c).toNat)
  case atStart => exact ⟨0, by omega, rfl, hd0, by rw [permTo_zero]; exact ho0, hb0⟩
  case round =>
    clear hd0 ho0 hb0
    obtain ⟨k, hk, rfl, hd, ho, hb⟩ := hrel
    have hsz := hb.size
    by_cases hlt : k < n
    · have ha := at_any B seed n (10 * (k : Int)) k wr (by omega) (by omega) (by omega) (by omega) (by omega) (by omega) hd
      have hst : ∀ W : World, DeckC W B seed n (10 * (k : Int) + 10) → wr.grownBy W (some B) → (W.cell? ⟨B + 1, k, none⟩).isSome = true ∧ W.frozen? ⟨B + 1, k, none⟩ = false ∧
          DeckC (W.setCell ⟨B + 1, k, none⟩ (.int .i64 (shufAt seed n k))) B seed n (10 * ((k + 1 : Nat) : Int)) ∧ Own (W.setCell ⟨B + 1, k, none⟩ (.int .i64 (shufAt seed n k))) B 3 1 encI (.slice (some ⟨B + 1, 0, none⟩) n n) (permTo seed n (k + 1)) ∧ Below B w' (W.setCell ⟨B + 1, k, none⟩ (.int .i64 (shufAt seed n k))) := fun W hd' hg => by
        have ho' : Own W B 3 1 encI (.slice (some ⟨B + 1, 0, none⟩) n n) (permTo seed n k) := ho.grown hg (.inr (by simp [Value.ownBlock]))
        obtain ⟨cur, hcur, _, _, hle, _, hcs, _⟩ := ho'.blkI
        have hs := ho'.setI (i := k) (by rw [permTo_len]; exact hlt) (shufAt seed n k)
        rw [permTo_step] at hs
        have hd2 := hd'.kept (grown_setC W ⟨B + 1, k, none⟩ (.int .i64 (shufAt seed n k))) (by simp)
        rw [show 10 * (k : Int) + 10 = 10 * ((k + 1 : Nat) : Int) by omega] at hd2
        refine ⟨?_, blk_free hcur k, hd2, hs, (hb.grown hg (by omega) (fun j e => by cases e; exact Nat.le_refl _)).setCell (p := ⟨B + 1, k, none⟩) (by simp) _⟩
        rw [blk_cell hcur k, Array.getElem?_eq_getElem (by omega)]
        rfl
      go_wp2_with (go_at_call 37; refine ha.mono ?_; clear ha; rintro e W ⟨rfl, hd', hg⟩; obtain ⟨hcs, hfz, hd3, ho3, hb3⟩ := hst W hd' hg; obtain ⟨x, hx⟩ := Option.isSome_iff_exists.1 hcs; clear hcs hst)
      go_roundw
      case rel => exact ⟨k + 1, hlt, by go_num, hd3, ho3, hb3⟩
      case measure => simp [intOf]; omega
    · obtain rfl : k = n := by omega
      have hl := iload_any ⟨B, 52, none⟩ _ wr hd.ca
      have hnl : decide (10 * (k : Int) < k) = false := by simp; omega
      go_wp2_with (go_at_call 38; refine hl.mono ?_; rintro e W ⟨rfl, rfl⟩)
      go_ret
      exact ⟨_, rfl, by rw [hB]; exact ho, by rw [hB]; exact hb⟩
end Go.Proofs.YtdocgemfedohdaaGreat
/-! Who votes in a slot: the closures, walked. -/
namespace Go.Proofs.YtdocgemfedohdaaGreat
open Go.RowKit Go.Shelf
attribute [local go_sem] Oper.semAt_some
set_option maxRecDepth 100000 in
set_option maxHeartbeats 1000000 in
theorem cm1_any (c : Cfg) (A A2 : Option Addr) (k k2 Ba Bk Bs : Nat) (s : Int) (i : Nat) (seed : Int) (w : World) (hM : MayC c) (hs : SlotOk s) (hi : i < c.W.length) (hsd : seed = mixStep c.seed (s / c.epoch))
    (hc : ConfAt w Bk A k c) (ha : w.cell? ⟨Ba, 0, none⟩ = some (.slice A2 c.W.length k2)) (hR : Rd 1 encI w A2 (permTo seed c.W.length c.W.length)) (hS : w.cell? ⟨Bs, 0, none⟩ = some (.int .i64 s)) :
    Calls Tryz.prog 26 #[.int .i64 i, .pointer (some ⟨Ba, 0, none⟩), .pointer (some ⟨Bk, 0, none⟩), .pointer (some ⟨Bs, 0, none⟩)] w fun e w' => e = .returned (.bool (comP c s i)) ∧ w' = w.drew := by
  obtain ⟨c0, c1, c2, c3, c4⟩ := blk5 hc
  obtain ⟨b, o, rfl, hb, hx⟩ := hR.atI (i := i) (by rw [permTo_len]; exact hi)
  have he : (permTo seed c.W.length c.W.length)[i]'(by rw [permTo_len]; exact hi) = shufAt seed c.W.length i := by simp [permTo, hi]
  rw [he] at hx
  have hbd := shufAt_bd (seed := seed) (n := c.W.length) (i := i) (by omega) (by omega) (by omega)
  have hep := hM.2.1
  obtain ⟨y, hy⟩ : ∃ y, shufAt seed c.W.length i = y := ⟨_, rfl⟩
  have e1 : y.tmod c.epoch = y % c.epoch := Int.tmod_eq_emod_of_nonneg (by rw [← hy]; exact hbd.1)
  have e2 : s.tmod c.epoch = s % c.epoch := Int.tmod_eq_emod_of_nonneg (by have := hs.1; omega)
  have e3 : comP c s i = (y % c.epoch == s % c.epoch) := by
    unfold comP
    rw [← hsd, hy]
    rfl
  rw [hy] at hx
  rw [e3]
  have hne : ¬ c.epoch = 0 := by omega
  clear e3 he hbd hy hsd hM hs hc hR hep
  go_enter Tryz.func26, Tryz.ntmps26
  go_wp2_with fail
  go_still (by kernel_rfl)
  change Exit.then _ _ _ _ w.drew
  go_wp2
  go_ret
  exact ⟨rfl, rfl⟩
set_option maxRecDepth 100000 in
set_option maxHeartbeats 2000000 in
/-- duty.those's closure, where what is asked of each is whether it votes in a slot. -/
theorem those1_cm (F : Fence) (n : Nat) (h47 : F.fn 41) (hpf : F.fn 26) (hro : F.round = none) (hn : 1 ≤ n) (l Bc Bf n₀ : Nat) (c : Cfg) (A : Option Addr) (kc : Nat) (Ba Bk Bs : Nat) (p : Nat → Bool) (J Jx : List (Fin c.W.length) → World → Prop)
    (W : World) (hA : Rd 1 encI W A c.W) (hc : ConfAt W Bc A kc c) (hf : W.heap[Bf]? = some (.cells #[.func (.func 26) #[] #[.pointer (some ⟨Ba, 0, none⟩), .pointer (some ⟨Bk, 0, none⟩), .pointer (some ⟨Bs, 0, none⟩)]] 65 (0, 0))) (_ : n₀ ≤ W.heap.size) (_ : Bc < n₀) (hfn : Bf < n₀)
    (hP : ∀ (i : Nat) W', i < c.W.length → Below n₀ W W' → CallsIn F (n - 1) Tryz.prog 26 #[.int .i64 (i : Int), .pointer (some ⟨Ba, 0, none⟩), .pointer (some ⟨Bk, 0, none⟩), .pointer (some ⟨Bs, 0, none⟩)] W' fun e w' => e = .returned (.bool (p i)) ∧ w' = W'.drew)
    (hY : ∀ pre (x : Fin c.W.length) W, J pre W → pre.length < c.W.length → YieldAt F (n - 1) Tryz.prog l #[.int .i64 (x.val : Int)] W fun e W' =>
      (e = .returned (.bool true) ∧ J (pre ++ [x]) W' ∧ Below n₀ W W') ∨ (e = .returned (.bool false) ∧ Jx (pre ++ [x]) W')) (h0 : J [] W) (hD : ∀ pre W, J pre W → J pre W.drew) :
    CallsIn F n Tryz.prog 41 #[.func (.yield l) #[] #[], .pointer (some ⟨Bc, 0, none⟩), .pointer (some ⟨Bf, 0, none⟩)] W fun e W' => (∃ v, e = .returned v) ∧
      ((∃ ys, ys = those c.W.length p c.W.length ∧ J ys W') ∨ (∃ pre, (∃ k, k < c.W.length ∧ p k = true ∧ pre = those c.W.length p (k + 1)) ∧ Jx pre W')) := by
  have hm := hA.1
  have c0 := blk_cell hc 0
  have hf0 := blk_cell hf 0
  refine callsIn_of_wp Tryz.func41 rfl h47 ?_ hro
  simp only [Tryz.ntmps41, List.size_toArray, List.length_cons, List.length_nil, Nat.reduceAdd, Nat.reduceSub, Array.replicate_succ, Array.replicate_zero, List.push_toArray, List.append_toArray, List.nil_append, List.cons_append]
  gi_wp2
  gi_loopw [8, 4] (fun i _x wr => ∃ k : Nat, k ≤ c.W.length ∧ i = .int .i64 k ∧ J (those c.W.length p k) wr ∧ Below n₀ W wr)
    (fun i _ _ => c.W.length - (intOf i).toNat)
  case atStart => exact ⟨0, Nat.zero_le _, rfl, h0, Below.refl _ _⟩
  case round =>
    obtain ⟨k, hk, rfl, hJs, hnx⟩ := hrel
    have hfx : wr.heap[Bf]? = some (.cells #[.func (.func 26) #[] #[.pointer (some ⟨Ba, 0, none⟩), .pointer (some ⟨Bk, 0, none⟩), .pointer (some ⟨Bs, 0, none⟩)]] 65 (0, 0)) := bl_blk hnx hf hfn
    have e0 := blk_cell hfx 0
    by_cases hlt : k < c.W.length
    · have hPk := hP k wr hlt hnx
      have hlen := those_len c.W.length p k
      cases hpk : p k with
      | true =>
        rw [hpk] at hPk
        obtain ⟨fn, tmps, assign, body, hy, hR⟩ := hY _ ⟨k, hlt⟩ wr.drew (hD _ _ hJs) (Nat.lt_of_le_of_lt hlen hlt)
        dsimp only at hy
        have hth := Lib.hid (those_yes hlt hpk)
        have hpk' := Lib.hid hpk
        clear hpk hlen
        gi_wp2_with (gi_at_call 26; refine hPk.mono ?_; clear hPk; rintro e w' ⟨rfl, rfl⟩)
        refine hR.mono ?_
        rintro e W3 (⟨rfl, hJ3, hk3⟩ | ⟨rfl, hJx3⟩)
        · gi_wp2
          go_roundw
          case rel => exact ⟨k + 1, hlt, by go_num, by rw [hth.out]; exact hJ3, hnx.drew.trans hk3⟩
          case measure => simp [intOf]; omega
        · gi_wp2
          refine bodyPost_ret (results_none rfl _ _ _) rfl ?_
          exact ⟨⟨_, rfl⟩, .inr ⟨_, ⟨k, hlt, hpk'.out, hth.out.symm⟩, hJx3⟩⟩
      | false =>
        rw [hpk] at hPk
        have hth := Lib.hid (those_no (m := c.W.length) hpk)
        clear hpk hlen
        gi_wp2_with (gi_at_call 26; refine hPk.mono ?_; clear hPk; rintro e w' ⟨rfl, rfl⟩)
        refine ⟨fun _ h => (by cases h), ?_⟩
        gi_wp2
        go_roundw
        case rel => exact ⟨k + 1, hlt, by go_num, by rw [hth.out]; exact hD _ _ hJs, hnx.drew⟩
        case measure => simp [intOf]; omega
    · obtain rfl : k = c.W.length := by omega
      gi_wp2
      go_end0
      exact ⟨⟨_, rfl⟩, .inl ⟨_, rfl, hJs⟩⟩
end Go.Proofs.YtdocgemfedohdaaGreat
/-! Slices of a slice: a beginning of an owned one, and what lies behind it. -/
namespace Go.Proofs.YtdocgemfedohdaaGreat
open Go.RowKit
theorem Own.cut {α : Type} {w : World} {base : Nat} {e : TypeId} {k : Nat} {enc : α → List Value} (hk : ∀ x, (enc x).length = k) {A : Option Addr} {n c : Nat} {xs : List α} (h : Own w base e k enc (.slice A n c) xs) {j : Nat} (hj : j ≤ xs.length) :
    Own w base e k enc (.slice A j c) (xs.take j) := by
  have hl : (xs.take j).length = j := by simp; omega
  refine ⟨flatMap_len hk _, ?_⟩
  rw [hl]
  rcases h.2 with ⟨h1, h2⟩ | ⟨g, cap, cur, h1, hb, hh, hle, hm, hs, ht⟩
  · cases h1
    exact .inl ⟨by congr 1; omega, by omega⟩
  · cases h1
    refine .inr ⟨g, c, cur, rfl, hb, hh, by omega, hm, hs, ?_⟩
    have : xs.flatMap enc = (xs.take j).flatMap enc ++ (xs.drop j).flatMap enc := by rw [← List.flatMap_append, List.take_append_drop]
    have h3 : (cur.toList.take (xs.length * k)).take (j * k) = ((xs.take j).flatMap enc ++ (xs.drop j).flatMap enc).take (j * k) := by rw [ht, this]
    rw [List.take_take, Nat.min_eq_left (Nat.mul_le_mul_right k hj), List.take_left' (by rw [flatMap_len hk, hl])] at h3
    exact h3
theorem Rd.drop {α : Type} {k : Nat} {enc : α → List Value} {w : World} {b o : Nat} {xs : List α} (h : Rd k enc w (some ⟨b, o, none⟩) xs) (n : Nat) : Rd k enc w (some ⟨b, o + n * k, none⟩) (xs.drop n) := by
  refine ⟨by have := h.1; simp; omega, fun hne => ?_⟩
  obtain ⟨b', o', he, hlt, hc⟩ := h.2 (fun e => hne (by rw [e]; simp))
  cases he
  refine ⟨b, _, rfl, hlt, fun i x hx j u hu => ?_⟩
  rw [List.getElem?_drop] at hx
  have := hc (n + i) x hx j u hu
  rw [Nat.add_mul, ← Nat.add_assoc] at this
  exact this
theorem Own.src {α : Type} {w : World} {base : Nat} {e : TypeId} {k : Nat} {enc : α → List Value} {v : Value} {xs : List α} (hk : ∀ x, (enc x).length = k) (h : Own w base e k enc v xs) : ∃ A c, v = .slice A xs.length c ∧ Rd k enc w A xs ∧ (A = none → c = 0) := by
  obtain ⟨A, c, hv, hr⟩ := h.rd hk
  refine ⟨A, c, hv, hr, fun e => ?_⟩
  rcases h.2 with ⟨h1, _⟩ | ⟨g, cap, cur, h1, _⟩
  · rw [hv] at h1; injection h1
  · rw [hv, e] at h1; injection h1 with h1 _ _; cases h1
theorem Own.rdm {α : Type} {w : World} {base : Nat} {e : TypeId} {k : Nat} {enc : α → List Value} {v : Value} {xs : List α} (hk : ∀ x, (enc x).length = k) (h : Own w base e k enc v xs) : ∃ A c, v = .slice A xs.length c ∧ xs.length ≤ c ∧ c ≤ maxLen ∧ Rd k enc w A xs := by
  obtain ⟨A, c, hv, hc, hr⟩ := h.rdc hk
  refine ⟨A, c, hv, hc, ?_, hr⟩
  rcases h.2 with ⟨h1, _⟩ | ⟨g, cap, cur, h1, _, _, _, hm, _⟩
  · rw [hv] at h1; injection h1 with e1 e2 e3; subst e3; decide
  · rw [hv] at h1; injection h1 with e1 e2 e3; subst e3; exact hm
theorem Own.apart {α : Type} {w w' : World} {base : Nat} {e : TypeId} {k : Nat} {enc : α → List Value} {v : Value} {xs : List α} {row : Option Nat} (h : Own w base e k enc v xs) (hg : w.grownBy w' row) {B : Nat} (h1 : ∀ q, v.ownBlock = some q → B ≤ q) (h2 : ∀ q, row = some q → q < B) : Own w' base e k enc v xs := by
  refine World.ownsRow.kept h hg ?_
  cases hq : v.ownBlock with
  | none => exact .inl rfl
  | some q =>
    refine .inr (fun e => ?_)
    have a := h1 q hq
    have b := h2 q e.symm
    omega
end Go.Proofs.YtdocgemfedohdaaGreat
/-! A row of a call's own, of elements of some cells each, that the library's sort has laid anew. -/
namespace Go.Proofs.YtdocgemfedohdaaGreat
open Go.RowKit
section
variable {α : Type} [Inhabited α] {enc : α → List Value} {k : Nat}
theorem flatK_list (hk : ∀ x, (enc x).length = k) (hk0 : 0 < k) (d : Array α) : (Sort.flatK enc k d).toList = d.toList.flatMap enc := by
  have hl : (d.toList.flatMap enc).length = d.size * k := by rw [flatMap_len hk]; simp
  apply List.ext_getElem?
  intro t
  by_cases ht : t < d.size * k
  · have hq : t / k < d.size := Nat.div_lt_of_lt_mul (by rwa [Nat.mul_comm])
    have hr : t % k < k := Nat.mod_lt _ hk0
    have h1 : (Sort.flatK enc k d).toList[t]? = some ((enc d[t / k]!)[t % k]!) := by
      have hs : t < (Sort.flatK enc k d).size := by simpa using ht
      have := Sort.get_flatK enc k d t ht
      rw [getElem!_pos _ t hs] at this
      rw [Array.getElem?_toList, Array.getElem?_eq_getElem hs, this]
    have hge : d.toList[t / k]? = some d[t / k]! := by simp [hq]
    have hlen : t % k < (enc d[t / k]!).length := by rw [hk]; exact hr
    have h2 := flatMap_get hk d.toList (t / k) _ hge (t % k) _ (List.getElem?_eq_getElem hlen)
    have hd : t / k * k + t % k = t := by rw [Nat.mul_comm]; exact Nat.div_add_mod t k
    rw [hd] at h2
    rw [h1, h2, getElem!_pos (enc d[t / k]!) (t % k) hlen]
  · rw [List.getElem?_eq_none (by simp; omega), List.getElem?_eq_none (by rw [hl]; omega)]
theorem Own.holdsK (hk : ∀ x, (enc x).length = k) (hk0 : 0 < k) {w : World} {e : TypeId} {g : Nat} {cur : Array Value} {l : List α} (hh : w.heap[g]? = some (.cells cur e (0, 0))) (ht : cur.toList.take (l.length * k) = l.flatMap enc) :
    Sort.HoldsK enc k w g 0 l.toArray := by
  intro j hj
  have hj' : j < l.length * k := by simpa using hj
  refine ⟨?_, by simp [World.frozen?, hh]⟩
  rw [Nat.zero_add, blk_cell hh j]
  have h1 := flatK_list hk hk0 l.toArray
  have h2 : (cur.toList.take (l.length * k))[j]? = (Sort.flatK enc k l.toArray).toList[j]? := by rw [ht, h1]
  rw [List.getElem?_take_of_lt hj'] at h2
  rw [getElem!_pos _ j hj]
  simp only [id]
  have h3 : (Sort.flatK enc k l.toArray).toList[j]? = some ((Sort.flatK enc k l.toArray)[j]) := by simp
  rw [h3] at h2
  simpa using h2
theorem rowK_heap {w : World} {g : Nat} {cur : Array Value} {e : TypeId} (hh : w.heap[g]? = some (.cells cur e (0, 0))) (F : Array Value) (n : Nat) (os : Array Obj) :
    (Sort.grow (Sort.putRow id (Sort.ahead w n) g 0 F) os).heap[g]? = some (.cells (Sort.putCells id 0 F cur) e (0, 0)) := by
  have hlt := lt_of_block hh
  rw [Sort.heap_grow_old _ _ (by simpa using hlt)]
  simp [Sort.putRow, Sort.mapBlock, Array.getElem?_modify, hh, Sort.onCells]
theorem rowK_other {w : World} {g j : Nat} (hj : j < w.heap.size) (hne : j ≠ g) (F : Array Value) (n : Nat) (os : Array Obj) :
    (Sort.grow (Sort.putRow id (Sort.ahead w n) g 0 F) os).heap[j]? = w.heap[j]? := by
  rw [Sort.heap_grow_old _ _ (by simpa using hj)]
  simp [Sort.putRow, Sort.mapBlock, Array.getElem?_modify, Ne.symm hne]
theorem putCellsK_take {cur : Array Value} {F : Array Value} (h : F.size ≤ cur.size) : (Sort.putCells id 0 F cur).toList.take F.size = F.toList := by
  apply List.ext_getElem?
  intro j
  rw [List.getElem?_take]
  by_cases hj : j < F.size
  · have hc : j < cur.size := by omega
    simp [Sort.putCells, hj, hc]
  · simp [hj]
theorem Own.relaidK (hk : ∀ x, (enc x).length = k) (hk0 : 0 < k) {w : World} {base : Nat} {e : TypeId} {g cap : Nat} {cur : Array Value} (hb : base ≤ g) (hh : w.heap[g]? = some (.cells cur e (0, 0))) (hm : cap ≤ maxLen) (hs : cur.size = cap * k) (d : Array α) (hd : d.size ≤ cap) (n : Nat) (os : Array Obj) :
    Own (sortWorldK enc k w g 0 n d os) base e k enc (.slice (some ⟨g, 0, none⟩) d.size cap) d.toList := by
  refine ⟨by rw [flatMap_len hk], .inr ⟨g, cap, _, by simp, hb, rowK_heap hh _ n os, by simpa using hd, hm, by simp [Sort.putCells, hs], ?_⟩⟩
  have hF : (Sort.flatK enc k d).size ≤ cur.size := by rw [Sort.size_flatK, hs]; exact Nat.mul_le_mul_right k hd
  have ht := putCellsK_take hF
  rw [Sort.size_flatK] at ht
  rw [← flatK_list hk hk0, ← ht]
  simp
theorem grownBy_rowK {w : World} {g : Nat} (d : Array α) (n : Nat) (os : Array Obj) : w.grownBy (sortWorldK enc k w g 0 n d os) (some g) :=
  ⟨rfl, rfl, rfl, by unfold sortWorldK Sort.putRowK; simp, fun j hj hne => rowK_other hj (fun e => hne (by rw [e])) _ n os⟩
theorem permIn_whole {d d' : Array α} (h : Sort.PermIn 0 d.size d d') : d'.toList.Perm d.toList := by
  obtain ⟨h1, _, h3⟩ := h
  have e1 : (d'.extract 0 d.size) = d' := by rw [← h1]; simp
  have e2 : (d.extract 0 d.size) = d := by simp
  rw [e1, e2] at h3
  exact h3
theorem sortedIn_pairwise {lt : α → α → Bool} {d : Array α} {n : Nat} (hn : d.size = n) (h : Sort.SortedIn lt 0 n d) : d.toList.Pairwise (fun x y => lt y x = false) := by
  rw [List.pairwise_iff_getElem]
  intro i j hi hj hij
  have hi' : i < d.size := by simpa using hi
  have hj' : j < d.size := by simpa using hj
  have := h i j (Nat.zero_le _) hij (by omega)
  rw [getElem!_pos d i hi', getElem!_pos d j hj'] at this
  simpa using this
end
end Go.Proofs.YtdocgemfedohdaaGreat
/-! A range over a map that the loop leaves as it is, and deletion from a map: maps as lists of pairs. -/
namespace Go.Proofs.YtdocgemfedohdaaGreat
open Go.RowKit Go.ChangeMaps Go.MapKept
section
variable {κ ν : Type} [DecidableEq κ] {ek : κ → Value} {ev : ν → Value}
/-- A range over block B's map is under way, its iterator in block r; the keys 'seen' have come. -/
def RIs (ek : κ → Value) (ev : ν → Value) (w : World) (B r : Nat) (m : List (κ × ν)) (came : List κ) : Prop :=
  ∃ es clk since seen c0, w.heap[B]? = some (.map es clk) ∧ es.toList.map (fun e => (e.key, e.val)) = m.map (fun p => (ek p.1, ev p.2)) ∧
    (es.toList.map (·.born)).Pairwise (· < ·) ∧ (∀ e ∈ es.toList, e.born < clk) ∧ (m.map (·.1)).Nodup ∧
    w.heap[r]? = some (.mapIter (some B) since seen c0) ∧ (∀ e ∈ es.toList, e.born < since) ∧
    (∀ (i : Nat) (e : MapEntry) (p : κ × ν), es.toList[i]? = some e → m[i]? = some p → seen.contains e.born = decide (p.1 ∈ came)) ∧ since ≤ c0 ∧ since ≤ clk
theorem RIs.map {w : World} {B r : Nat} {m : List (κ × ν)} {came : List κ} (h : RIs ek ev w B r m came) : MapIs ek ev w B m := by
  obtain ⟨es, clk, _, _, _, h1, h2, h3, h4, h5, _⟩ := h
  exact ⟨es, clk, h1, h2, h3, h4, h5⟩
theorem RIs.ne {w : World} {B r : Nat} {m : List (κ × ν)} {came : List κ} (h : RIs ek ev w B r m came) : r ≠ B := by
  obtain ⟨es, clk, since, seen, c0, hb, _, _, _, _, hr, _⟩ := h
  intro e
  rw [e, hb] at hr
  cases hr
theorem RIs.lt {w : World} {B r : Nat} {m : List (κ × ν)} {came : List κ} (h : RIs ek ev w B r m came) : r < w.heap.size := by
  obtain ⟨es, clk, since, seen, c0, hb, _, _, _, _, hr, _⟩ := h
  exact lt_of_block hr
theorem RIs.same {w w' : World} {B r : Nat} {m : List (κ × ν)} {came : List κ} (h : RIs ek ev w B r m came) (h1 : w'.heap[B]? = w.heap[B]?) (h2 : w'.heap[r]? = w.heap[r]?) : RIs ek ev w' B r m came ∧ w'.rangeLeft B r = w.rangeLeft B r := by
  refine ⟨?_, by unfold World.rangeLeft; rw [h1, h2]⟩
  obtain ⟨es, clk, since, seen, c0, hb, a1, a2, a3, a4, hr, rest⟩ := h
  exact ⟨es, clk, since, seen, c0, h1.trans hb, a1, a2, a3, a4, h2.trans hr, rest⟩
theorem RIs.grown {w w' : World} {B r : Nat} {m : List (κ × ν)} {came : List κ} {row : Option Nat} (h : RIs ek ev w B r m came) (hg : w.grownBy w' row) (h1 : some B ≠ row) (h2 : some r ≠ row) : RIs ek ev w' B r m came ∧ w'.rangeLeft B r = w.rangeLeft B r :=
  h.same (hg.block B (MapIs_lt h.map) h1) (hg.block r h.lt h2)
theorem RIs.below {w w' : World} {B r : Nat} {m : List (κ × ν)} {came : List κ} (h : RIs ek ev w B r m came) (hb : Below w.heap.size w w') : RIs ek ev w' B r m came ∧ w'.rangeLeft B r = w.rangeLeft B r :=
  h.same (hb.block B (MapIs_lt h.map)) (hb.block r h.lt)
omit [DecidableEq κ] in
theorem ent_at {es : Array MapEntry} {m : List (κ × ν)} (h : es.toList.map (fun e => (e.key, e.val)) = m.map (fun p => (ek p.1, ev p.2))) {i : Nat} {e : MapEntry} (hi : es.toList[i]? = some e) : ∃ p, m[i]? = some p ∧ e.key = ek p.1 ∧ e.val = ev p.2 := by
  have h1 := congrArg (·[i]?) h
  simp only [List.getElem?_map, hi, Option.map_some] at h1
  cases hp : m[i]? with
  | none => rw [hp] at h1; simp at h1
  | some p =>
    rw [hp] at h1
    simp only [Option.map_some, Option.some.injEq, Prod.mk.injEq] at h1
    exact ⟨p, rfl, h1.1, h1.2⟩
omit [DecidableEq κ] in
theorem ent_of {es : Array MapEntry} {m : List (κ × ν)} (h : es.toList.map (fun e => (e.key, e.val)) = m.map (fun p => (ek p.1, ev p.2))) {i : Nat} {p : κ × ν} (hi : m[i]? = some p) : ∃ e, es.toList[i]? = some e ∧ e.key = ek p.1 ∧ e.val = ev p.2 := by
  have h1 := congrArg (·[i]?) h
  simp only [List.getElem?_map, hi, Option.map_some] at h1
  cases hp : es.toList[i]? with
  | none => rw [hp] at h1; simp at h1
  | some e =>
    rw [hp] at h1
    simp only [Option.map_some, Option.some.injEq, Prod.mk.injEq] at h1
    exact ⟨e, rfl, h1.1, h1.2⟩
theorem nodup_born {l : List MapEntry} (h : (l.map (·.born)).Pairwise (· < ·)) : (l.map (·.born)).Nodup := h.imp (fun h => by omega)
/-- 'range m'. -/
theorem range_run {P : Program} {MT kt et : TypeId} (ht : P.underlying MT = some (.map kt et)) {w : World} {B : Nat} {m : List (κ × ν)} (hM : MapIs ek ev w B m) :
    ∃ w', (Instr.range MT (.map (some B))).run P w = .ok (.pointer (some ⟨w.heap.size, 0, none⟩)) w' ∧ RIs ek ev w' B w.heap.size m [] ∧ Below w.heap.size w w' ∧ w'.heap.size = w.heap.size + 1 := by
  obtain ⟨es, clk, hB, hes, hbn, hbc, hnd⟩ := hM
  have hlt := lt_of_block hB
  refine ⟨_, run_range_map w MT kt et B es clk ht hB, ⟨es, clk, clk, #[], clk, ha_lt hB, hes, hbn, hbc, hnd, ha_at rfl, hbc, fun i e p _ _ => by simp, Nat.le_refl _, Nat.le_refl _⟩, (Below.refl _ w).alloc (Nat.le_refl _) _, by simp⟩
/-- The step. -/
theorem next_run {P : Program} {w : World} {B r : Nat} {m : List (κ × ν)} {came : List κ} (h : RIs ek ev w B r m came) (ty : TypeId) :
    ((∀ p ∈ m, p.1 ∈ came) ∧ (Instr.next (.pointer (some ⟨r, 0, none⟩)) false ty).run P w = .ok (.tuple #[.bool false]) w) ∨
    ∃ x v w', (x, v) ∈ m ∧ x ∉ came ∧ (Instr.next (.pointer (some ⟨r, 0, none⟩)) false ty).run P w = .ok (.tuple #[.bool true, ek x, ev v]) w' ∧ RIs ek ev w' B r m (x :: came) ∧ w'.rangeLeft B r < w.rangeLeft B r ∧
      w.grownBy w' (some r) ∧ w'.heap.size = w.heap.size ∧ (Instr.entry (.pointer (some ⟨r, 0, none⟩))).run P w' = .ok (.tuple #[ek x, ev v]) w' := by
  have hne := h.ne
  obtain ⟨es, clk, since, seen, c0, hb, hes, hbn, hbc, hnd, hr, hold, hseen, hsc, hsk⟩ := h
  have hnb := nodup_born hbn
  rcases run_next_at (P := P) w ty r B since c0 seen es clk hr hb hold hsc with ⟨h0, hrun⟩ | ⟨e, he, w1, hal, hrun⟩
  · refine .inl ⟨fun p hp => ?_, hrun⟩
    obtain ⟨i, hi⟩ := List.mem_iff_getElem?.1 hp
    obtain ⟨e, hei, _⟩ := ent_of hes hi
    have := hseen i e p hei hi
    rw [all_seen es seen h0 e (List.mem_of_getElem? hei)] at this
    simpa using this.symm
  · obtain ⟨hem, hen⟩ := mem_left he
    obtain ⟨i, hi⟩ := List.mem_iff_getElem?.1 hem
    obtain ⟨p, hp, hk, hv⟩ := ent_at hes hi
    have hpc := hseen i e p hi hp
    rw [hen] at hpc
    have hnc : p.1 ∉ came := by simpa using hpc.symm
    have hr1 : w1.heap[r]? = some (.mapIter (some B) since seen c0) := by rcases hal with rfl | rfl <;> exact hr
    have hb1 : w1.heap[B]? = some (.map es clk) := by rcases hal with rfl | rfl <;> exact hb
    have hset := heap_set (o' := .mapIter (some B) since (seen.push e.born) clk) hr1
    have hb' : (setBlock w1 r (.mapIter (some B) since (seen.push e.born) clk)).heap[B]? = some (.map es clk) := (hset.2 B (fun e1 => hne e1.symm)).trans hb1
    refine .inr ⟨p.1, p.2, setBlock w1 r (.mapIter (some B) since (seen.push e.born) clk), List.mem_of_getElem? hp, hnc, by rw [hrun, hk, hv],
      ⟨es, clk, since, seen.push e.born, clk, hb', hes, hbn, hbc, hnd, hset.1, hold, fun j e' p' hj hp' => ?_, hsk, hsk⟩, ?_, ?_, ?_, ?_⟩
    · rw [contains_push, hseen j e' p' hj hp', Bool.eq_iff_iff]
      simp only [Bool.or_eq_true, decide_eq_true_eq, beq_iff_eq, List.mem_cons]
      constructor
      · rintro (h | h)
        · exact .inr h
        · have : e' = e := born_inj hnb (List.mem_of_getElem? hj) hem (by omega)
          subst this
          have hij : j = i := by
            have hl1 := (List.getElem?_eq_some_iff.1 hj).1
            have hl2 := (List.getElem?_eq_some_iff.1 hi).1
            have e1 : (es.toList.map (·.born))[j]? = (es.toList.map (·.born))[i]? := by simp [List.getElem?_map, hj, hi]
            have hl1' : j < (es.toList.map (·.born)).length := by simpa using hl1
            exact (List.getElem?_inj hl1' hnb).1 e1
          subst hij
          rw [hp] at hp'
          cases hp'
          exact .inl rfl
      · rintro (h | h)
        · right
          have hij : j = i := by
            have e1 : (m.map (·.1))[j]? = (m.map (·.1))[i]? := by simp [List.getElem?_map, hp, hp', h]
            have hl : j < (m.map (·.1)).length := by simpa using (List.getElem?_eq_some_iff.1 hp').1
            exact (List.getElem?_inj hl hnd).1 e1
          subst hij
          rw [hi] at hj
          cases hj
          rfl
        · exact .inl h
    · have := left_shrinks es seen e he
      unfold World.rangeLeft
      rw [hb', show (setBlock w1 r (.mapIter (some B) since (seen.push e.born) clk)).heap[r]? = _ from hset.1, hb, hr]
      exact this
    · rcases hal with rfl | rfl <;> exact ⟨rfl, rfl, rfl, by simp [setBlock], fun i _ hi => hset.2 i (fun e1 => hi (by rw [e1]))⟩
    · rcases hal with rfl | rfl <;> simp [setBlock]
    · rw [run_entry_at _ r B since seen es clk e hset.1 hb' hem hnb, hk, hv]
variable {P : Program} {ops : Array Oper} {rest : List Oper} {o : Oper} {a : Act} {Q : Exit → Act → World → Prop}
theorem wp_range (hg : o.guard = none) {mo : Operand} {MT kt et : TypeId} (hop : o.op = Op.range MT mo) (ht : P.underlying MT = some (.map kt et)) {w : World} {B : Nat} (hm : a.eval mo = .map (some B)) {m : List (κ × ν)} (hM : MapIs ek ev w B m) {r : Nat} (hr : w.heap.size = r)
    (hK : ∀ w', RIs ek ev w' B r m [] → Below w.heap.size w w' → w'.heap.size = w.heap.size + 1 → wpList P ops Q rest (a.put o.dst (.pointer (some ⟨r, 0, none⟩))) w') : wpList P ops Q (o :: rest) a w := by
  subst hr
  refine wpList_plain hg fun K' hK' => ?_
  obtain ⟨w', hrun, r1, r2, r3⟩ := range_run ht hM
  unfold Oper.wp
  simp [execOp, hop, hm, hrun, Result.andThen]
  exact hK' _ _ (hK w' r1 r2 r3)
/-- An entry has come. -/
structure Came (ek : κ → Value) (ev : ν → Value) (w w' : World) (B r : Nat) (m : List (κ × ν)) (came : List κ) (x : κ) (v : ν) : Prop where
  mem : (x, v) ∈ m
  fresh : x ∉ came
  ris : RIs ek ev w' B r m (x :: came)
  less : w'.rangeLeft B r < w.rangeLeft B r
  grown : w.grownBy w' (some r)
  size : w'.heap.size = w.heap.size
theorem wp_next (hg : o.guard = none) {it : Operand} (hop : o.op = Op.next it false) {w : World} {B r : Nat} {m : List (κ × ν)} {came : List κ} (hit : a.eval it = .pointer (some ⟨r, 0, none⟩)) (h : RIs ek ev w B r m came)
    (hDone : Hid (∀ p ∈ m, p.1 ∈ came) → wpList P ops Q rest (a.put o.dst (.tuple #[.bool false])) w)
    (hMore : ∀ (x : κ) (v : ν) (w' : World), Came ek ev w w' B r m came x v → (Instr.entry (.pointer (some ⟨r, 0, none⟩))).run P w' = .ok (.tuple #[ek x, ev v]) w' → wpList P ops Q rest (a.put o.dst (.tuple #[.bool true, ek x, ev v])) w') : wpList P ops Q (o :: rest) a w := by
  refine wpList_plain hg fun K' hK' => ?_
  unfold Oper.wp
  rcases next_run (P := P) h o.type with ⟨h0, hrun⟩ | ⟨x, v, w', h1, h2, hrun, h3, h4, h5, h6, h7⟩
  · simp [execOp, hop, hit, hrun, Result.andThen]
    exact hK' _ _ (hDone (Lib.hid h0))
  · simp [execOp, hop, hit, hrun, Result.andThen]
    exact hK' _ _ (hMore x v w' ⟨h1, h2, h3, h4, h5, h6⟩ h7)
end
section
variable {κ ν : Type} [DecidableEq κ] {ek : κ → Value} {ev : ν → Value}
def mdel (m : List (κ × ν)) (x : κ) : List (κ × ν) := m.filter fun p => decide (p.1 ≠ x)
theorem keyIdx_some {ks : List κ} {x : κ} {i j : Nat} (h : keyIdx ks x i = some j) : i ≤ j ∧ ks[j - i]? = some x := keyIdx_ge h
theorem eraseIdx_filter {m : List (κ × ν)} (hnd : (m.map (·.1)).Nodup) {j : Nat} {v : κ × ν} (hj : m[j]? = some v) : m.eraseIdx j = m.filter fun p => decide (p.1 ≠ v.1) := by
  induction m generalizing j with
  | nil => simp at hj
  | cons a m ih =>
    simp only [List.map_cons, List.nodup_cons] at hnd
    cases j with
    | zero =>
      simp only [List.getElem?_cons_zero, Option.some.injEq] at hj
      subst hj
      simp only [List.eraseIdx_cons_zero, List.filter_cons, ne_eq, not_true_eq_false, decide_false, Bool.false_eq_true, if_false]
      refine (List.filter_eq_self.2 fun p hp => ?_).symm
      simp only [decide_eq_true_eq]
      intro e
      exact hnd.1 (e ▸ List.mem_map_of_mem hp)
    | succ j =>
      simp only [List.getElem?_cons_succ] at hj
      have hne : a.1 ≠ v.1 := by
        intro e
        exact hnd.1 (e ▸ List.mem_map_of_mem (List.mem_of_getElem? hj))
      simp only [List.eraseIdx_cons_succ, List.filter_cons, ne_eq, hne, not_false_eq_true, decide_true, if_true]
      rw [ih hnd.2 hj]
theorem delete_run {P : Program} {MT kt et : TypeId} (K : Key P kt ek) (ht : P.underlying MT = some (.map kt et)) {w : World} {B : Nat} {m : List (κ × ν)} (hM : MapIs ek ev w B m) (x : κ) (t2 ty : TypeId) :
    ∃ w', (Builtin.delete_ #[MT, t2] ty #[.map (some B), ek x]).run P w = .ok (.tuple #[]) w' ∧ MapIs ek ev w' B (mdel m x) ∧ w.grownBy w' (some B) ∧ w'.heap.size = w.heap.size := by
  obtain ⟨es, clk, hB, hes, hbn, hbc, hnd⟩ := hM
  have hlt := lt_of_block hB
  have hf := findKey_run K x w (m.map (·.1)) es.toList (entries_key hes)
  have hgo : (getObj B).run P w = .ok (.map es clk) w := by simp [getObj, Sem.run, hB]
  have hset : ∀ o, (setObj B o).run P w = .ok () { w with heap := w.heap.setIfInBounds B o } := by intro o; simp [setObj, Sem.run, hB]
  have hgrow : ∀ o, w.grownBy { w with heap := w.heap.setIfInBounds B o } (some B) := fun o => ⟨rfl, rfl, rfl, by simp, fun k _ hne => by
    have : B ≠ k := fun e => hne (by rw [e])
    simp [Array.getElem?_setIfInBounds_ne this]⟩
  have hat : ∀ o : Obj, ({ w with heap := w.heap.setIfInBounds B o } : World).heap[B]? = some o := fun o => by simp [hlt]
  cases hj : keyIdx (m.map (·.1)) x 0 with
  | none =>
    rw [hj] at hf
    have hx := keyIdx_none hj
    have hmd : mdel m x = m := List.filter_eq_self.2 fun p hp => by
      simp only [decide_eq_true_eq]
      intro e
      exact hx (e ▸ List.mem_map_of_mem hp)
    refine ⟨{ w with heap := w.heap.setIfInBounds B (.map es clk) }, ?_, ⟨es, clk, hat _, by rw [hmd]; exact hes, hbn, hbc, by rw [hmd]; exact hnd⟩, hgrow _, by simp⟩
    simp [Builtin.delete_, run_underlying ht, hgo, K.chk, hf, hset, Result.andThen]
  | some j =>
    rw [hj] at hf
    obtain ⟨_, hjk⟩ := keyIdx_some hj
    simp only [Nat.sub_zero, List.getElem?_map, Option.map_eq_some_iff] at hjk
    obtain ⟨p, hp, hpx⟩ := hjk
    obtain ⟨e, he, _, _⟩ := ent_of hes hp
    have hjl : j < es.size := by have := (List.getElem?_eq_some_iff.1 he).1; simpa using this
    have hmd : mdel m x = m.eraseIdx j := by rw [eraseIdx_filter hnd hp, hpx]; rfl
    have hsub : (es.eraseIdxIfInBounds j).toList = es.toList.eraseIdx j := by
      unfold Array.eraseIdxIfInBounds
      rw [dif_pos hjl]
      simp
    have he' : es[j]? = some e := by simpa using he
    refine ⟨{ w with heap := w.heap.setIfInBounds B (.map (es.eraseIdxIfInBounds j) clk) }, ?_, ⟨_, clk, hat _, ?_, ?_, ?_, ?_⟩, hgrow _, by simp⟩
    · simp [Builtin.delete_, run_underlying ht, hgo, K.chk, hf, he', hset, Result.andThen]
    · rw [hsub, hmd, map_eraseIdx, map_eraseIdx, hes]
    · rw [hsub, map_eraseIdx]
      exact hbn.sublist (List.eraseIdx_sublist _ _)
    · intro x hx
      rw [hsub] at hx
      exact hbc x ((List.eraseIdx_sublist _ _).subset hx)
    · rw [hmd, map_eraseIdx]
      exact hnd.sublist (List.eraseIdx_sublist _ _)
variable {P : Program} {ops : Array Oper} {rest : List Oper} {o : Oper} {a : Act} {Q : Exit → Act → World → Prop}
theorem wp_delete (hg : o.guard = none) {mo xo : Operand} {MT kt et t2 : TypeId} (hop : o.op = Op.call { callee := Callee.builtin Builtin.delete, args := #[mo, xo], argTypes := #[MT, t2] }) (K : Key P kt ek) (ht : P.underlying MT = some (.map kt et)) {w : World} {B : Nat}
    (hm : a.eval mo = .map (some B)) {x : κ} (hx : a.eval xo = ek x) {m : List (κ × ν)} (hM : MapIs ek ev w B m)
    (hK : ∀ w', MapIs ek ev w' B (mdel m x) → w.grownBy w' (some B) → w'.heap.size = w.heap.size → wpList P ops Q rest (a.put o.dst (.tuple #[])) w') : wpList P ops Q (o :: rest) a w := by
  refine wpList_plain hg fun K' hK' => ?_
  obtain ⟨w', hrun, r1, r2, r3⟩ := delete_run (t2 := t2) (ty := o.type) K ht hM x
  unfold Oper.wp
  simp [execOp, hop, resolve, invoke, builtin, hm, hx, hrun, Result.andThen]
  exact hK' _ _ (hK w' r1 r2 r3)
end
end Go.Proofs.YtdocgemfedohdaaGreat
