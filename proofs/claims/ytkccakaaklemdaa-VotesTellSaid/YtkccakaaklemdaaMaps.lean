/- Maps that a call makes: as lists of pairs, in the order of their laying. -/
import Derived.Test.YtkccakaaklemdaaBase
import Derived.Maps.OwnOps
import Derived.Maps.OwnSet
import Derived.Maps.RangeWalk
import Derived.Laws.StructEq
namespace Go.Proofs.Ytkccakaaklemdaa
open Go.RowKit

section
variable {κ ν : Type} [DecidableEq κ]
def mget (m : List (κ × ν)) (x : κ) : Option ν := (m.find? fun p => decide (p.1 = x)).map (·.2)
def mput (m : List (κ × ν)) (x : κ) (v : ν) : List (κ × ν) :=
  if (mget m x).isSome then m.map fun p => if p.1 = x then (p.1, v) else p else m ++ [(x, v)]

/-- What is asked of a kind of keys. -/
structure Key (P : Program) (kt : TypeId) (ek : κ → Value) : Prop where
  chk : ∀ b x w, (Instr.checkKey b 10000 kt (ek x)).run P w = .ok () w
  eq : ∀ x y w, (Op.equal kt (ek x) (ek y)).run P w = .ok (decide (x = y)) w
  now : ∃ d, P.underlying kt = some d ∧ ∀ x y, Instr.sameNow d (ek x) (ek y) = none ∨ Instr.sameNow d (ek x) (ek y) = some (decide (x = y))
  bits : ∀ x, Instr.sameBits 10000 (ek x) (ek x) = true

/-- Where a key is. -/
def keyIdx (ks : List κ) (x : κ) : Nat → Option Nat
  | i => match ks with
    | [] => none
    | k :: ks => if k = x then some i else keyIdx ks x (i + 1)

theorem findAsking_run {P : Program} {kt : TypeId} {ek : κ → Value} (K : Key P kt ek) (x : κ) (w : World) :
    ∀ (ks : List κ) (es : List MapEntry) (i : Nat), es.map (·.key) = ks.map ek →
      (Instr.findAsking kt (ek x) es i).run P w = .ok ((keyIdx ks x i).bind fun j => (es[j - i]?).map fun e => (j, e.val)) w := by
  intro ks
  induction ks with
  | nil => intro es i h; cases es with
    | nil => simp [Instr.findAsking, keyIdx]
    | cons e es => simp at h
  | cons k ks ih =>
    intro es i h
    cases es with
    | nil => simp at h
    | cons e es =>
      simp only [List.map_cons, List.cons.injEq] at h
      simp only [Instr.findAsking, Sem.run_bind, h.1, K.eq, Result.andThen_ok, keyIdx]
      by_cases hk : x = k
      · subst hk; simp
      · have hk' : ¬ k = x := fun e => hk e.symm
        simp only [hk, hk', decide_false, if_false, Bool.false_eq_true]
        rw [ih es (i + 1) h.2]
        congr 1
        cases hj : keyIdx ks x (i + 1) with
        | none => rfl
        | some j =>
          have hle : i + 1 ≤ j := by
            clear ih h hk hk'
            induction ks generalizing i with
            | nil => simp [keyIdx] at hj
            | cons k' ks ih' =>
              simp only [keyIdx] at hj
              split at hj
              · cases hj; omega
              · have := ih' (i + 1) hj; omega
          simp only [Option.bind_some]
          rw [show j - i = (j - (i + 1)) + 1 by omega, List.getElem?_cons_succ]

theorem findNow_run {d : TypeDesc} {ek : κ → Value} (hn : ∀ x y, Instr.sameNow d (ek x) (ek y) = none ∨ Instr.sameNow d (ek x) (ek y) = some (decide (x = y))) (x : κ) :
    ∀ (ks : List κ) (es : List MapEntry) (i : Nat), es.map (·.key) = ks.map ek →
      Instr.findNow d (ek x) es i = none ∨ Instr.findNow d (ek x) es i = some ((keyIdx ks x i).bind fun j => (es[j - i]?).map fun e => (j, e.val)) := by
  intro ks
  induction ks with
  | nil => intro es i h; cases es with
    | nil => simp [Instr.findNow, keyIdx]
    | cons e es => simp at h
  | cons k ks ih =>
    intro es i h
    cases es with
    | nil => simp at h
    | cons e es =>
      simp only [List.map_cons, List.cons.injEq] at h
      simp only [Instr.findNow, h.1, keyIdx]
      rcases hn x k with h1 | h1
      · left; rw [h1]
      · rw [h1]
        by_cases hk : x = k
        · subst hk; right; simp
        · have hk' : ¬ k = x := fun e => hk e.symm
          simp only [hk, hk', decide_false, if_false]
          rcases ih es (i + 1) h.2 with h2 | h2
          · left; exact h2
          · right
            rw [h2]
            congr 1
            cases hj : keyIdx ks x (i + 1) with
            | none => rfl
            | some j =>
              have hle : i + 1 ≤ j := by
                clear ih h hk hk' h1 h2
                induction ks generalizing i with
                | nil => simp [keyIdx] at hj
                | cons k' ks ih' =>
                  simp only [keyIdx] at hj
                  split at hj
                  · cases hj; omega
                  · have := ih' (i + 1) hj; omega
              simp only [Option.bind_some]
              rw [show j - i = (j - (i + 1)) + 1 by omega, List.getElem?_cons_succ]

theorem findKey_run {P : Program} {kt : TypeId} {ek : κ → Value} (K : Key P kt ek) (x : κ) (w : World) (ks : List κ) (es : List MapEntry) (h : es.map (·.key) = ks.map ek) :
    (Instr.findKey kt (ek x) es).run P w = .ok ((keyIdx ks x 0).bind fun j => (es[j]?).map fun e => (j, e.val)) w := by
  obtain ⟨d, hd, hn⟩ := K.now
  simp only [Instr.findKey, Sem.run_bind, run_underlying hd, Result.andThen_ok]
  rcases findNow_run hn x ks es 0 h with h1 | h1
  · rw [h1]
    simp only []
    simpa using findAsking_run K x w ks es 0 h
  · rw [h1]
    simp

/-- Block B is a map that holds m, in this order. -/
def MapIs (ek : κ → Value) (ev : ν → Value) (w : World) (B : Nat) (m : List (κ × ν)) : Prop :=
  ∃ es clk, w.heap[B]? = some (.map es clk) ∧ es.toList.map (fun e => (e.key, e.val)) = m.map (fun p => (ek p.1, ev p.2)) ∧
    (es.toList.map (·.born)).Pairwise (· < ·) ∧ (∀ e ∈ es.toList, e.born < clk) ∧ (m.map (·.1)).Nodup

theorem keyIdx_ge {ks : List κ} {x : κ} {i j : Nat} (hj : keyIdx ks x i = some j) : i ≤ j ∧ ks[j - i]? = some x := by
  induction ks generalizing i with
  | nil => simp [keyIdx] at hj
  | cons k' ks ih' =>
    simp only [keyIdx] at hj
    split at hj
    · rename_i hk
      cases hj; simp [hk]
    · have := ih' hj
      refine ⟨by omega, ?_⟩
      rw [show j - i = (j - (i + 1)) + 1 by omega, List.getElem?_cons_succ]
      exact this.2
theorem keyIdx_get (m : List (κ × ν)) (x : κ) (i : Nat) : mget m x = (keyIdx (m.map (·.1)) x i).bind fun j => (m[j - i]?).map (·.2) := by
  induction m generalizing i with
  | nil => simp [mget, keyIdx]
  | cons p m ih =>
    simp only [List.map_cons, keyIdx]
    by_cases h : p.1 = x
    · simp [mget, h]
    · have e : mget (p :: m) x = mget m x := by simp [mget, h]
      rw [e, ih (i + 1)]
      simp only [h, if_false]
      cases hj : keyIdx (m.map (·.1)) x (i + 1) with
      | none => rfl
      | some j =>
        have := (keyIdx_ge hj).1
        simp only [Option.bind_some]
        rw [show j - i = (j - (i + 1)) + 1 by omega, List.getElem?_cons_succ]

end
section
variable {κ ν : Type} {ek : κ → Value} {ev : ν → Value}
theorem entries_key {es : List MapEntry} {m : List (κ × ν)} (h : es.map (fun e => (e.key, e.val)) = m.map (fun p => (ek p.1, ev p.2))) : es.map (·.key) = (m.map (·.1)).map ek := by
  have := congrArg (List.map Prod.fst) h
  simpa [List.map_map, Function.comp_def] using this
theorem entries_val {es : List MapEntry} {m : List (κ × ν)} (h : es.map (fun e => (e.key, e.val)) = m.map (fun p => (ek p.1, ev p.2))) (j : Nat) : (es[j]?).map (·.val) = (m[j]?).map fun p => ev p.2 := by
  have := congrArg (fun l : List (Value × Value) => (l[j]?).map Prod.snd) h
  simpa [List.getElem?_map, Function.comp_def] using this

end
section
variable {κ ν : Type} [DecidableEq κ] {P : Program} {kt : TypeId} {ek : κ → Value} {ev : ν → Value}
theorem lookup_run (K : Key P kt ek) {MT et : TypeId} (ht : P.underlying MT = some (.map kt et)) {z : Value} {w : World} (hz : (zeroValue et).run P w = .ok z w) {B : Nat} {m : List (κ × ν)} (hM : MapIs ek ev w B m) (x : κ) (c : Bool) :
    (Instr.lookup MT (.map (some B)) (ek x) c).run P w = .ok (if c then .tuple #[((mget m x).map ev).getD z, .bool (mget m x).isSome] else ((mget m x).map ev).getD z) w := by
  obtain ⟨es, clk, hB, hes, _, _, _⟩ := hM
  have hf := findKey_run K x w (m.map (·.1)) es.toList (entries_key hes)
  have hg := keyIdx_get m x 0
  simp only [Nat.sub_zero] at hg
  have hgo : (getObj B).run P w = .ok (.map es clk) w := by simp [getObj, Sem.run, hB]
  simp only [Instr.lookup, Sem.run_bind, run_underlying ht, Result.andThen_ok, hgo, K.chk, hf, Sem.run_pure]
  cases hj : keyIdx (m.map (·.1)) x 0 with
  | none =>
    simp only [hj, Option.bind_none] at hg ⊢
    simp [hz, hg]
  | some j =>
    have hv := entries_val hes j
    simp only [hj, Option.bind_some] at hg ⊢
    cases he : es.toList[j]? with
    | none =>
      rw [he] at hv
      simp only [Option.map_none] at hv
      have hm : m[j]? = none := by
        cases hm : m[j]? with
        | none => rfl
        | some p => rw [hm] at hv; simp at hv
      simp [hz, hg, hm]
    | some e =>
      rw [he] at hv
      cases hm : m[j]? with
      | none => rw [hm] at hv; simp at hv
      | some p =>
        rw [hm] at hv
        simp only [Option.map_some, Option.some.injEq] at hv
        simp [hg, hm, hv]

theorem keyIdx_none {ks : List κ} {x : κ} {i : Nat} (h : keyIdx ks x i = none) : x ∉ ks := by
  induction ks generalizing i with
  | nil => simp
  | cons k ks ih =>
    simp only [keyIdx] at h
    split at h
    · cases h
    · rename_i hk
      intro hm
      rcases List.mem_cons.1 hm with e | e
      · exact hk e.symm
      · exact ih h e
theorem mget_none {m : List (κ × ν)} {x : κ} : mget m x = none ↔ x ∉ m.map (·.1) := by
  unfold mget
  simp [List.find?_eq_none]
  exact ⟨fun h v hm => h x v hm rfl, fun h a b hm e => h b (e ▸ hm)⟩
theorem mput_keys (m : List (κ × ν)) (x : κ) (v : ν) : (mput m x v).map (·.1) = if x ∈ m.map (·.1) then m.map (·.1) else m.map (·.1) ++ [x] := by
  unfold mput
  by_cases h : x ∈ m.map (·.1)
  · have h1 : (mget m x).isSome = true := by
      cases hg : mget m x with
      | none => exact absurd h (mget_none.1 hg)
      | some _ => rfl
    rw [if_pos h1, if_pos h, List.map_map]
    apply List.map_congr_left
    intro p _
    simp only [Function.comp]
    split <;> rfl
  · have h1 : mget m x = none := mget_none.2 h
    rw [h1, if_neg h]
    simp
theorem mem_mput {m : List (κ × ν)} {x : κ} {v : ν} {q : κ × ν} (h : q ∈ mput m x v) : q ∈ m ∨ q = (x, v) := by
  unfold mput at h
  split at h
  · obtain ⟨p, hp, rfl⟩ := List.mem_map.1 h
    split
    · rename_i hx; right; rw [hx]
    · left; exact hp
  · rcases List.mem_append.1 h with h | h
    · left; exact h
    · right; simpa using h
theorem mput_nodup {m : List (κ × ν)} (h : (m.map (·.1)).Nodup) (x : κ) (v : ν) : ((mput m x v).map (·.1)).Nodup := by
  rw [mput_keys]
  split
  · exact h
  · rename_i hx
    rw [List.nodup_append]
    refine ⟨h, by simp, ?_⟩
    intro a ha b hb
    simp only [List.mem_singleton] at hb
    subst hb
    intro e
    subst e
    exact hx ha

theorem update_run (K : Key P kt ek) {MT et : TypeId} (ht : P.underlying MT = some (.map kt et)) {w : World} {B : Nat} {m : List (κ × ν)} (hM : MapIs ek ev w B m) (x : κ) (v : ν) :
    ∃ w', (Instr.mapUpdate MT (.map (some B)) (ek x) (ev v)).run P w = .ok () w' ∧ MapIs ek ev w' B (mput m x v) ∧ w.grownBy w' (some B) ∧ w'.heap.size = w.heap.size := by
  obtain ⟨es, clk, hB, hes, hbn, hbc, hnd⟩ := hM
  have hlt := lt_of_block hB
  have hf := findKey_run K x w (m.map (·.1)) es.toList (entries_key hes)
  have hg := keyIdx_get m x 0
  simp only [Nat.sub_zero] at hg
  have hgo : (getObj B).run P w = .ok (.map es clk) w := by simp [getObj, Sem.run, hB]
  have hset : ∀ o, (setObj B o).run P w = .ok () { w with heap := w.heap.setIfInBounds B o } := by intro o; simp [setObj, Sem.run, hB]
  have hgrow : ∀ o, w.grownBy { w with heap := w.heap.setIfInBounds B o } (some B) := fun o => ⟨rfl, rfl, rfl, by simp, fun k _ hne => by
    have : B ≠ k := fun e => hne (by rw [e])
    simp [Array.getElem?_setIfInBounds_ne this]⟩
  have hat : ∀ o : Obj, ({ w with heap := w.heap.setIfInBounds B o } : World).heap[B]? = some o := fun o => by simp [hlt]
  cases hj : keyIdx (m.map (·.1)) x 0 with
  | none =>
    rw [hj] at hf
    have hx := keyIdx_none hj
    refine ⟨{ w with heap := w.heap.setIfInBounds B (.map (es.push { key := ek x, val := ev v, born := clk }) (clk + 1)) }, ?_, ?_, hgrow _, by simp⟩
    · simp only [Instr.mapUpdate, Sem.run_bind, run_underlying ht, Result.andThen_ok, hgo, K.chk, hf, Option.bind_none, hset]
    · refine ⟨_, _, hat _, ?_, ?_, ?_, mput_nodup hnd x v⟩
      · have : mput m x v = m ++ [(x, v)] := by unfold mput; rw [mget_none.2 hx]; rfl
        rw [this]
        simp [hes]
      · simp only [Array.toList_push, List.map_append, List.map_cons, List.map_nil]
        rw [List.pairwise_append]
        refine ⟨hbn, by simp, ?_⟩
        intro a ha b hb
        simp only [List.mem_singleton] at hb
        obtain ⟨e, he, rfl⟩ := List.mem_map.1 ha
        subst hb
        exact hbc e he
      · intro e he
        simp only [Array.toList_push, List.mem_append, List.mem_singleton] at he
        rcases he with he | he
        · exact Nat.lt_succ_of_lt (hbc e he)
        · subst he; exact Nat.lt_succ_self _
  | some j =>
    obtain ⟨_, hjx⟩ := keyIdx_ge hj
    simp only [Nat.sub_zero] at hjx
    rw [hj] at hf
    have hmj : ∃ p, m[j]? = some p ∧ p.1 = x := by
      rw [List.getElem?_map] at hjx
      cases hp : m[j]? with
      | none => rw [hp] at hjx; simp at hjx
      | some p => rw [hp] at hjx; exact ⟨p, rfl, by simpa using hjx⟩
    obtain ⟨p, hp, hpx⟩ := hmj
    have hej : ∃ e, es.toList[j]? = some e ∧ e.key = ek x := by
      have := congrArg (fun l : List (Value × Value) => l[j]?) hes
      simp only [List.getElem?_map, hp, Option.map_some] at this
      cases he : es.toList[j]? with
      | none => rw [he] at this; simp at this
      | some e => rw [he] at this; simp at this; exact ⟨e, rfl, by rw [this.1, hpx]⟩
    obtain ⟨e, he, hek⟩ := hej
    have he' : es[j]? = some e := by simpa using he
    refine ⟨{ w with heap := w.heap.setIfInBounds B (.map (es.modify j fun e => { e with key := ek x, val := ev v }) clk) }, ?_, ?_, hgrow _, by simp⟩
    · simp only [Instr.mapUpdate, Sem.run_bind, run_underlying ht, Result.andThen_ok, hgo, K.chk, hf, Option.bind_some, he, Option.map_some, he', Option.getD_some, hek]
      simp only [Instr.keyThatStays, K.bits, if_true, Sem.run_pure, Result.andThen_ok, hset]
    · refine ⟨_, _, hat _, ?_, ?_, ?_, mput_nodup hnd x v⟩
      · have hsome : (mget m x).isSome = true := by rw [hg, hj]; simp [hp]
        have hmp : mput m x v = m.map fun p => if p.1 = x then (p.1, v) else p := by unfold mput; rw [if_pos hsome]
        rw [hmp]
        apply List.ext_getElem?
        intro i
        have hi := congrArg (fun l : List (Value × Value) => l[i]?) hes
        simp only [List.getElem?_map] at hi
        simp only [Array.toList_modify, List.getElem?_map, List.getElem?_modify]
        by_cases hij : j = i
        · subst hij
          simp [he, hp, hpx]
        · simp only [hij, if_false]
          cases hmi : m[i]? with
          | none => rw [hmi] at hi; simpa using hi
          | some q =>
            have hq : ¬ q.1 = x := by
              intro hq
              have h1 : (m.map (·.1))[i]? = some x := by simp [hmi, hq]
              have h2 : (m.map (·.1))[j]? = some x := by simp [hp, hpx]
              have hil := (List.getElem?_eq_some_iff.1 h1).1
              have hjl := (List.getElem?_eq_some_iff.1 h2).1
              exact hij ((List.getElem?_inj hjl hnd).1 (h2.trans h1.symm))
            rw [hmi] at hi
            simp only [Option.map_some, hq, if_false] at hi ⊢
            simpa using hi
      · have : (es.modify j fun e => { e with key := ek x, val := ev v }).toList.map (·.born) = es.toList.map (·.born) := by
          rw [Array.toList_modify]
          apply List.ext_getElem?
          intro i
          simp only [List.getElem?_map, List.getElem?_modify]
          by_cases hij : j = i
          · subst hij; simp [he]
          · simp only [hij, if_false]; simp
        rw [this]; exact hbn
      · intro e' he2
        rw [Array.toList_modify] at he2
        obtain ⟨i, hi⟩ := List.getElem?_of_mem he2
        rw [List.getElem?_modify] at hi
        by_cases hij : j = i
        · subst hij
          simp only [he, if_true, Option.map_eq_map, Option.map_some, Option.some.injEq] at hi
          subst hi
          exact hbc e (List.mem_of_getElem? he)
        · simp only [hij, if_false] at hi
          exact hbc e' (List.mem_of_getElem? (by simpa using hi))

variable {ops : Array Oper} {rest : List Oper} {o : Oper} {a : Act} {Q : Exit → Act → World → Prop}
theorem wp_lookup (hgd : o.guard = none) {MT et : TypeId} {mo ko : Operand} {c : Bool} (ho : o.op = .lookup MT mo ko c) (K : Key P kt ek) (ht : P.underlying MT = some (.map kt et)) {z : Value} {w : World} (hz : (zeroValue et).run P w = .ok z w)
    {B : Nat} (hmo : a.eval mo = .map (some B)) {x : κ} (hko : a.eval ko = ek x) {m : List (κ × ν)} (hM : MapIs ek ev w B m) {r : Value} (hr : (if c then .tuple #[((mget m x).map ev).getD z, .bool (mget m x).isSome] else ((mget m x).map ev).getD z) = r)
    (h : wpList P ops Q rest (a.put o.dst r) w) : wpList P ops Q (o :: rest) a w := by
  refine wpList_plain hgd fun K' hK' => ?_
  have hrun := lookup_run K ht hz hM x c
  unfold Oper.wp
  simp [execOp, ho, hmo, hko, hrun, Result.andThen]
  rw [hr]
  exact hK' _ _ h
theorem wp_lookup_nil (hgd : o.guard = none) {MT et : TypeId} {mo ko : Operand} {c : Bool} (ho : o.op = .lookup MT mo ko c) (K : Key P kt ek) (ht : P.underlying MT = some (.map kt et)) {z : Value} {w : World} (hz : (zeroValue et).run P w = .ok z w)
    (hmo : a.eval mo = .map none) {x : κ} (hko : a.eval ko = ek x) {r : Value} (hr : (if c then .tuple #[z, .bool false] else z) = r)
    (h : wpList P ops Q rest (a.put o.dst r) w) : wpList P ops Q (o :: rest) a w := by
  refine wpList_plain hgd fun K' hK' => ?_
  have hf := findKey_run K x w [] [] rfl
  have hrun : (Instr.lookup MT (.map none) (ek x) c).run P w = .ok r w := by
    simp only [Instr.lookup, Sem.run_bind, run_underlying ht, Result.andThen_ok, Sem.run_pure, K.chk]
    rw [hf]
    simp [keyIdx, hz, hr]
  unfold Oper.wp
  simp [execOp, ho, hmo, hko, hrun, Result.andThen]
  exact hK' _ _ h
theorem wp_update (hgd : o.guard = none) {MT et : TypeId} {mo ko vo : Operand} (ho : o.op = .mapUpdate MT mo ko vo ∨ o.op = .insert MT mo ko vo) (K : Key P kt ek) (ht : P.underlying MT = some (.map kt et)) {w : World}
    {B : Nat} (hmo : a.eval mo = .map (some B)) {x : κ} (hko : a.eval ko = ek x) {v : ν} (hvo : a.eval vo = ev v) {m : List (κ × ν)} (hM : MapIs ek ev w B m)
    (h : ∀ w', MapIs ek ev w' B (mput m x v) → w.grownBy w' (some B) → w'.heap.size = w.heap.size → wpList P ops Q rest (a.put o.dst undef) w') : wpList P ops Q (o :: rest) a w := by
  refine wpList_plain hgd fun K' hK' => ?_
  obtain ⟨w', hrun, h1, h2, h3⟩ := update_run K ht hM x v
  unfold Oper.wp
  rcases ho with ho | ho
  · simp [execOp, ho, hmo, hko, hvo, hrun, Result.andThen]
    exact hK' _ _ (h w' h1 h2 h3)
  · simp [execOp, ho, hmo, hko, hvo, hrun, Result.andThen]
    exact hK' _ _ (h w' h1 h2 h3)
end
section
variable {κ ν : Type} {ek : κ → Value} {ev : ν → Value}
theorem MapIs_new (ek : κ → Value) (ev : ν → Value) {w : World} {B : Nat} (h : w.heap[B]? = some (.map #[] 0)) : MapIs ek ev w B [] := ⟨#[], 0, h, rfl, by simp, by simp, by simp⟩
theorem MapIs_same {w w' : World} {B : Nat} {m : List (κ × ν)} (h : MapIs ek ev w B m) (hb : w'.heap[B]? = w.heap[B]?) : MapIs ek ev w' B m := by
  obtain ⟨es, clk, h1, h2⟩ := h
  exact ⟨es, clk, hb.trans h1, h2⟩
theorem MapIs_lt {w : World} {B : Nat} {m : List (κ × ν)} (h : MapIs ek ev w B m) : B < w.heap.size := by
  obtain ⟨es, clk, h1, h2⟩ := h
  exact lt_of_block h1
theorem MapIs_below {w w' : World} {B : Nat} {m : List (κ × ν)} (h : MapIs ek ev w B m) (hb : Below w.heap.size w w') : MapIs ek ev w' B m := MapIs_same h (hb.block B (MapIs_lt h))
theorem MapIs_alloc {w : World} {B : Nat} {m : List (κ × ν)} (h : MapIs ek ev w B m) (o : Obj) : MapIs ek ev (w.alloc o) B m := MapIs_below h ((Below.refl _ w).alloc (Nat.le_refl _) o)
theorem MapIs_grown {w w' : World} {B : Nat} {m : List (κ × ν)} {row : Option Nat} (h : MapIs ek ev w B m) (hg : w.grownBy w' row) (hne : some B ≠ row) : MapIs ek ev w' B m := MapIs_same h (hg.block B (MapIs_lt h) hne)
theorem own_ne_map {α : Type} {w : World} {base : Nat} {e : TypeId} {k : Nat} {enc : α → List Value} {v : Value} {xs : List α} {M : Nat} {m : List (κ × ν)} (h : Own w base e k enc v xs) (hM : MapIs ek ev w M m) : v.ownBlock ≠ some M := by
  obtain ⟨_, h2⟩ := h
  obtain ⟨es, clk, hB, _⟩ := hM
  rcases h2 with ⟨rfl, _⟩ | ⟨g, cap, cur, rfl, _, hh, _⟩
  · simp [Value.ownBlock]
  · intro e
    simp only [Value.ownBlock, Option.some.injEq] at e
    subst e
    rw [hB] at hh
    cases hh
end
end Go.Proofs.Ytkccakaaklemdaa
