/- HI: several texts in one. -/
import Derived.Test.YtdocgemfedohdaaHH
import Derived.Test.YtdocgemfedohdaaHA
import Derived.Lib.Hide
import Derived.Test.YtdocgemfedohdaaHD
import Derived.Test.YtdocgemfedohdaaHC
/-! Who breaks what is justified, and final, is guilty (the plain law). -/
namespace Go.Proofs.Ytdocgemfedohdaa
theorem wsumTo_two (W : List Int) (p q : Nat → Bool) (k : Nat) : wsumTo W p k + wsumTo W q k = wsumTo W (fun i => p i || q i) k + wsumTo W (fun i => p i && q i) k := by
  induction k with
  | zero => rfl
  | succ k ih =>
    simp only [wsumTo]
    by_cases h1 : p k = true <;> by_cases h2 : q k = true <;> simp [h1, h2] <;> omega
theorem weightC_two (c : Cfg) {a b g : List Int} (h : ∀ i, i ∈ a → i ∈ b → i ∈ g) : weightC c a + weightC c b ≤ totalC c + weightC c g := by
  unfold weightC totalC
  by_cases hm : MayC c
  · simp only [if_pos hm]
    rw [wsumTo_two]
    have h1 := wsumTo_mono hm.W (p := fun i => decide ((i : Int) ∈ a) || decide ((i : Int) ∈ b)) (q := fun _ => true) (fun _ _ => rfl) c.W.length
    have h2 := wsumTo_mono hm.W (p := fun i => decide ((i : Int) ∈ a) && decide ((i : Int) ∈ b)) (q := fun i => decide ((i : Int) ∈ g)) (fun i hi => by
      simp only [Bool.and_eq_true, decide_eq_true_eq] at hi ⊢
      exact h _ hi.1 hi.2) c.W.length
    omega
  · simp only [if_neg hm]; omega
/-- The guilty weigh at least a third. -/
def Third (c : Cfg) (v : List Lnk) : Prop := totalC c ≤ 3 * weightC c (guiltyL v)
theorem third_of {c : Cfg} {l : List Blk} {v : List Lnk} {p q : Way} (hp : StrongW c l v p) (hq : StrongW c l v q)
    (h : ∀ x y : Lnk, wayOf x = p → wayOf y = q → x.frm = y.frm → Pair x y) : Third c v := by
  have h1 := weightC_two c (a := whoW c l v p) (b := whoW c l v q) (g := guiltyL v) (fun i ha hb => by
    obtain ⟨x, x1, _, x2, x3⟩ := mem_whoW.1 ha
    obtain ⟨y, y1, _, y2, y3⟩ := mem_whoW.1 hb
    exact ((guiltyL_is v).2 i).2 ⟨x, x1, y, y1, h x y x2 y2 (x3.trans y3.symm), x3⟩)
  have h2 := hp.2
  have h3 := hq.2
  unfold Third
  omega
theorem third_twice {c : Cfg} {l : List Blk} {v : List Lnk} {p q : Way} (hp : StrongW c l v p) (hq : StrongW c l v q) (he : p.tgt.epoch = q.tgt.epoch) (hne : p.tgt ≠ q.tgt) : Third c v :=
  third_of hp hq fun x y hx hy hf => ⟨hf, .inr (.inr ⟨fun e => hne (by rw [← hx, ← hy, e]), by subst hx hy; exact he⟩)⟩
theorem third_spans {c : Cfg} {l : List Blk} {v : List Lnk} {p q : Way} (hp : StrongW c l v p) (hq : StrongW c l v q) (h1 : p.src.epoch < q.src.epoch) (h2 : q.tgt.epoch < p.tgt.epoch) : Third c v :=
  third_of hp hq fun x y hx hy hf => ⟨hf, .inl (by subst hx hy; exact ⟨h1, h2⟩)⟩
/-- Of one epoch no two are justified. -/
theorem just_once {c : Cfg} {l : List Blk} {v : List Lnk} (hno : ¬ Third c v) {x y : Chk} (hx : JustC c l v x) (hy : JustC c l v y) (he : x.epoch = y.epoch) : x = y := by
  cases hx with
  | zero =>
    rcases just_epoch hy with h | h
    · exact h.symm
    · have : (0 : Int) = y.epoch := he
      omega
  | @step p hp1 hp2 =>
    cases hy with
    | zero =>
      have := strong_ok hp2
      have h1 := this.lo
      have h2 := this.lt
      have : p.tgt.epoch = 0 := he
      omega
    | @step q hq1 hq2 => exact Classical.byContradiction fun hne => hno (third_twice hp2 hq2 he hne)
/-- What is final is under all that is justified behind it. -/
theorem final_under {c : Cfg} {l : List Blk} {v : List Lnk} (ht : Tree l) (hno : ¬ Third c v) {f : Chk} (hf : FinalC c l v f) {x : Chk} (hx : JustC c l v x) : f.epoch ≤ x.epoch → f.root ∈ chain l x.root := by
  induction hx with
  | zero =>
    intro h
    rcases just_epoch (final_just hf) with rfl | h1
    · rw [show zchk.root = zid from rfl, chain_zid ht]; simp
    · have : f.epoch ≤ 0 := h
      omega
  | @step p h1 h2 ih =>
    intro h
    have ho := strong_ok h2
    have hj : JustC c l v p.tgt := .step h1 h2
    by_cases ha : f.epoch ≤ p.src.epoch
    · exact chain_trans ho.under (ih ha)
    · by_cases hb : p.tgt.epoch = f.epoch
      · have e := just_once hno hj (final_just hf) hb
        rw [e]
        refine chain_self fun e' => ?_
        have := ho.under
        rw [e, e'] at this
        cases this
      · rcases hf with rfl | ⟨hfj, t, hs, hends⟩
        · have := ho.lo
          have : ¬ (0 : Int) ≤ p.src.epoch := ha
          omega
        · have hst := strong_ok hs
          have hu : f.root ∈ chain l t.root := hst.under
          have htj : JustC c l v t := ComeTo.step (p := ⟨f, t⟩) hfj hs
          have hspan : t.epoch < p.tgt.epoch → Third c v := fun h3 => third_spans h2 hs (show p.src.epoch < f.epoch by omega) h3
          rcases hends with he | ⟨he, m, hm1, hm2, hm3, hm4⟩
          · have he' : t.epoch = f.epoch + 1 := he
            by_cases hc : p.tgt.epoch = t.epoch
            · rw [just_once hno hj htj hc]; exact hu
            · exact absurd (hspan (by omega)) hno
          · have he' : t.epoch = f.epoch + 2 := he
            have hm2' : m.epoch = f.epoch + 1 := hm2
            by_cases hc : p.tgt.epoch = t.epoch
            · rw [just_once hno hj htj hc]; exact hu
            · by_cases hd : p.tgt.epoch = m.epoch
              · rw [just_once hno hj hm1 hd]; exact hm3
              · exact absurd (hspan (by omega)) hno
/-- THE LAW: two final ones, of which neither is under the other one. -/
theorem slash_third {c : Cfg} {l : List Blk} {v : List Lnk} {x y : Chk} (hx : x ∈ finalL c l v) (hy : y ∈ finalL c l v) (h1 : x.root ∉ chain l y.root) (h2 : y.root ∉ chain l x.root) : Third c v := by
  by_cases hm : MayC c ∧ Tree l
  · rw [mem_finalL hm] at hx hy
    refine Classical.byContradiction fun hno => ?_
    by_cases he : x.epoch ≤ y.epoch
    · exact h1 (final_under hm.2 hno hx (final_just hy) he)
    · exact h2 (final_under hm.2 hno hy (final_just hx) (by omega))
  · rw [finalL_no hm] at hx; cases hx
theorem slash_epochs {c : Cfg} {l : List Blk} {v : List Lnk} (hno : ¬ Third c v) {i : Nat} (hi : i + 1 < (justL c l v).length) : (justL c l v)[i].epoch ≠ (justL c l v)[i + 1].epoch := by
  intro e
  by_cases hm : MayC c ∧ Tree l
  · have h1 := (mem_justL hm).1 (List.getElem_mem (show i < (justL c l v).length by omega))
    have h2 := (mem_justL hm).1 (List.getElem_mem hi)
    exact (justL_rises hi).2 (just_once hno h1 h2 e)
  · rw [justL_no hm] at hi; cases hi
end Go.Proofs.Ytdocgemfedohdaa
/-! A range over a map that the loop leaves as it is, and deletion from a map: maps as lists of pairs. -/
namespace Go.Proofs.Ytdocgemfedohdaa
open Go.RowKit Go.ChangeMaps Go.MapKept
section
variable {κ ν : Type} [DecidableEq κ] {ek : κ → Value} {ev : ν → Value}
/-- A range over block B's map is under way, its iterator in block r; the keys 'seen' have come. -/
def RIs (ek : κ → Value) (ev : ν → Value) (w : World) (B r : Nat) (m : List (κ × ν)) (came : List κ) : Prop :=
  ∃ es clk since seen c0, w.heap[B]? = some (.map es clk) ∧ es.toList.map (fun e => (e.key, e.val)) = m.map (fun p => (ek p.1, ev p.2)) ∧
    (es.toList.map (·.born)).Pairwise (· < ·) ∧ (∀ e ∈ es.toList, e.born < clk) ∧ (m.map (·.1)).Nodup ∧
    w.heap[r]? = some (.mapIter (some B) since seen c0) ∧ (∀ e ∈ es.toList, e.born < since) ∧
    (∀ (i : Nat) (e : MapEntry) (p : κ × ν), es.toList[i]? = some e → m[i]? = some p → seen.contains e.born = decide (p.1 ∈ came)) ∧ since ≤ c0 ∧ since ≤ clk
theorem RIs.map {w : World} {B r : Nat} {m : List (κ × ν)} {came : List κ} (h : RIs ek ev w B r m came) : MapIs ek ev w B m := by
  obtain ⟨es, clk, _, _, _, h1, h2, h3, h4, h5, _⟩ := h
  exact ⟨es, clk, h1, h2, h3, h4, h5⟩
theorem RIs.ne {w : World} {B r : Nat} {m : List (κ × ν)} {came : List κ} (h : RIs ek ev w B r m came) : r ≠ B := by
  obtain ⟨es, clk, since, seen, c0, hb, _, _, _, _, hr, _⟩ := h
  intro e
  rw [e, hb] at hr
  cases hr
theorem RIs.lt {w : World} {B r : Nat} {m : List (κ × ν)} {came : List κ} (h : RIs ek ev w B r m came) : r < w.heap.size := by
  obtain ⟨es, clk, since, seen, c0, hb, _, _, _, _, hr, _⟩ := h
  exact lt_of_block hr
theorem RIs.same {w w' : World} {B r : Nat} {m : List (κ × ν)} {came : List κ} (h : RIs ek ev w B r m came) (h1 : w'.heap[B]? = w.heap[B]?) (h2 : w'.heap[r]? = w.heap[r]?) : RIs ek ev w' B r m came ∧ w'.rangeLeft B r = w.rangeLeft B r := by
  refine ⟨?_, by unfold World.rangeLeft; rw [h1, h2]⟩
  obtain ⟨es, clk, since, seen, c0, hb, a1, a2, a3, a4, hr, rest⟩ := h
  exact ⟨es, clk, since, seen, c0, h1.trans hb, a1, a2, a3, a4, h2.trans hr, rest⟩
theorem RIs.grown {w w' : World} {B r : Nat} {m : List (κ × ν)} {came : List κ} {row : Option Nat} (h : RIs ek ev w B r m came) (hg : w.grownBy w' row) (h1 : some B ≠ row) (h2 : some r ≠ row) : RIs ek ev w' B r m came ∧ w'.rangeLeft B r = w.rangeLeft B r :=
  h.same (hg.block B (MapIs_lt h.map) h1) (hg.block r h.lt h2)
theorem RIs.below {w w' : World} {B r : Nat} {m : List (κ × ν)} {came : List κ} (h : RIs ek ev w B r m came) (hb : Below w.heap.size w w') : RIs ek ev w' B r m came ∧ w'.rangeLeft B r = w.rangeLeft B r :=
  h.same (hb.block B (MapIs_lt h.map)) (hb.block r h.lt)
omit [DecidableEq κ] in
theorem ent_at {es : Array MapEntry} {m : List (κ × ν)} (h : es.toList.map (fun e => (e.key, e.val)) = m.map (fun p => (ek p.1, ev p.2))) {i : Nat} {e : MapEntry} (hi : es.toList[i]? = some e) : ∃ p, m[i]? = some p ∧ e.key = ek p.1 ∧ e.val = ev p.2 := by
  have h1 := congrArg (·[i]?) h
  simp only [List.getElem?_map, hi, Option.map_some] at h1
  cases hp : m[i]? with
  | none => rw [hp] at h1; simp at h1
  | some p =>
    rw [hp] at h1
    simp only [Option.map_some, Option.some.injEq, Prod.mk.injEq] at h1
    exact ⟨p, rfl, h1.1, h1.2⟩
omit [DecidableEq κ] in
theorem ent_of {es : Array MapEntry} {m : List (κ × ν)} (h : es.toList.map (fun e => (e.key, e.val)) = m.map (fun p => (ek p.1, ev p.2))) {i : Nat} {p : κ × ν} (hi : m[i]? = some p) : ∃ e, es.toList[i]? = some e ∧ e.key = ek p.1 ∧ e.val = ev p.2 := by
  have h1 := congrArg (·[i]?) h
  simp only [List.getElem?_map, hi, Option.map_some] at h1
  cases hp : es.toList[i]? with
  | none => rw [hp] at h1; simp at h1
  | some e =>
    rw [hp] at h1
    simp only [Option.map_some, Option.some.injEq, Prod.mk.injEq] at h1
    exact ⟨e, rfl, h1.1, h1.2⟩
theorem nodup_born {l : List MapEntry} (h : (l.map (·.born)).Pairwise (· < ·)) : (l.map (·.born)).Nodup := h.imp (fun h => by omega)
/-- 'range m'. -/
theorem range_run {P : Program} {MT kt et : TypeId} (ht : P.underlying MT = some (.map kt et)) {w : World} {B : Nat} {m : List (κ × ν)} (hM : MapIs ek ev w B m) :
    ∃ w', (Instr.range MT (.map (some B))).run P w = .ok (.pointer (some ⟨w.heap.size, 0, none⟩)) w' ∧ RIs ek ev w' B w.heap.size m [] ∧ Below w.heap.size w w' ∧ w'.heap.size = w.heap.size + 1 := by
  obtain ⟨es, clk, hB, hes, hbn, hbc, hnd⟩ := hM
  have hlt := lt_of_block hB
  refine ⟨_, run_range_map w MT kt et B es clk ht hB, ⟨es, clk, clk, #[], clk, ha_lt hB, hes, hbn, hbc, hnd, ha_at rfl, hbc, fun i e p _ _ => by simp, Nat.le_refl _, Nat.le_refl _⟩, (Below.refl _ w).alloc (Nat.le_refl _) _, by simp⟩
/-- The step. -/
theorem next_run {P : Program} {w : World} {B r : Nat} {m : List (κ × ν)} {came : List κ} (h : RIs ek ev w B r m came) (ty : TypeId) :
    ((∀ p ∈ m, p.1 ∈ came) ∧ (Instr.next (.pointer (some ⟨r, 0, none⟩)) false ty).run P w = .ok (.tuple #[.bool false]) w) ∨
    ∃ x v w', (x, v) ∈ m ∧ x ∉ came ∧ (Instr.next (.pointer (some ⟨r, 0, none⟩)) false ty).run P w = .ok (.tuple #[.bool true, ek x, ev v]) w' ∧ RIs ek ev w' B r m (x :: came) ∧ w'.rangeLeft B r < w.rangeLeft B r ∧
      w.grownBy w' (some r) ∧ w'.heap.size = w.heap.size ∧ (Instr.entry (.pointer (some ⟨r, 0, none⟩))).run P w' = .ok (.tuple #[ek x, ev v]) w' := by
  have hne := h.ne
  obtain ⟨es, clk, since, seen, c0, hb, hes, hbn, hbc, hnd, hr, hold, hseen, hsc, hsk⟩ := h
  have hnb := nodup_born hbn
  rcases run_next_at (P := P) w ty r B since c0 seen es clk hr hb hold hsc with ⟨h0, hrun⟩ | ⟨e, he, w1, hal, hrun⟩
  · refine .inl ⟨fun p hp => ?_, hrun⟩
    obtain ⟨i, hi⟩ := List.mem_iff_getElem?.1 hp
    obtain ⟨e, hei, _⟩ := ent_of hes hi
    have := hseen i e p hei hi
    rw [all_seen es seen h0 e (List.mem_of_getElem? hei)] at this
    simpa using this.symm
  · obtain ⟨hem, hen⟩ := mem_left he
    obtain ⟨i, hi⟩ := List.mem_iff_getElem?.1 hem
    obtain ⟨p, hp, hk, hv⟩ := ent_at hes hi
    have hpc := hseen i e p hi hp
    rw [hen] at hpc
    have hnc : p.1 ∉ came := by simpa using hpc.symm
    have hr1 : w1.heap[r]? = some (.mapIter (some B) since seen c0) := by rcases hal with rfl | rfl <;> exact hr
    have hb1 : w1.heap[B]? = some (.map es clk) := by rcases hal with rfl | rfl <;> exact hb
    have hset := heap_set (o' := .mapIter (some B) since (seen.push e.born) clk) hr1
    have hb' : (setBlock w1 r (.mapIter (some B) since (seen.push e.born) clk)).heap[B]? = some (.map es clk) := (hset.2 B (fun e1 => hne e1.symm)).trans hb1
    refine .inr ⟨p.1, p.2, setBlock w1 r (.mapIter (some B) since (seen.push e.born) clk), List.mem_of_getElem? hp, hnc, by rw [hrun, hk, hv],
      ⟨es, clk, since, seen.push e.born, clk, hb', hes, hbn, hbc, hnd, hset.1, hold, fun j e' p' hj hp' => ?_, hsk, hsk⟩, ?_, ?_, ?_, ?_⟩
    · rw [contains_push, hseen j e' p' hj hp', Bool.eq_iff_iff]
      simp only [Bool.or_eq_true, decide_eq_true_eq, beq_iff_eq, List.mem_cons]
      constructor
      · rintro (h | h)
        · exact .inr h
        · have : e' = e := born_inj hnb (List.mem_of_getElem? hj) hem (by omega)
          subst this
          have hij : j = i := by
            have hl1 := (List.getElem?_eq_some_iff.1 hj).1
            have hl2 := (List.getElem?_eq_some_iff.1 hi).1
            have e1 : (es.toList.map (·.born))[j]? = (es.toList.map (·.born))[i]? := by simp [List.getElem?_map, hj, hi]
            have hl1' : j < (es.toList.map (·.born)).length := by simpa using hl1
            exact (List.getElem?_inj hl1' hnb).1 e1
          subst hij
          rw [hp] at hp'
          cases hp'
          exact .inl rfl
      · rintro (h | h)
        · right
          have hij : j = i := by
            have e1 : (m.map (·.1))[j]? = (m.map (·.1))[i]? := by simp [List.getElem?_map, hp, hp', h]
            have hl : j < (m.map (·.1)).length := by simpa using (List.getElem?_eq_some_iff.1 hp').1
            exact (List.getElem?_inj hl hnd).1 e1
          subst hij
          rw [hi] at hj
          cases hj
          rfl
        · exact .inl h
    · have := left_shrinks es seen e he
      unfold World.rangeLeft
      rw [hb', show (setBlock w1 r (.mapIter (some B) since (seen.push e.born) clk)).heap[r]? = _ from hset.1, hb, hr]
      exact this
    · rcases hal with rfl | rfl <;> exact ⟨rfl, rfl, rfl, by simp [setBlock], fun i _ hi => hset.2 i (fun e1 => hi (by rw [e1]))⟩
    · rcases hal with rfl | rfl <;> simp [setBlock]
    · rw [run_entry_at _ r B since seen es clk e hset.1 hb' hem hnb, hk, hv]
variable {P : Program} {ops : Array Oper} {rest : List Oper} {o : Oper} {a : Act} {Q : Exit → Act → World → Prop}
theorem wp_range (hg : o.guard = none) {mo : Operand} {MT kt et : TypeId} (hop : o.op = Op.range MT mo) (ht : P.underlying MT = some (.map kt et)) {w : World} {B : Nat} (hm : a.eval mo = .map (some B)) {m : List (κ × ν)} (hM : MapIs ek ev w B m) {r : Nat} (hr : w.heap.size = r)
    (hK : ∀ w', RIs ek ev w' B r m [] → Below w.heap.size w w' → w'.heap.size = w.heap.size + 1 → wpList P ops Q rest (a.put o.dst (.pointer (some ⟨r, 0, none⟩))) w') : wpList P ops Q (o :: rest) a w := by
  subst hr
  refine wpList_plain hg fun K' hK' => ?_
  obtain ⟨w', hrun, r1, r2, r3⟩ := range_run ht hM
  unfold Oper.wp
  simp [execOp, hop, hm, hrun, Result.andThen]
  exact hK' _ _ (hK w' r1 r2 r3)
/-- An entry has come. -/
structure Came (ek : κ → Value) (ev : ν → Value) (w w' : World) (B r : Nat) (m : List (κ × ν)) (came : List κ) (x : κ) (v : ν) : Prop where
  mem : (x, v) ∈ m
  fresh : x ∉ came
  ris : RIs ek ev w' B r m (x :: came)
  less : w'.rangeLeft B r < w.rangeLeft B r
  grown : w.grownBy w' (some r)
  size : w'.heap.size = w.heap.size
theorem wp_next (hg : o.guard = none) {it : Operand} (hop : o.op = Op.next it false) {w : World} {B r : Nat} {m : List (κ × ν)} {came : List κ} (hit : a.eval it = .pointer (some ⟨r, 0, none⟩)) (h : RIs ek ev w B r m came)
    (hDone : Hid (∀ p ∈ m, p.1 ∈ came) → wpList P ops Q rest (a.put o.dst (.tuple #[.bool false])) w)
    (hMore : ∀ (x : κ) (v : ν) (w' : World), Came ek ev w w' B r m came x v → (Instr.entry (.pointer (some ⟨r, 0, none⟩))).run P w' = .ok (.tuple #[ek x, ev v]) w' → wpList P ops Q rest (a.put o.dst (.tuple #[.bool true, ek x, ev v])) w') : wpList P ops Q (o :: rest) a w := by
  refine wpList_plain hg fun K' hK' => ?_
  unfold Oper.wp
  rcases next_run (P := P) h o.type with ⟨h0, hrun⟩ | ⟨x, v, w', h1, h2, hrun, h3, h4, h5, h6, h7⟩
  · simp [execOp, hop, hit, hrun, Result.andThen]
    exact hK' _ _ (hDone (Lib.hid h0))
  · simp [execOp, hop, hit, hrun, Result.andThen]
    exact hK' _ _ (hMore x v w' ⟨h1, h2, h3, h4, h5, h6⟩ h7)
end
section
variable {κ ν : Type} [DecidableEq κ] {ek : κ → Value} {ev : ν → Value}
def mdel (m : List (κ × ν)) (x : κ) : List (κ × ν) := m.filter fun p => decide (p.1 ≠ x)
theorem keyIdx_some {ks : List κ} {x : κ} {i j : Nat} (h : keyIdx ks x i = some j) : i ≤ j ∧ ks[j - i]? = some x := keyIdx_ge h
theorem eraseIdx_filter {m : List (κ × ν)} (hnd : (m.map (·.1)).Nodup) {j : Nat} {v : κ × ν} (hj : m[j]? = some v) : m.eraseIdx j = m.filter fun p => decide (p.1 ≠ v.1) := by
  induction m generalizing j with
  | nil => simp at hj
  | cons a m ih =>
    simp only [List.map_cons, List.nodup_cons] at hnd
    cases j with
    | zero =>
      simp only [List.getElem?_cons_zero, Option.some.injEq] at hj
      subst hj
      simp only [List.eraseIdx_cons_zero, List.filter_cons, ne_eq, not_true_eq_false, decide_false, Bool.false_eq_true, if_false]
      refine (List.filter_eq_self.2 fun p hp => ?_).symm
      simp only [decide_eq_true_eq]
      intro e
      exact hnd.1 (e ▸ List.mem_map_of_mem hp)
    | succ j =>
      simp only [List.getElem?_cons_succ] at hj
      have hne : a.1 ≠ v.1 := by
        intro e
        exact hnd.1 (e ▸ List.mem_map_of_mem (List.mem_of_getElem? hj))
      simp only [List.eraseIdx_cons_succ, List.filter_cons, ne_eq, hne, not_false_eq_true, decide_true, if_true]
      rw [ih hnd.2 hj]
theorem delete_run {P : Program} {MT kt et : TypeId} (K : Key P kt ek) (ht : P.underlying MT = some (.map kt et)) {w : World} {B : Nat} {m : List (κ × ν)} (hM : MapIs ek ev w B m) (x : κ) (t2 ty : TypeId) :
    ∃ w', (Builtin.delete_ #[MT, t2] ty #[.map (some B), ek x]).run P w = .ok (.tuple #[]) w' ∧ MapIs ek ev w' B (mdel m x) ∧ w.grownBy w' (some B) ∧ w'.heap.size = w.heap.size := by
  obtain ⟨es, clk, hB, hes, hbn, hbc, hnd⟩ := hM
  have hlt := lt_of_block hB
  have hf := findKey_run K x w (m.map (·.1)) es.toList (entries_key hes)
  have hgo : (getObj B).run P w = .ok (.map es clk) w := by simp [getObj, Sem.run, hB]
  have hset : ∀ o, (setObj B o).run P w = .ok () { w with heap := w.heap.setIfInBounds B o } := by intro o; simp [setObj, Sem.run, hB]
  have hgrow : ∀ o, w.grownBy { w with heap := w.heap.setIfInBounds B o } (some B) := fun o => ⟨rfl, rfl, rfl, by simp, fun k _ hne => by
    have : B ≠ k := fun e => hne (by rw [e])
    simp [Array.getElem?_setIfInBounds_ne this]⟩
  have hat : ∀ o : Obj, ({ w with heap := w.heap.setIfInBounds B o } : World).heap[B]? = some o := fun o => by simp [hlt]
  cases hj : keyIdx (m.map (·.1)) x 0 with
  | none =>
    rw [hj] at hf
    have hx := keyIdx_none hj
    have hmd : mdel m x = m := List.filter_eq_self.2 fun p hp => by
      simp only [decide_eq_true_eq]
      intro e
      exact hx (e ▸ List.mem_map_of_mem hp)
    refine ⟨{ w with heap := w.heap.setIfInBounds B (.map es clk) }, ?_, ⟨es, clk, hat _, by rw [hmd]; exact hes, hbn, hbc, by rw [hmd]; exact hnd⟩, hgrow _, by simp⟩
    simp [Builtin.delete_, run_underlying ht, hgo, K.chk, hf, hset, Result.andThen]
  | some j =>
    rw [hj] at hf
    obtain ⟨_, hjk⟩ := keyIdx_some hj
    simp only [Nat.sub_zero, List.getElem?_map, Option.map_eq_some_iff] at hjk
    obtain ⟨p, hp, hpx⟩ := hjk
    obtain ⟨e, he, _, _⟩ := ent_of hes hp
    have hjl : j < es.size := by have := (List.getElem?_eq_some_iff.1 he).1; simpa using this
    have hmd : mdel m x = m.eraseIdx j := by rw [eraseIdx_filter hnd hp, hpx]; rfl
    have hsub : (es.eraseIdxIfInBounds j).toList = es.toList.eraseIdx j := by
      unfold Array.eraseIdxIfInBounds
      rw [dif_pos hjl]
      simp
    have he' : es[j]? = some e := by simpa using he
    refine ⟨{ w with heap := w.heap.setIfInBounds B (.map (es.eraseIdxIfInBounds j) clk) }, ?_, ⟨_, clk, hat _, ?_, ?_, ?_, ?_⟩, hgrow _, by simp⟩
    · simp [Builtin.delete_, run_underlying ht, hgo, K.chk, hf, he', hset, Result.andThen]
    · rw [hsub, hmd, map_eraseIdx, map_eraseIdx, hes]
    · rw [hsub, map_eraseIdx]
      exact hbn.sublist (List.eraseIdx_sublist _ _)
    · intro x hx
      rw [hsub] at hx
      exact hbc x ((List.eraseIdx_sublist _ _).subset hx)
    · rw [hmd, map_eraseIdx]
      exact hnd.sublist (List.eraseIdx_sublist _ _)
variable {P : Program} {ops : Array Oper} {rest : List Oper} {o : Oper} {a : Act} {Q : Exit → Act → World → Prop}
theorem wp_delete (hg : o.guard = none) {mo xo : Operand} {MT kt et t2 : TypeId} (hop : o.op = Op.call { callee := Callee.builtin Builtin.delete, args := #[mo, xo], argTypes := #[MT, t2] }) (K : Key P kt ek) (ht : P.underlying MT = some (.map kt et)) {w : World} {B : Nat}
    (hm : a.eval mo = .map (some B)) {x : κ} (hx : a.eval xo = ek x) {m : List (κ × ν)} (hM : MapIs ek ev w B m)
    (hK : ∀ w', MapIs ek ev w' B (mdel m x) → w.grownBy w' (some B) → w'.heap.size = w.heap.size → wpList P ops Q rest (a.put o.dst (.tuple #[])) w') : wpList P ops Q (o :: rest) a w := by
  refine wpList_plain hg fun K' hK' => ?_
  obtain ⟨w', hrun, r1, r2, r3⟩ := delete_run (t2 := t2) (ty := o.type) K ht hM x
  unfold Oper.wp
  simp [execOp, hop, resolve, invoke, builtin, hm, hx, hrun, Result.andThen]
  exact hK' _ _ (hK w' r1 r2 r3)
end
end Go.Proofs.Ytdocgemfedohdaa
/-! Checkpoints, and ways, as keys of maps and in memory; an entry that is read, and then written. -/
namespace Go.Proofs.Ytdocgemfedohdaa
open Go.RowKit
def wayv (p : Way) : Value := .agg #[.int .i64 p.src.epoch, .int .u64 p.src.root.hi, .int .u64 p.src.root.lo, .int .i64 p.tgt.epoch, .int .u64 p.tgt.root.hi, .int .u64 p.tgt.root.lo]
theorem encChk_len (x : Chk) : (encChk x).length = 3 := rfl
theorem encChk_one (x : Chk) : ∀ u ∈ encChk x, u.oneCell' = true := by intro u hu; simp [encChk] at hu; rcases hu with rfl | rfl | rfl <;> rfl
theorem infoC : (Try.prog.info? 31).map (fun i => (i.zero, i.size, i.bytes)) = some (some (.agg #[.int .i64 0, .int .u64 0, .int .u64 0]), 3, 24) := by kernel_rfl
theorem blk3 {w : World} {b : Nat} {x0 x1 x2 : Value} {T : TypeId} (h : w.heap[b]? = some (.cells #[x0, x1, x2] T (0, 0))) : w.cell? ⟨b, 0, none⟩ = some x0 ∧ w.cell? ⟨b, 1, none⟩ = some x1 ∧ w.cell? ⟨b, 2, none⟩ = some x2 :=
  ⟨blk_cell h 0, blk_cell h 1, blk_cell h 2⟩
theorem blk6 {w : World} {b : Nat} {x0 x1 x2 x3 x4 x5 : Value} {T : TypeId} (h : w.heap[b]? = some (.cells #[x0, x1, x2, x3, x4, x5] T (0, 0))) :
    w.cell? ⟨b, 0, none⟩ = some x0 ∧ w.cell? ⟨b, 1, none⟩ = some x1 ∧ w.cell? ⟨b, 2, none⟩ = some x2 ∧ w.cell? ⟨b, 3, none⟩ = some x3 ∧ w.cell? ⟨b, 4, none⟩ = some x4 ∧ w.cell? ⟨b, 5, none⟩ = some x5 :=
  ⟨blk_cell h 0, blk_cell h 1, blk_cell h 2, blk_cell h 3, blk_cell h 4, blk_cell h 5⟩
theorem Rd.atChk {w : World} {A : Option Addr} {xs : List Chk} (h : Rd 3 encChk w A xs) {i : Nat} (hi : i < xs.length) :
    ∃ b o, A = some ⟨b, o, none⟩ ∧ b < w.heap.size ∧ w.cell? ⟨b, o + i * 3, none⟩ = some (.int .i64 xs[i].epoch) ∧ w.cell? ⟨b, o + i * 3 + 1, none⟩ = some (.int .u64 xs[i].root.hi) ∧ w.cell? ⟨b, o + i * 3 + 2, none⟩ = some (.int .u64 xs[i].root.lo) := by
  obtain ⟨b, o, hA, hlt, hc⟩ := h.at hi
  exact ⟨b, o, hA, hlt, hc 0 _ rfl, hc 1 _ rfl, hc 2 _ rfl⟩
theorem eql_chk (x y : Chk) (w : World) : (binOp .eql 31 (.agg #[.int .i64 x.epoch, .int .u64 x.root.hi, .int .u64 x.root.lo]) (.agg #[.int .i64 y.epoch, .int .u64 y.root.hi, .int .u64 y.root.lo])).run Try.prog w = .ok (.bool (decide (x = y))) w := by
  have h := eqlIn_chk 9997 x y w
  unfold chkv at h
  rw [run_eql_struct, h]
  rfl
theorem neq_chk (x y : Chk) (w : World) : (binOp .neq 31 (.agg #[.int .i64 x.epoch, .int .u64 x.root.hi, .int .u64 x.root.lo]) (.agg #[.int .i64 y.epoch, .int .u64 y.root.hi, .int .u64 y.root.lo])).run Try.prog w = .ok (.bool (!decide (x = y))) w := by
  have h := eqlIn_chk 9997 x y w
  unfold chkv at h
  rw [run_neq_struct, h]
  rfl
theorem check_id (b : Bool) (n : Nat) (x y : Int) (w : World) : (Instr.checkKey b (n + 2) 29 (.agg #[.int .u64 x, .int .u64 y])).run Try.prog w = .ok () w := by
  have u := Try.underlying29
  have z := Try.sizeOf23
  have u3 := Try.underlying23
  have p := fun cs off v h w => part_int (P := Try.prog) u3 cs off v h w
  have c := fun b n x w => check_int (P := Try.prog) u3 b n x w
  unfold Instr.checkKey
  simp only [Sem.run_bind, run_underlying u, Result.andThen_ok]
  simp [List.range', List.forIn_cons, p, c, z]
theorem check_chk (b : Bool) (n : Nat) (e x y : Int) (w : World) : (Instr.checkKey b (n + 3) 31 (.agg #[.int .i64 e, .int .u64 x, .int .u64 y])).run Try.prog w = .ok () w := by
  have u := Try.underlying31
  have u3 := Try.underlying3
  have u25 := Try.underlying29
  have p := fun cs off v h w => part_int (P := Try.prog) u3 cs off v h w
  have c := fun b n x w => check_int (P := Try.prog) u3 b n x w
  have c2 := fun b x y w => check_id b n x y w
  have p25 := fun (a b c : Int) w => show (part 29 #[.int .i64 a, .int .u64 b, .int .u64 c] 1).run Try.prog w = .ok (.agg #[.int .u64 b, .int .u64 c]) w by
    simp [part, isAgg, run_underlying u25, Try.sizeOf29]
  unfold Instr.checkKey
  simp only [Sem.run_bind, run_underlying u, Result.andThen_ok]
  simp [List.forIn_cons, p, c, p25, c2]
theorem KeyC : Key Try.prog 31 chkv where
  chk := fun b x w => by
    show (Instr.checkKey b (9997 + 3) _ _).run _ _ = _
    exact check_chk b 9997 _ _ _ w
  eq := fun x y w => eqlIn_chk 9997 x y w
  now := ⟨_, Try.underlying31, fun x y => .inl rfl⟩
  bits := fun x => by simp [Instr.sameBits, chkv]
theorem eqlIn_way (n : Nat) (x y : Way) (w : World) : (Op.equalIn (n + 4) 63 (wayv x) (wayv y)).run Try.prog w = .ok (decide (x = y)) w := by
  have u := Try.underlying63
  have hid := fun (a b c a' b' c' : Int) w => show (Op.equalIn (n + 3) 31 (.agg #[.int .i64 a, .int .u64 b, .int .u64 c]) (.agg #[.int .i64 a', .int .u64 b', .int .u64 c'])).run Try.prog w = .ok (decide ((⟨a, b, c⟩ : Chk) = ⟨a', b', c'⟩)) w from eqlIn_chk n ⟨a, b, c⟩ ⟨a', b', c'⟩ w
  have u25 := Try.underlying31
  have p1 := fun (b c e f g h : Int) w => show (part 31 #[.int .i64 b, .int .u64 c, .int .u64 e, .int .i64 f, .int .u64 g, .int .u64 h] 0).run Try.prog w = .ok (.agg #[.int .i64 b, .int .u64 c, .int .u64 e]) w by
    simp [part, isAgg, run_underlying u25, Try.sizeOf31]
  have p2 := fun (b c e f g h : Int) w => show (part 31 #[.int .i64 b, .int .u64 c, .int .u64 e, .int .i64 f, .int .u64 g, .int .u64 h] 3).run Try.prog w = .ok (.agg #[.int .i64 f, .int .u64 g, .int .u64 h]) w by
    simp [part, isAgg, run_underlying u25, Try.sizeOf31]
  unfold wayv
  rw [run_equalIn_struct _ _ _ _ _ (by kernel_rfl) (by kernel_rfl)]
  simp only [Program.fieldsOf, u]
  obtain ⟨⟨x2, x3, x4⟩, ⟨x5, x6, x7⟩⟩ := x
  obtain ⟨⟨y2, y3, y4⟩, ⟨y5, y6, y7⟩⟩ := y
  by_cases e1 : (⟨x2, x3, x4⟩ : Chk) = ⟨y2, y3, y4⟩ <;> by_cases e2 : (⟨x5, x6, x7⟩ : Chk) = ⟨y5, y6, y7⟩ <;> simp [Op.eqFields, p1, p2, hid, e1, e2]
theorem KeyW : Key Try.prog 63 wayv where
  chk := fun b x w => by
    have u := Try.underlying63
    have u25 := Try.underlying31
    have c := fun (b : Bool) (e x y : Int) w => check_chk b 9996 e x y w
    have p1 := fun (b c e f g h : Int) w => show (part 31 #[.int .i64 b, .int .u64 c, .int .u64 e, .int .i64 f, .int .u64 g, .int .u64 h] 0).run Try.prog w = .ok (.agg #[.int .i64 b, .int .u64 c, .int .u64 e]) w by
      simp [part, isAgg, run_underlying u25, Try.sizeOf31]
    have p2 := fun (b c e f g h : Int) w => show (part 31 #[.int .i64 b, .int .u64 c, .int .u64 e, .int .i64 f, .int .u64 g, .int .u64 h] 3).run Try.prog w = .ok (.agg #[.int .i64 f, .int .u64 g, .int .u64 h]) w by
      simp [part, isAgg, run_underlying u25, Try.sizeOf31]
    unfold wayv Instr.checkKey
    simp only [Sem.run_bind, run_underlying u, Result.andThen_ok]
    simp [List.forIn_cons, p1, p2, c]
  eq := fun x y w => eqlIn_way 9996 x y w
  now := ⟨_, Try.underlying63, fun x y => .inl rfl⟩
  bits := fun x => by simp [Instr.sameBits, wayv]
/-! ## An entry, and its stamp -/
section
variable {κ ν : Type} [DecidableEq κ] {ek : κ → Value} {ev : ν → Value}
/-- A map, and the stamp of the entry at x. -/
def StampIs (ek : κ → Value) (ev : ν → Value) (w : World) (B : Nat) (m : List (κ × ν)) (x : κ) (st : Nat) : Prop :=
  ∃ (es : Array MapEntry) (clk j : Nat) (e : MapEntry), w.heap[B]? = some (.map es clk) ∧ es.toList.map (fun e => (e.key, e.val)) = m.map (fun p => (ek p.1, ev p.2)) ∧
    (es.toList.map (·.born)).Pairwise (· < ·) ∧ (∀ e ∈ es.toList, e.born < clk) ∧ (m.map (·.1)).Nodup ∧ es.toList[j]? = some e ∧ e.born = st ∧ (m.map (·.1))[j]? = some x
omit [DecidableEq κ] in
theorem StampIs.map {w : World} {B st : Nat} {m : List (κ × ν)} {x : κ} (h : StampIs ek ev w B m x st) : MapIs ek ev w B m := by
  obtain ⟨es, clk, j, e, h1, h2, h3, h4, h5, _⟩ := h
  exact ⟨es, clk, h1, h2, h3, h4, h5⟩
omit [DecidableEq κ] in
theorem StampIs.same {w w' : World} {B st : Nat} {m : List (κ × ν)} {x : κ} (h : StampIs ek ev w B m x st) (hb : w'.heap[B]? = w.heap[B]?) : StampIs ek ev w' B m x st := by
  obtain ⟨es, clk, j, e, h1, h2⟩ := h
  exact ⟨es, clk, j, e, hb.trans h1, h2⟩
omit [DecidableEq κ] in
theorem StampIs.below {w w' : World} {B st : Nat} {m : List (κ × ν)} {x : κ} (h : StampIs ek ev w B m x st) (hb : Below w.heap.size w w') : StampIs ek ev w' B m x st := h.same (hb.block B (MapIs_lt h.map))
omit [DecidableEq κ] in
theorem StampIs.grown {w w' : World} {B st : Nat} {m : List (κ × ν)} {x : κ} {row : Option Nat} (h : StampIs ek ev w B m x st) (hg : w.grownBy w' row) (hne : some B ≠ row) : StampIs ek ev w' B m x st := h.same (hg.block B (MapIs_lt h.map) hne)
theorem findIdx_born {l : List MapEntry} (hn : (l.map (·.born)).Nodup) {j : Nat} {e0 : MapEntry} (h : l[j]? = some e0) : l.findIdx? (fun e => ((e.born : Nat) : Int) == ((e0.born : Nat) : Int)) = some j := by
  induction l generalizing j with
  | nil => simp at h
  | cons a r ih =>
    simp only [List.map_cons, List.nodup_cons] at hn
    cases j with
    | zero =>
      simp only [List.getElem?_cons_zero, Option.some.injEq] at h
      subst h
      simp [List.findIdx?_cons]
    | succ j =>
      simp only [List.getElem?_cons_succ] at h
      have hne : a.born ≠ e0.born := fun e1 => hn.1 (List.mem_map.2 ⟨e0, List.mem_of_getElem? h, e1.symm⟩)
      have hb : (((a.born : Nat) : Int) == ((e0.born : Nat) : Int)) = false := by
        simp only [beq_eq_false_iff_ne, ne_eq, Int.natCast_inj]
        exact hne
      rw [List.findIdx?_cons, hb]
      simp [ih hn.2 h]
omit [DecidableEq κ] in
/-- Where the value at j is written, the key's entry is. -/
theorem put_at {es : Array MapEntry} {m : List (κ × ν)} [DecidableEq κ] (hes : es.toList.map (fun e => (e.key, e.val)) = m.map (fun p => (ek p.1, ev p.2))) (hnd : (m.map (·.1)).Nodup) {j : Nat} {x : κ} (hj : (m.map (·.1))[j]? = some x) (v : ν) :
    (es.modify j fun e => { e with val := ev v }).toList.map (fun e => (e.key, e.val)) = (mput m x v).map (fun p => (ek p.1, ev p.2)) := by
  have hsome : (mget m x).isSome = true := by
    cases hg : mget m x with
    | none => exact absurd (List.mem_of_getElem? hj) (mget_none.1 hg)
    | some _ => rfl
  have hmp : mput m x v = m.map fun p => if p.1 = x then (p.1, v) else p := by unfold mput; rw [if_pos hsome]
  rw [hmp]
  apply List.ext_getElem?
  intro i
  have hi := congrArg (fun l : List (Value × Value) => l[i]?) hes
  simp only [List.getElem?_map] at hi
  simp only [Array.toList_modify, List.getElem?_map, List.getElem?_modify]
  cases hmi : m[i]? with
  | none =>
    rw [hmi] at hi
    cases hei : es.toList[i]? with
    | none => simp
    | some e => rw [hei] at hi; simp at hi
  | some q =>
    rw [hmi] at hi
    cases hei : es.toList[i]? with
    | none => rw [hei] at hi; simp at hi
    | some e =>
      rw [hei] at hi
      simp only [Option.map_some, Option.some.injEq, Prod.mk.injEq] at hi
      by_cases hij : j = i
      · subst hij
        have hq : q.1 = x := by simpa [hmi] using hj
        simp [hq, hi.1]
      · have hq : ¬ q.1 = x := by
          intro hq
          have h1 : (m.map (·.1))[i]? = some x := by simp [hmi, hq]
          have hjl := (List.getElem?_eq_some_iff.1 hj).1
          exact hij ((List.getElem?_inj hjl hnd).1 (hj.trans h1.symm))
        simp [hij, hq, hi.1, hi.2]
theorem modify_born (es : Array MapEntry) (j : Nat) (f : MapEntry → MapEntry) (hf : ∀ e, (f e).born = e.born) : (es.modify j f).toList.map (·.born) = es.toList.map (·.born) := by
  rw [Array.toList_modify]
  apply List.ext_getElem?
  intro i
  simp only [List.getElem?_map, List.getElem?_modify]
  by_cases hij : j = i
  · subst hij
    cases es.toList[j]? <;> simp [hf]
  · simp [hij]
theorem born_lt_of {es es' : List MapEntry} {clk : Nat} (h : es'.map (·.born) = es.map (·.born)) (hlt : ∀ e ∈ es, e.born < clk) : ∀ e ∈ es', e.born < clk := by
  intro e he
  have : e.born ∈ es.map (·.born) := by rw [← h]; exact List.mem_map_of_mem he
  obtain ⟨e', h1, h2⟩ := List.mem_map.1 this
  rw [← h2]
  exact hlt e' h1
theorem entry_run {P : Program} {MT kt et : TypeId} (K : Key P kt ek) (ht : P.underlying MT = some (.map kt et)) {z0 : ν} {w : World} (hz : (zeroValue et).run P w = .ok (ev z0) w) {B : Nat} {m : List (κ × ν)} (hM : MapIs ek ev w B m) (x : κ) :
    ∃ (w' : World) (st : Nat), (Instr.mapEntry MT (.map (some B)) (ek x)).run P w = .ok (.tuple #[ev ((mget m x).getD z0), goInt st]) w' ∧ StampIs ek ev w' B (mput m x ((mget m x).getD z0)) x st ∧ w.grownBy w' (some B) ∧ w'.heap.size = w.heap.size := by
  obtain ⟨es, clk, hB, hes, hbn, hbc, hnd⟩ := hM
  have hlt := lt_of_block hB
  have hf := findKey_run K x w (m.map (·.1)) es.toList (entries_key hes)
  have hg := keyIdx_get m x 0
  simp only [Nat.sub_zero] at hg
  have hgo : (getObj B).run P w = .ok (.map es clk) w := by simp [getObj, Sem.run, hB]
  have hset : ∀ o, (setObj B o).run P w = .ok () { w with heap := w.heap.setIfInBounds B o } := by intro o; simp [setObj, Sem.run, hB]
  have hgrow : ∀ o, w.grownBy { w with heap := w.heap.setIfInBounds B o } (some B) := fun o => ⟨rfl, rfl, rfl, by simp, fun k _ hne => by
    have : B ≠ k := fun e => hne (by rw [e])
    simp [Array.getElem?_setIfInBounds_ne this]⟩
  have hat : ∀ o : Obj, ({ w with heap := w.heap.setIfInBounds B o } : World).heap[B]? = some o := fun o => by simp [hlt]
  cases hj : keyIdx (m.map (·.1)) x 0 with
  | none =>
    rw [hj] at hf hg
    have hx := keyIdx_none hj
    simp only [Option.bind_none] at hg hf
    rw [hg]
    refine ⟨{ w with heap := w.heap.setIfInBounds B (.map (es.push { key := ek x, val := ev z0, born := clk }) (clk + 1)) }, clk, ?_, ?_, hgrow _, by simp⟩
    · simp only [Instr.mapEntry, Sem.run_bind, run_underlying ht, Result.andThen_ok, hgo, K.chk, hf, hz, hset]
      rfl
    · have hlen : es.toList.length = m.length := by simpa using congrArg List.length hes
      have hmp : mput m x z0 = m ++ [(x, z0)] := by unfold mput; rw [mget_none.2 hx]; rfl
      refine ⟨_, _, es.toList.length, { key := ek x, val := ev z0, born := clk }, hat _, ?_, ?_, ?_, mput_nodup hnd x z0, by simp, rfl, ?_⟩
      · rw [show (none : Option ν).getD z0 = z0 from rfl, hmp]
        simp [hes]
      · simp only [Array.toList_push, List.map_append, List.map_cons, List.map_nil]
        rw [List.pairwise_append]
        refine ⟨hbn, by simp, ?_⟩
        intro a ha b hb
        simp only [List.mem_singleton] at hb
        obtain ⟨e, he, rfl⟩ := List.mem_map.1 ha
        subst hb
        exact hbc e he
      · intro e he
        simp only [Array.toList_push, List.mem_append, List.mem_singleton] at he
        rcases he with he | he
        · exact Nat.lt_succ_of_lt (hbc e he)
        · subst he; exact Nat.lt_succ_self _
      · rw [show (none : Option ν).getD z0 = z0 from rfl, hmp, hlen]
        simp
  | some j =>
    obtain ⟨_, hjx⟩ := keyIdx_ge hj
    simp only [Nat.sub_zero] at hjx
    rw [hj] at hf hg
    simp only [Option.bind_some] at hf hg
    have hmj : ∃ p, m[j]? = some p ∧ p.1 = x := by
      rw [List.getElem?_map] at hjx
      cases hp : m[j]? with
      | none => rw [hp] at hjx; simp at hjx
      | some p => rw [hp] at hjx; exact ⟨p, rfl, by simpa using hjx⟩
    obtain ⟨p, hp, hpx⟩ := hmj
    obtain ⟨e, he, hek, hev⟩ := ent_of hes hp
    have he' : es[j]? = some e := by simpa using he
    rw [hp] at hg
    simp only [Option.map_some] at hg
    rw [hg]
    have hself : mput m x p.2 = m := by
      have hsome : (mget m x).isSome = true := by rw [hg]; rfl
      unfold mput
      rw [if_pos hsome]
      conv => rhs; rw [← List.map_id m]
      refine List.map_congr_left fun q hq => ?_
      split
      · rename_i hqx
        obtain ⟨i, hi, rfl⟩ := List.getElem_of_mem hq
        have h1 : (m.map (·.1))[i]? = some x := by simp [hi, hqx]
        have hjl := (List.getElem?_eq_some_iff.1 hjx).1
        have hji := (List.getElem?_inj hjl hnd).1 (hjx.trans h1.symm)
        subst hji
        have : m[j] = p := by simpa [hi] using hp
        rw [this]
        rfl
      · rfl
    refine ⟨{ w with heap := w.heap.setIfInBounds B (.map (es.modify j fun e => { e with key := ek x }) clk) }, e.born, ?_, ?_, hgrow _, by simp⟩
    · simp only [Instr.mapEntry, Sem.run_bind, run_underlying ht, Result.andThen_ok, hgo, K.chk, hf, he, he', Option.map_some, Option.getD_some, hek, hpx, Instr.keyThatStays, K.bits, if_true, Sem.run_pure, hset, hev]
    · have hb := modify_born es j (fun e => { e with key := ek x }) (fun _ => rfl)
      refine ⟨_, _, j, { e with key := ek x }, hat _, ?_, by rw [hb]; exact hbn, born_lt_of hb hbc, mput_nodup hnd _ _, ?_, rfl, ?_⟩
      · rw [show (some p.2).getD z0 = p.2 from rfl, hself, ← hes]
        rw [Array.toList_modify]
        apply List.ext_getElem?
        intro i
        simp only [List.getElem?_map, List.getElem?_modify]
        by_cases hij : j = i
        · subst hij
          simp [he, hek, hpx]
        · simp [hij]
      · rw [Array.toList_modify, List.getElem?_modify, he]
        simp
      · rw [show (some p.2).getD z0 = p.2 from rfl, hself]
        exact hjx
theorem entryStore_run {P : Program} {MT : TypeId} {w : World} {B st : Nat} {m : List (κ × ν)} {x : κ} (h : StampIs ek ev w B m x st) (v : ν) :
    ∃ w', (Instr.entryStore MT (.map (some B)) (goInt st) (ev v)).run P w = .ok () w' ∧ MapIs ek ev w' B (mput m x v) ∧ w.grownBy w' (some B) ∧ w'.heap.size = w.heap.size := by
  obtain ⟨es, clk, j, e, hB, hes, hbn, hbc, hnd, he, rfl, hj⟩ := h
  have hlt := lt_of_block hB
  have hgo : (getObj B).run P w = .ok (.map es clk) w := by simp [getObj, Sem.run, hB]
  have hset : ∀ o, (setObj B o).run P w = .ok () { w with heap := w.heap.setIfInBounds B o } := by intro o; simp [setObj, Sem.run, hB]
  have hfi : es.findIdx? (fun e' => (e'.born : Int) == (e.born : Int)) = some j := by
    have := findIdx_born (nodup_born hbn) he
    rw [show es = es.toList.toArray by simp, List.findIdx?_toArray]
    exact this
  have hb := modify_born es j (fun e => { e with val := ev v }) (fun _ => rfl)
  refine ⟨{ w with heap := w.heap.setIfInBounds B (.map (es.modify j fun e => { e with val := ev v }) clk) }, ?_, ⟨_, clk, by simp [hlt], put_at hes hnd hj v, by rw [hb]; exact hbn, born_lt_of hb hbc, mput_nodup hnd _ _⟩, ⟨rfl, rfl, rfl, by simp, fun k _ hne => by
    have : B ≠ k := fun e => hne (by rw [e])
    simp [Array.getElem?_setIfInBounds_ne this]⟩, by simp⟩
  simp [Instr.entryStore, hgo, goInt, asInt, asIntOf, hfi, hset, Result.andThen]
variable {P : Program} {ops : Array Oper} {rest : List Oper} {o : Oper} {a : Act} {Q : Exit → Act → World → Prop}
/-- Guards: the operation ahead is of that form. -/
theorem at_mapEntry {w : World} {d : Option Nat} {mt ty : TypeId} {mo ko : Operand} {pos : String} {after : Array Edge} (h : wpList P ops Q ({ dst := d, op := Op.mapEntry mt mo ko, type := ty, pos := pos, after := after, guard := none } :: rest) a w) : wpList P ops Q ({ dst := d, op := Op.mapEntry mt mo ko, type := ty, pos := pos, after := after, guard := none } :: rest) a w := h
theorem at_entryStore {w : World} {d : Option Nat} {mt ty : TypeId} {mo so vo : Operand} {pos : String} {after : Array Edge} (h : wpList P ops Q ({ dst := d, op := Op.entryStore mt mo so vo, type := ty, pos := pos, after := after, guard := none } :: rest) a w) : wpList P ops Q ({ dst := d, op := Op.entryStore mt mo so vo, type := ty, pos := pos, after := after, guard := none } :: rest) a w := h
theorem wp_entry (hg : o.guard = none) {mo ko : Operand} {MT kt et : TypeId} (hop : o.op = Op.mapEntry MT mo ko) (K : Key P kt ek) (ht : P.underlying MT = some (.map kt et)) {z0 : ν} {w : World} (hz : (zeroValue et).run P w = .ok (ev z0) w) {B : Nat}
    (hm : a.eval mo = .map (some B)) {x : κ} (hx : a.eval ko = ek x) {m : List (κ × ν)} (hM : MapIs ek ev w B m)
    (hK : ∀ (w' : World) (st : Nat), StampIs ek ev w' B (mput m x ((mget m x).getD z0)) x st → w.grownBy w' (some B) → w'.heap.size = w.heap.size → wpList P ops Q rest (a.put o.dst (.tuple #[ev ((mget m x).getD z0), goInt st])) w') : wpList P ops Q (o :: rest) a w := by
  refine wpList_plain hg fun K' hK' => ?_
  obtain ⟨w', st, hrun, r1, r2, r3⟩ := entry_run K ht hz hM x
  unfold Oper.wp
  simp [execOp, hop, hm, hx, hrun, Result.andThen]
  exact hK' _ _ (hK w' st r1 r2 r3)
theorem wp_entryStore (hg : o.guard = none) {mo so vo : Operand} {MT : TypeId} (hop : o.op = Op.entryStore MT mo so vo) {w : World} {B st : Nat}
    (hm : a.eval mo = .map (some B)) {m : List (κ × ν)} {x : κ} (hs : a.eval so = goInt st) {v : ν} (hv : a.eval vo = ev v) (hM : StampIs ek ev w B m x st)
    (hK : ∀ w', MapIs ek ev w' B (mput m x v) → w.grownBy w' (some B) → w'.heap.size = w.heap.size → wpList P ops Q rest (a.put o.dst undef) w') : wpList P ops Q (o :: rest) a w := by
  refine wpList_plain hg fun K' hK' => ?_
  obtain ⟨w', hrun, r1, r2, r3⟩ := entryStore_run (P := P) (MT := MT) hM v
  unfold Oper.wp
  simp [execOp, hop, hm, hs, hv, hrun, Result.andThen]
  exact hK' _ _ (hK w' r1 r2 r3)
end
end Go.Proofs.Ytdocgemfedohdaa
/-! The walks of marigoldref06.Kids, Chain and Under. -/
namespace Go.Proofs.Ytdocgemfedohdaa
open Go.RowKit
theorem own_new1 {α : Type} {k : Nat} {enc : α → List Value} {w : World} {base g : Nat} {T : TypeId} {x : α} {cs : Array Value} (h : w.heap[g]? = some (.cells cs T (0, 0))) (hk : ∀ x, (enc x).length = k) (hcs : cs = (enc x).toArray) (hb : base ≤ g) : Own w base T k enc (.slice (some ⟨g, 0, none⟩) 1 1) [x] := by
  subst hcs
  exact ⟨by simp [hk], .inr ⟨g, 1, _, rfl, hb, h, Nat.le_refl _, by unfold maxLen; omega, by simp [hk], by simp [← hk x]⟩⟩
end Go.Proofs.Ytdocgemfedohdaa
