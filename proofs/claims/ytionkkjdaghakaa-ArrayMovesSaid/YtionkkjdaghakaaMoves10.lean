/- ArrayMoves, walked. -/
import Derived.Test.YtionkkjdaghakaaArrZ
import Derived.Laws.MakeOwn
import Derived.StillTailTactics
namespace Go.Proofs.Ytionkkjdaghakaa
open Go.RowKit
theorem still_pass {P : Program} {ops : Array Oper} {w : World} {Q : Act → Prop} {a : Act} {o : Oper} {rest : List Oper} (hg : Region.wanted o (yielded ops a.tmps) = false) (h : wpStill P ops w Q rest (a.put o.dst undef)) : wpStill P ops w Q (o :: rest) a := by
  unfold wpStill
  rw [hg]
  exact h
def encB (b : Bool) : List Value := [.bool b]
theorem encB_len (b : Bool) : (encB b).length = 1 := rfl
theorem made_own (w : World) (n base : Nat) (hb : base ≤ w.heap.size) (hn : n ≤ 1000) : Own (w.alloc (.cells (madeCells #[.bool false] n) 4)) base 4 1 encB (.slice (some ⟨w.heap.size, 0, none⟩) n n) (List.replicate n false) := by
  have hl : (List.replicate n false).length = n := by simp
  have hm : (madeCells #[Value.bool false] n).toList = List.replicate n (Value.bool false) := by
    unfold madeCells
    apply List.ext_getElem?
    intro i
    by_cases h : i < n
    · simp [h, Nat.mod_one]
    · simp [h]
  refine ⟨by rw [flatMap_len encB_len], .inr ⟨w.heap.size, n, madeCells #[.bool false] n, by rw [hl], hb, ha_at rfl, by rw [hl]; exact Nat.le_refl _, by unfold maxLen; omega, by rw [size_madeCells]; omega, ?_⟩⟩
  rw [hl, hm, Nat.mul_one]
  rw [List.take_of_length_le (by simp)]
  induction n with
  | zero => rfl
  | succ n _ => simp [encB, List.replicate_succ, List.flatMap_replicate]
theorem Own.atB {w : World} {base : Nat} {e : TypeId} {g n cap : Nat} {ol : List Bool} (h : Own w base e 1 encB (.slice (some ⟨g, 0, none⟩) n cap) ol) {i : Nat} (hi : i < ol.length) : w.cell? ⟨g, i, none⟩ = some (.bool ol[i]) := by
  obtain ⟨b, o, hA, _, hc⟩ := (h.rdg encB_len).at hi
  cases hA
  have := hc 0 _ rfl
  simpa using this
theorem Own.setB {w : World} {base : Nat} {e : TypeId} {g n cap : Nat} {ol : List Bool} (h : Own w base e 1 encB (.slice (some ⟨g, 0, none⟩) n cap) ol) {i : Nat} (hi : i < ol.length) (b : Bool) : Own (w.setCell ⟨g, i, none⟩ (.bool b)) base e 1 encB (.slice (some ⟨g, 0, none⟩) n cap) (ol.set i b) := by
  have := h.set encB_len hi (j := 0) (by omega) (.bool b) b rfl
  simpa using this
theorem up_kid {a : List Item} (hp : ParOk a) : ∀ m q, q ≤ m → q < a.length → ∀ i : Nat, Up a q i ↔ i = q ∨ ∃ j, j < a.length ∧ Up a q j ∧ (itm a j).par = i := by
  intro m
  induction m with
  | zero =>
    intro q hq hl i
    rw [Up_iff]
    have := hp q hl
    have e : (itm a q).par = -1 := by omega
    rw [e]
    constructor
    · rintro (h | h)
      · exact .inl h
      · exact absurd h Up_none
    · rintro (h | ⟨j, h1, h2, h3⟩)
      · exact .inl h
      · have := Up_le hp q q j (Nat.le_refl _) hl h2
        have : j = q := by omega
        subst this
        omega
  | succ m ih =>
    intro q hq hl i
    constructor
    · intro h
      rcases Up_iff.1 h with h | h
      · exact .inl h
      · right
        by_cases e : (itm a q).par = -1
        · rw [e] at h; exact absurd h Up_none
        · have hpq := hp q hl
          obtain ⟨p, hpe⟩ : ∃ p : Nat, (itm a q).par = p := ⟨(itm a q).par.toNat, by omega⟩
          rw [hpe] at h
          rcases (ih p (by omega) (by omega) i).1 h with h2 | ⟨j, h1, h2, h3⟩
          · exact ⟨q, hl, Up_self a q, by rw [hpe, h2]⟩
          · exact ⟨j, h1, Up_iff.2 (.inr (by rw [hpe]; exact h2)), h3⟩
    · rintro (h | ⟨j, h1, h2, h3⟩)
      · subst h; exact Up_self a i
      · exact Up_trans h2 (Up_iff.2 (.inr (by rw [h3]; exact Up_self a i)))
def OnOk (a : List Item) (q m : Nat) (ol : List Bool) : Prop := ol.length = a.length ∧ ∀ k (h : k < ol.length), k < m → (ol[k] = true ↔ ∃ j, m ≤ j ∧ j < a.length ∧ Up a q j ∧ (itm a j).par = k)
theorem on_start (a : List Item) (q : Nat) : OnOk a q a.length (List.replicate a.length false) := ⟨by simp, fun k h hk => by
  simp only [List.getElem_replicate, Bool.false_eq_true, false_iff]
  rintro ⟨j, h1, h2, _⟩
  omega⟩
theorem on_here {a : List Item} (hp : ParOk a) {q i : Nat} (hq : q < a.length) {ol : List Bool} (h : OnOk a q (i + 1) ol) (hi : i < ol.length) : Up a q i ↔ ol[i] = true ∨ i = q := by
  rw [up_kid hp q q (Nat.le_refl _) hq i, h.2 i hi (by omega)]
  have hal := h.1
  constructor
  · rintro (h1 | ⟨j, h1, h2, h3⟩)
    · exact .inr h1
    · exact .inl ⟨j, by have := (hp j h1).2; omega, h1, h2, h3⟩
  · rintro (⟨j, _, h1, h2, h3⟩ | h1)
    · exact .inr ⟨j, h1, h2, h3⟩
    · exact .inl h1
theorem on_skip {a : List Item} {q i : Nat} {ol : List Bool} (h : OnOk a q (i + 1) ol) (b : Bool) (hn : ∀ k : Nat, k < i → ¬ (Up a q i ∧ (itm a i).par = k)) (hi : i < a.length) : OnOk a q i (ol.set i b) := ⟨by rw [List.length_set]; exact h.1, fun k hk hki => by
  rw [List.length_set] at hk
  rw [List.getElem_set_ne (by omega), h.2 k hk (by omega)]
  constructor
  · rintro ⟨j, h1, h2⟩
    exact ⟨j, by omega, h2⟩
  · rintro ⟨j, h1, h2, h3, h4⟩
    by_cases e : j = i
    · subst e; exact absurd ⟨h3, h4⟩ (hn k hki)
    · exact ⟨j, by omega, h2, h3, h4⟩⟩
theorem on_put {a : List Item} {q i p : Nat} {ol : List Bool} (h : OnOk a q (i + 1) ol) (b : Bool) (hi : i < a.length) (hu : Up a q i) (hp : (itm a i).par = p) (hpi : p < i) : OnOk a q i ((ol.set i b).set p true) := ⟨by rw [List.length_set, List.length_set]; exact h.1, fun k hk hki => by
  rw [List.length_set, List.length_set] at hk
  by_cases e : p = k
  · subst e
    rw [List.getElem_set_self]
    simp only [true_iff]
    exact ⟨i, Nat.le_refl _, hi, hu, hp⟩
  · rw [List.getElem_set_ne e, List.getElem_set_ne (by omega), h.2 k hk (by omega)]
    constructor
    · rintro ⟨j, h1, h2⟩
      exact ⟨j, by omega, h2⟩
    · rintro ⟨j, h1, h2, h3, h4⟩
      by_cases e2 : j = i
      · subst e2; omega
      · exact ⟨j, by omega, h2, h3, h4⟩⟩
set_option maxRecDepth 100000 in
set_option maxHeartbeats 8000000 in
theorem moves10_any (a : List Item) (id : ID) (y : Int) (A : Option Addr) (c : Nat) (w : World) (hr : Rd 7 encItem w A a) (hN : A = none → c = 0) :
    Calls Try.prog 8 #[.slice A a.length c, idv id, .int .i64 y] w fun e w' => e = .returned (.bool true) ∧ Below w.heap.size w w' := by
  have hm := hr.1
  have haw := fun V => awake10_any V
  have hWs : ∃ W, w.alloc (.cells #[.int .u64 id.hi, .int .u64 id.lo] 25) = W := ⟨_, rfl⟩
  obtain ⟨W, hW⟩ := hWs
  have hB : Below w.heap.size w W := by subst hW; exact (Below.refl _ w).alloc (Nat.le_refl _) _
  have b0 : W.heap[w.heap.size]? = some (.cells #[.int .u64 id.hi, .int .u64 id.lo] 25 (0, 0)) := by subst hW; exact ha_at rfl
  by_cases h70 : a.length ≤ 70
  · have hmv := fun V (hV : Below w.heap.size w V) => move_any a id y (by omega) A c V (hr.below hV) hN
    obtain ⟨F, hF⟩ : ∃ F, mvE a id y = F := ⟨_, rfl⟩
    rw [hF] at hmv
    by_cases hF0 : F = 0
    · subst hF0
      obtain ⟨hM, q, hq, hfe, hqid, hy1, hy2, _, _⟩ := mvE_may hF
      have hp := hM.2.1.parOk
      have hwb := hM.w
      have hqs : ∀ i, i < a.length → ((itm a i).id = id ↔ i = q) := fun i hi => by
        constructor
        · intro e
          have := plain_find hM.2.1 hi
          rw [e, hfe] at this
          omega
        · intro e; subst e; exact hqid
      have hqs' := Lib.hid hqs
      have hFe := Lib.hid hF
      have hp' := Lib.hid hp
      have hwb' := Lib.hid hwb
      clear hqs hF hp hwb hM hqid
      have hmk : ∀ V, (Instr.makeSlice 45 (.int .i64 a.length) (.int .i64 a.length)).run Try.prog V = .ok (.slice (some ⟨V.heap.size, 0, none⟩) a.length a.length) (V.alloc (.cells (madeCells #[.bool false] a.length) 4)) := fun V => by
        obtain ⟨i0, hi0, hz0, hz1, hz2⟩ := info_parts (show (Try.prog.info? 4).map (fun i => (i.zero, i.size, i.bytes)) = some (some (.bool false), 1, 1) by kernel_rfl)
        have := run_make (P := Try.prog) V 45 4 i0 (.bool false) Try.underlying45 hi0 hz0 .i64 .i64 a.length a.length (by omega) (Int.le_refl _) (by rw [hz2]; omega) (by omega)
        rw [hz1, show (Value.bool false).cells = #[Value.bool false] from rfl] at this
        simpa using this
      unfold idv at *
      go_enter Try.func8, Try.ntmps8
      go_wp2_with (first
        | (go_at_call 9; refine (haw _).mono ?_; clear haw; rintro e w1 ⟨rfl, hb1⟩; have hB1 := below_call hB hB.size hb1; have c0 := bl_own hb1 b0; obtain ⟨p0, p1, _, _⟩ := blk2 c0)
        | (go_at_call 13; refine (hmv _ hB1).mono ?_; clear hmv; rintro e w2 ⟨⟨l2, v2, rfl, ho2, hp2, hj2⟩, hb2⟩; have hB2 := below_call hB1 hB1.size hb2; have d0 := bl_own hb2 c0; have hJ := hj2 hFe.out; rw [hfe] at hJ; simp only [Int.toNat_natCast] at hJ; have hll := hJ.len; obtain ⟨g2, k2, hv2⟩ := ho2.lies (by omega); rw [hll] at hv2; subst hv2; have hJ' := Lib.hid hJ; have hll' := Lib.hid hll; clear hJ hp2 hj2 hll))
      have hA3 : Below w2.heap.size w2 (w2.alloc (.cells (madeCells #[.bool false] a.length) 4)) := (Below.refl _ w2).alloc (Nat.le_refl _) _
      have hon := made_own w2 a.length w2.heap.size (Nat.le_refl _) (by omega)
      have hB3 := below_call hB2 hB2.size hA3
      have hol := on_start a q
      have hR2 := ho2.rdg encItem_len
      generalize w2.alloc (.cells (madeCells #[.bool false] a.length) 4) = V0 at hA3 hon hB3 ⊢
      obtain ⟨g, hg⟩ : ∃ g, w2.heap.size = g := ⟨_, rfl⟩
      rw [hg] at hon ⊢
      have hg' := Lib.hid hg
      clear hmk hg ho2
      go_loopw [11, 12] (fun v x12 wr => ∃ (m : Nat) (ol : List Bool), m ≤ a.length ∧ v = .int .i64 ((m : Int) - 1) ∧ OnOk a q m ol ∧ Own wr g 4 1 encB (.slice (some ⟨g, 0, none⟩) a.length a.length) ol ∧ Below w2.heap.size w2 wr) (fun v _ _ => (intOf v + 1).toNat)
      case atStart => exact ⟨a.length, _, Nat.le_refl _, rfl, hol, hon, hA3⟩
      case round =>
        clear hol hon hA3 hB3
        obtain ⟨m, ol, hmn, rfl, hol, hon, hBr⟩ := hrel
        have hBw := below_call hB2 hB2.size hBr
        cases m with
        | zero =>
          go_wp2_with fail
          go_ret
          exact ⟨rfl, hBw⟩
        | succ i =>
          have hi : i < a.length := by omega
          have e0 : ((i + 1 : Nat) : Int) - 1 = i := by omega
          rw [e0]
          have hil : i < ol.length := by rw [hol.1]; exact hi
          have hhere := on_here hp'.out hq hol hil
          have hqi := hqs'.out i hi
          have heq := eql_idw (itm a i).id id
          have hpi := hp'.out i hi
          have hwi := hwb'.out i hi
          have hil2 : i < l2.length := by rw [hll'.out]; exact hi
          obtain ⟨bb, oo, rfl, _, v0, v1, v2, v3, v4, _, _⟩ := (hr.below hBw).atItem hi
          obtain ⟨b2, o2, he2, _, u0, u1, u2, u3, u4, _, _⟩ := (hR2.below hBr).atItem hil2
          injection he2 with he2
          injection he2 with he2 he3
          subst he2
          subst he3
          obtain ⟨s1, s2, _⟩ := hJ'.out.sk i hil2
          rw [s1] at u0 u1
          rw [s2] at u2
          obtain ⟨p0, p1, _, _⟩ := blk2 (bl_own hBr d0)
          have o0 := hon.atB hil
          obtain ⟨D, hD⟩ : ∃ D, wr.drew = D := ⟨_, rfl⟩
          have hBD : Below wr.heap.size wr D := by subst hD; exact (Below.refl _ wr).drew
          have hoD := hon.below hBD
          have fD := hoD.free i
          have o0D := (hBD.cell (World.block_lt_of_cell? _ _ o0)).trans o0
          have v0D := (hBD.cell (World.block_lt_of_cell? _ _ v0)).trans v0
          have v1D := (hBD.cell (World.block_lt_of_cell? _ _ v1)).trans v1
          have p0D := (hBD.cell (World.block_lt_of_cell? _ _ p0)).trans p0
          have p1D := (hBD.cell (World.block_lt_of_cell? _ _ p1)).trans p1
          have hBDr := below_call hBr hBr.size hBD
          have hgl : ∀ t, some g = some t → w2.heap.size ≤ t := fun t ht => by cases ht; rw [hg'.out]; exact Nat.le_refl _
          have hneq := neq_idw (itm a i).id (itm a i).id
          rw [decide_eq_true (rfl : (itm a i).id = (itm a i).id)] at hneq
          -- what holds of a world that is left as it was below w2's size
          have hst := Lib.hid (show ∀ V, Below w2.heap.size w2 V → (V.cell? ⟨bb, oo + i * 7, none⟩ = some (.int .u64 (itm a i).id.hi) ∧ V.cell? ⟨bb, oo + i * 7 + 1, none⟩ = some (.int .u64 (itm a i).id.lo) ∧ V.cell? ⟨bb, oo + i * 7 + 2, none⟩ = some (.int .i64 (itm a i).par) ∧ V.cell? ⟨bb, oo + i * 7 + 4, none⟩ = some (.int .i64 (itm a i).w)) ∧ (V.cell? ⟨g2, i * 7, none⟩ = some (.int .u64 (itm a i).id.hi) ∧ V.cell? ⟨g2, i * 7 + 1, none⟩ = some (.int .u64 (itm a i).id.lo) ∧ V.cell? ⟨g2, i * 7 + 2, none⟩ = some (.int .i64 (itm a i).par) ∧ V.cell? ⟨g2, i * 7 + 4, none⟩ = some (.int .i64 (itm l2 i).w)) from fun V hV => by
            obtain ⟨q1, q2, he, _, r0, r1, r2, _, r4, _, _⟩ := (hr.below (below_call hB2 hB2.size hV)).atItem hi
            cases he
            obtain ⟨q1, q2, he, _, t0, t1, t2, _, t4, _, _⟩ := (hR2.below hV).atItem hil2
            cases he
            rw [s1] at t0 t1
            rw [s2] at t2
            simp only [Nat.zero_add] at t0 t1 t2 t4
            exact ⟨⟨r0, r1, r2, r4⟩, t0, t1, t2, t4⟩)
          by_cases hu : Up a q i
          · have hw2 := Lib.hid (hJ'.out.tr1 i hil2 hu Up_none)
            have hsum : IntKind.i64.wrap ((itm a i).w + y) = (itm a i).w + y := Go.IntWalk.i64_in _ (by omega)
            have ho1 := hoD.setB hil true
            have hB1s := below_step hBDr hBDr.size (grown_set D ⟨g, i, none⟩ (.bool true)) hgl
            generalize hW1 : D.setCell ⟨g, i, none⟩ (.bool true) = W1 at ho1 hB1s
            have o1 := ho1.atB (i := i) (by simpa using hil)
            rw [List.getElem_set_self] at o1
            obtain ⟨⟨r0, r1, r2, r4⟩, t0, t1, t2, t4⟩ := hst.out _ hB1s
            rw [hw2.out] at t4
            have hgt : ol[i] = true ∨ (ol[i] = false ∧ i = q) := by
              rcases hhere.1 hu with h | h
              · exact .inl h
              · cases hb : ol[i] with
                | true => exact .inl rfl
                | false => exact .inr ⟨rfl, h⟩
            have hbrk := 0
            rcases hgt with hb | ⟨hb, hiq⟩
            · rw [hb] at o0 o0D
              by_cases hpr : (itm a i).par < 0
              · have hpm : (itm a i).par = -1 := by omega
                rw [hpm] at r2 t2
                have hok := Lib.hid (on_skip hol true (fun k hk h => by have := h.2; omega) hi)
                have z0 := gr_cell r0
                have z1 := gr_cell r1
                have z2 := gr_cell r2
                have y0 := gr_cell t0
                have y1 := gr_cell t1
                have y2 := gr_cell t2
                have y4 := gr_cell t4
                clear hhere hqi hol hbrk hJ' u0 u1 u2 u3 u4 v0 v1 v2 v3 v4
                go_wp2_with fail
                refine wp_region_still_tail 16 (by kernel_rfl) (by kernel_rfl) ?_
                simp only [List.take_succ_cons, List.take_zero, List.drop_succ_cons, List.drop_zero]
                still_step
                still_step
                still_step
                still_step
                still_step
                still_step
                still_step
                with_reducible refine still_pass ?_ ?_
                · kernel_rfl
                with_reducible refine still_pass ?_ ?_
                · kernel_rfl
                with_reducible refine still_pass ?_ ?_
                · kernel_rfl
                with_reducible refine still_pass ?_ ?_
                · kernel_rfl
                with_reducible refine still_pass ?_ ?_
                · kernel_rfl
                with_reducible refine still_pass ?_ ?_
                · kernel_rfl
                with_reducible refine still_pass ?_ ?_
                · kernel_rfl
                with_reducible refine wpStill_step (fun K hK => ?_)
                go_simp
                with_reducible refine hK _ ?_
                clear hK K
                with_reducible refine wpStill_step (fun K hK => ?_)
                go_simp
                with_reducible refine hK _ ?_
                clear hK K
                with_reducible refine wpStill_nil ?_
                go_wp2_with fail
                refine wp_region_gr (by kernel_rfl) (by kernel_rfl) ?_
                repeat (go_big_quiet_step (fail))
                refine wpQuiet_nil ?_
                rintro _ ⟨pr, rfl⟩
                go_wp2_with fail
                go_roundw
                case rel => exact ⟨i, _, by omega, by go_num, hok.out, ho1.below (gr_below W1 pr), hB1s.trans ((gr_below W1 pr).mono hB1s.size)⟩
                case measure => simp [intOf]
              · obtain ⟨p, hpp⟩ : ∃ p : Nat, (itm a i).par = p := ⟨(itm a i).par.toNat, by omega⟩
                have hpl : p < i := by omega
                have hpa : p < a.length := by omega
                have hpo : p < ol.length := by omega
                have hok := Lib.hid (on_put hol true hi hu hpp hpl)
                rw [hpp] at r2 t2
                have fp := ho1.free p
                have op := ho1.atB (i := p) (by simpa using hpo)
                have ho2 := ho1.setB (i := p) (by simpa using hpo) true
                have hB2s := below_step hB1s hB1s.size (grown_set W1 ⟨g, p, none⟩ (.bool true)) hgl
                generalize hW2 : W1.setCell ⟨g, p, none⟩ (.bool true) = W2 at ho2 hB2s
                have o2 := ho2.atB (i := i) (by simpa using hil)
                rw [List.getElem_set_ne (by omega), List.getElem_set_self] at o2
                obtain ⟨⟨q0, q1, q2, q4⟩, qt0, qt1, qt2, qt4⟩ := hst.out _ hB2s
                rw [hw2.out] at qt4
                rw [hpp] at q2 qt2
                have z0 := gr_cell q0
                have z1 := gr_cell q1
                have z2 := gr_cell q2
                have y0 := gr_cell qt0
                have y1 := gr_cell qt1
                have y2 := gr_cell qt2
                have y4 := gr_cell qt4
                clear hhere hqi hol hbrk hJ' u0 u1 u2 u3 u4 v0 v1 v2 v3 v4
                go_wp2_with fail
                refine wp_region_still_tail 16 (by kernel_rfl) (by kernel_rfl) ?_
                simp only [List.take_succ_cons, List.take_zero, List.drop_succ_cons, List.drop_zero]
                still_step
                still_step
                still_step
                still_step
                still_step
                still_step
                still_step
                with_reducible refine still_pass ?_ ?_
                · kernel_rfl
                with_reducible refine still_pass ?_ ?_
                · kernel_rfl
                with_reducible refine still_pass ?_ ?_
                · kernel_rfl
                with_reducible refine still_pass ?_ ?_
                · kernel_rfl
                with_reducible refine still_pass ?_ ?_
                · kernel_rfl
                with_reducible refine still_pass ?_ ?_
                · kernel_rfl
                with_reducible refine still_pass ?_ ?_
                · kernel_rfl
                with_reducible refine wpStill_step (fun K hK => ?_)
                go_simp
                with_reducible refine hK _ ?_
                clear hK K
                with_reducible refine wpStill_step (fun K hK => ?_)
                go_simp
                with_reducible refine hK _ ?_
                clear hK K
                with_reducible refine wpStill_nil ?_
                go_wp2_with fail
                refine wp_region_gr (by kernel_rfl) (by kernel_rfl) ?_
                repeat (go_big_quiet_step (fail))
                refine wpQuiet_nil ?_
                rintro _ ⟨pr, rfl⟩
                go_wp2_with fail
                go_roundw
                case rel => exact ⟨i, _, by omega, by go_num, hok.out, ho2.below (gr_below W2 pr), hB2s.trans ((gr_below W2 pr).mono hB2s.size)⟩
                case measure => simp [intOf]
            · rw [hb] at o0 o0D
              rw [decide_eq_true (hqi.2 hiq)] at heq
              clear hiq
              by_cases hpr : (itm a i).par < 0
              · have hpm : (itm a i).par = -1 := by omega
                rw [hpm] at r2 t2
                have hok := Lib.hid (on_skip hol true (fun k hk h => by have := h.2; omega) hi)
                have z0 := gr_cell r0
                have z1 := gr_cell r1
                have z2 := gr_cell r2
                have y0 := gr_cell t0
                have y1 := gr_cell t1
                have y2 := gr_cell t2
                have y4 := gr_cell t4
                clear hhere hqi hol hbrk hJ' u0 u1 u2 u3 u4 v0 v1 v2 v3 v4
                go_wp2_with fail
                go_still_tail 16, (by kernel_rfl)
                go_wp2_with fail
                refine wp_region_gr (by kernel_rfl) (by kernel_rfl) ?_
                repeat (go_big_quiet_step (fail))
                refine wpQuiet_nil ?_
                rintro _ ⟨pr, rfl⟩
                go_wp2_with fail
                go_roundw
                case rel => exact ⟨i, _, by omega, by go_num, hok.out, ho1.below (gr_below W1 pr), hB1s.trans ((gr_below W1 pr).mono hB1s.size)⟩
                case measure => simp [intOf]
              · obtain ⟨p, hpp⟩ : ∃ p : Nat, (itm a i).par = p := ⟨(itm a i).par.toNat, by omega⟩
                have hpl : p < i := by omega
                have hpa : p < a.length := by omega
                have hpo : p < ol.length := by omega
                have hok := Lib.hid (on_put hol true hi hu hpp hpl)
                rw [hpp] at r2 t2
                have fp := ho1.free p
                have op := ho1.atB (i := p) (by simpa using hpo)
                have ho2 := ho1.setB (i := p) (by simpa using hpo) true
                have hB2s := below_step hB1s hB1s.size (grown_set W1 ⟨g, p, none⟩ (.bool true)) hgl
                generalize hW2 : W1.setCell ⟨g, p, none⟩ (.bool true) = W2 at ho2 hB2s
                have o2 := ho2.atB (i := i) (by simpa using hil)
                rw [List.getElem_set_ne (by omega), List.getElem_set_self] at o2
                obtain ⟨⟨q0, q1, q2, q4⟩, qt0, qt1, qt2, qt4⟩ := hst.out _ hB2s
                rw [hw2.out] at qt4
                rw [hpp] at q2 qt2
                have z0 := gr_cell q0
                have z1 := gr_cell q1
                have z2 := gr_cell q2
                have y0 := gr_cell qt0
                have y1 := gr_cell qt1
                have y2 := gr_cell qt2
                have y4 := gr_cell qt4
                clear hhere hqi hol hbrk hJ' u0 u1 u2 u3 u4 v0 v1 v2 v3 v4
                go_wp2_with fail
                go_still_tail 16, (by kernel_rfl)
                go_wp2_with fail
                refine wp_region_gr (by kernel_rfl) (by kernel_rfl) ?_
                repeat (go_big_quiet_step (fail))
                refine wpQuiet_nil ?_
                rintro _ ⟨pr, rfl⟩
                go_wp2_with fail
                go_roundw
                case rel => exact ⟨i, _, by omega, by go_num, hok.out, ho2.below (gr_below W2 pr), hB2s.trans ((gr_below W2 pr).mono hB2s.size)⟩
                case measure => simp [intOf]
          · have hw2 := Lib.hid (hJ'.out.tr2 i hil2 (.inl hu))
            have hb : ol[i] = false := by
              cases hb : ol[i] with
              | true => exact absurd (hhere.2 (.inl hb)) hu
              | false => rfl
            rw [hb] at o0 o0D
            rw [decide_eq_false (fun h => hu (hhere.2 (.inr (hqi.1 h))))] at heq
            have hbrk := 0
            have ho1 := hoD.setB hil false
            have hB1s := below_step hBDr hBDr.size (grown_set D ⟨g, i, none⟩ (.bool false)) hgl
            generalize hW1 : D.setCell ⟨g, i, none⟩ (.bool false) = W1 at ho1 hB1s
            have o1 := ho1.atB (i := i) (by simpa using hil)
            rw [List.getElem_set_self] at o1
            obtain ⟨⟨r0, r1, r2, r4⟩, t0, t1, t2, t4⟩ := hst.out _ hB1s
            rw [hw2.out] at t4
            have hok := Lib.hid (on_skip hol false (fun k hk h => hu h.1) hi)
            have z0 := gr_cell r0
            have z1 := gr_cell r1
            have z2 := gr_cell r2
            have y0 := gr_cell t0
            have y1 := gr_cell t1
            have y2 := gr_cell t2
            have y4 := gr_cell t4
            clear hhere hqi hol hbrk hJ' u0 u1 u2 u3 u4 v0 v1 v2 v3 v4
            go_wp2_with fail
            go_still_tail 16, (by kernel_rfl)
            go_wp2_with fail
            refine wp_region_gr (by kernel_rfl) (by kernel_rfl) ?_
            repeat (go_big_quiet_step (fail))
            refine wpQuiet_nil ?_
            rintro _ ⟨pr, rfl⟩
            go_wp2_with fail
            go_roundw
            case rel => exact ⟨i, _, by omega, by go_num, hok.out, ho1.below (gr_below W1 pr), hB1s.trans ((gr_below W1 pr).mono hB1s.size)⟩
            case measure => simp [intOf]
    · obtain ⟨hE1⟩ : Nonempty (F ≠ 0) := ⟨hF0⟩
      have hFe := Lib.hid hF
      have hdF : (F != 0) = true := by simpa using hF0
      have hF0' := Lib.hid hF0
      clear hF hF0 hE1
      unfold idv at *
      go_enter Try.func8, Try.ntmps8
      go_wp2_with (first
        | (go_at_call 9; refine (haw _).mono ?_; clear haw; rintro e w1 ⟨rfl, hb1⟩; have hB1 := below_call hB hB.size hb1; have c0 := bl_own hb1 b0; obtain ⟨p0, p1, _, _⟩ := blk2 c0)
        | (go_at_call 13; refine (hmv _ hB1).mono ?_; clear hmv; rintro e w2 ⟨⟨l2, v2, rfl, ho2, hp2, _⟩, hb2⟩; have hB2 := below_call hB1 hB1.size hb2; have hnil := hp2.1 (by rw [hFe.out]; exact hF0'.out); subst hnil; obtain ⟨A2, k2, hv2, _⟩ := ho2.rdn encItem_len; rw [List.length_nil] at hv2; subst hv2))
      go_ret
      exact ⟨ret_bool (by simp), hB2⟩
  · have h71 : 70 < a.length := by omega
    unfold idv at *
    clear h70
    go_enter Try.func8, Try.ntmps8
    go_wp2_with (go_at_call 9; refine (haw _).mono ?_; clear haw; rintro e w1 ⟨rfl, hb1⟩; have hB1 := below_call hB hB.size hb1)
    go_ret
    exact ⟨rfl, hB1⟩
theorem moves10_walk (A : Option Addr) (a : List Item) (c : Nat) (id : ID) (y : Int) (w : World) (_ : a.length ≤ c) (_ : c ≤ maxLen) (hr : Rd 7 encItem w A a) (_ : ∀ x ∈ a, x.Ok) (hN : A = none → c = 0) (_ : id.Ok) (_ : I64 y) :
    Calls Try.prog 8 #[.slice A a.length c, idv id, .int .i64 y] w fun e w' => e = .returned (.bool true) ∧ Below w.heap.size w w' :=
  moves10_any a id y A c w hr hN
end Go.Proofs.Ytionkkjdaghakaa
