/- GJ: several texts in one. -/
import Derived.Test.YtdocgemfedohdaaGreatGF
import Derived.Test.YtdocgemfedohdaaGreatGI
import Derived.Test.YtdocgemfedohdaaGreatGA
import Derived.Shelf.SlSortCmp.WholeK
import Derived.Shelf.SlSortCmp.NoneTotal
/-! What each voted for, and who is double: a book of votes, in plain words. -/
namespace Go.Proofs.YtdocgemfedohdaaGreat
open Go.RowKit
/-- Who votes, and in which slot. -/
structure Dty where
  frm : Int
  slot : Int
  deriving DecidableEq
def dtyv (d : Dty) : Value := .agg #[.int .i64 d.frm, .int .i64 d.slot]
theorem eqlIn_dty (n : Nat) (x y : Dty) (w : World) : (Op.equalIn (n + 3) 113 (dtyv x) (dtyv y)).run Tryz.prog w = .ok (decide (x = y)) w := by
  have u := Tryz.underlying113
  have u3 := Tryz.underlying3
  have p := fun cs off v h w => part_int (P := Tryz.prog) u3 cs off v h w
  unfold dtyv
  rw [run_equalIn_struct _ _ _ _ _ (by kernel_rfl) (by kernel_rfl)]
  simp only [Program.fieldsOf, u]
  obtain ⟨x1, x2⟩ := x
  obtain ⟨y1, y2⟩ := y
  by_cases h1 : x1 = y1 <;> by_cases h2 : x2 = y2 <;> simp [Op.eqFields, p, run_equalIn_int _ _ _ _ _ _ _ u3, h1, h2]
theorem eql_dtyw (x y : Dty) (w : World) : (binOp .eql 113 (.agg #[.int .i64 x.frm, .int .i64 x.slot]) (.agg #[.int .i64 y.frm, .int .i64 y.slot])).run Tryz.prog w = .ok (.bool (decide (x = y))) w := by
  have h := eqlIn_dty 9997 x y w
  unfold dtyv at h
  rw [run_eql_struct, h]
  rfl
theorem KeyD : Key Tryz.prog 113 dtyv where
  chk := fun b x w => by
    have u := Tryz.underlying113
    have u3 := Tryz.underlying3
    have p := fun cs off v h w => part_int (P := Tryz.prog) u3 cs off v h w
    have c := fun b n x w => check_int (P := Tryz.prog) u3 b n x w
    unfold dtyv Instr.checkKey
    simp only [Sem.run_bind, run_underlying u, Result.andThen_ok]
    simp [List.forIn_cons, p, c]
  eq := fun x y w => eqlIn_dty 9997 x y w
  now := ⟨_, Tryz.underlying113, fun x y => .inl rfl⟩
  bits := fun x => by simp [Instr.sameBits, dtyv]
section
variable {κ ν : Type} [DecidableEq κ]
theorem mget_mputV (m : List (κ × ν)) (x y : κ) (v : ν) : mget (mput m x v) y = if x = y then some v else mget m y := by
  unfold mput
  by_cases h : (mget m x).isSome
  · rw [if_pos h]
    unfold mget at h ⊢
    rw [List.find?_map]
    have hq : ((fun p : κ × ν => decide (p.1 = y)) ∘ fun p => if p.1 = x then (p.1, v) else p) = fun p => decide (p.1 = y) := by
      funext p
      simp only [Function.comp]
      split <;> rfl
    rw [hq]
    by_cases hxy : x = y
    · subst hxy
      rw [Option.isSome_map] at h
      obtain ⟨p, hp⟩ := Option.isSome_iff_exists.1 h
      have hpx := List.find?_some hp
      simp only [decide_eq_true_eq] at hpx
      simp [hp, hpx]
    · cases hf : m.find? (fun p => decide (p.1 = y)) with
      | none => simp [hxy]
      | some p =>
        have hpy := List.find?_some hf
        simp only [decide_eq_true_eq] at hpy
        have : ¬ p.1 = x := fun e => hxy (e.symm.trans hpy)
        simp [hxy, this]
  · rw [if_neg h]
    have hn : mget m x = none := by simpa using h
    unfold mget at hn ⊢
    rw [List.find?_append]
    by_cases hxy : x = y
    · subst hxy
      rw [Option.map_eq_none_iff] at hn
      simp [hn]
    · simp only [hxy, if_false]
      cases hf : m.find? (fun p => decide (p.1 = y)) with
      | none => simp [hxy]
      | some q => simp
theorem mgot_mem {m : List (κ × ν)} {x : κ} {v : ν} (h : mget m x = some v) : (x, v) ∈ m := by
  unfold mget at h
  obtain ⟨q, hq, rfl⟩ := Option.map_eq_some_iff.1 h
  have h1 := List.find?_some hq
  have h2 := List.mem_of_find?_eq_some hq
  simp only [decide_eq_true_eq] at h1
  subst h1
  exact h2
theorem mem_mget {m : List (κ × ν)} (hn : (m.map (·.1)).Nodup) {x : κ} {v : ν} (h : (x, v) ∈ m) : mget m x = some v := by
  induction m with
  | nil => cases h
  | cons p m ih =>
    simp only [List.map_cons, List.nodup_cons] at hn
    unfold mget
    rw [List.find?_cons]
    rcases List.mem_cons.1 h with rfl | h
    · simp
    · have hne : p.1 ≠ x := fun e => hn.1 (e ▸ List.mem_map_of_mem (f := (·.1)) h)
      simp only [hne, decide_false]
      exact ih hn.2 h
theorem mget_mdel (m : List (κ × ν)) (x y : κ) : mget (mdel m x) y = if x = y then none else mget m y := by
  unfold mdel mget
  induction m with
  | nil => simp
  | cons p m ih =>
    by_cases hp : p.1 = x
    · have e1 : decide (p.1 ≠ x) = false := by simp [hp]
      rw [List.filter_cons, e1]
      simp only [Bool.false_eq_true, if_false, ih]
      by_cases hxy : x = y
      · simp [hxy]
      · have : decide (p.1 = y) = false := by simp only [decide_eq_false_iff_not]; intro e; exact hxy (hp.symm.trans e)
        simp only [hxy, if_false, List.find?_cons, this]
    · have e1 : decide (p.1 ≠ x) = true := by simp [hp]
      rw [List.filter_cons, e1]
      simp only [if_true, List.find?_cons]
      by_cases hpy : p.1 = y
      · have hxy : ¬ x = y := fun e => hp (hpy.trans e.symm)
        simp [hpy, hxy]
      · simp only [hpy, decide_false]
        exact ih
end
def dty (v : Vote) : Dty := ⟨v.frm, v.slot⟩
/-- The book of votes: m the heads, b who is double. -/
structure Book (l : List Vote) (m : List (Dty × ID)) (b : List (Dty × Bool)) : Prop where
  there : ∀ d id, mget m d = some id → ⟨d.frm, d.slot, id⟩ ∈ l
  all : ∀ v ∈ l, (mget m (dty v)).isSome = true
  bad : ∀ d, (mget b d).isSome = true ↔ Dbl l d.slot d.frm
  yes : ∀ d x, mget b d = some x → x = true
theorem book_nil : Book [] [] [] := ⟨by simp [mget], by simp, by simp [mget, Dbl], by simp [mget]⟩
theorem dbl_snoc {l : List Vote} {v : Vote} {s f : Int} : Dbl (l ++ [v]) s f ↔ Dbl l s f ∨ (v.frm = f ∧ v.slot = s ∧ ∃ y ∈ l, y.frm = f ∧ y.slot = s ∧ y.head ≠ v.head) := by
  constructor
  · rintro ⟨x, hx, y, hy, h1, h2, h3, h4, h5⟩
    rw [List.mem_append, List.mem_singleton] at hx hy
    rcases hx with hx | rfl
    · rcases hy with hy | rfl
      · exact .inl ⟨x, hx, y, hy, h1, h2, h3, h4, h5⟩
      · exact .inr ⟨h2, h4, x, hx, h1, h3, h5⟩
    · rcases hy with hy | rfl
      · exact .inr ⟨h1, h3, y, hy, h2, h4, fun e => h5 e.symm⟩
      · exact absurd rfl h5
  · rintro (h | ⟨h1, h2, y, hy, h3, h4, h5⟩)
    · exact dbl_mono (fun x hx => by simp [hx]) h
    · exact ⟨y, by simp [hy], v, by simp, h3, h1, h4, h2, h5⟩
theorem book_heads {l : List Vote} {m : List (Dty × ID)} {b : List (Dty × Bool)} (h : Book l m b) (v : Vote) :
    (∀ d id, mget (mput m (dty v) v.head) d = some id → ⟨d.frm, d.slot, id⟩ ∈ l ++ [v]) ∧ ∀ x ∈ l ++ [v], (mget (mput m (dty v) v.head) (dty x)).isSome = true := by
  constructor
  · intro d id hd
    rw [mget_mputV] at hd
    by_cases he : dty v = d
    · rw [if_pos he] at hd
      cases hd
      subst he
      simp [dty]
    · rw [if_neg he] at hd
      exact List.mem_append_left _ (h.there d id hd)
  · intro x hx
    rw [mget_mputV]
    split
    · rfl
    · rename_i hne
      rw [List.mem_append, List.mem_singleton] at hx
      rcases hx with hx | rfl
      · exact h.all x hx
      · exact absurd rfl hne
theorem book_same {l : List Vote} {m : List (Dty × ID)} {b : List (Dty × Bool)} (h : Book l m b) (v : Vote) (hw : mget m (dty v) = none ∨ mget m (dty v) = some v.head) : Book (l ++ [v]) (mput m (dty v) v.head) b := by
  obtain ⟨h1, h2⟩ := book_heads h v
  refine ⟨h1, h2, fun d => ?_, h.yes⟩
  rw [h.bad, dbl_snoc]
  constructor
  · exact .inl
  · rintro (h' | ⟨e1, e2, y, hy, e3, e4, e5⟩)
    · exact h'
    · have hd : dty y = dty v := by unfold dty; rw [e3, e4, ← e1, ← e2]
      have hall := h.all y hy
      rw [hd] at hall
      rcases hw with hw | hw
      · rw [hw] at hall; cases hall
      · have := h.there _ _ hw
        refine ⟨y, hy, _, this, e3, ?_, e4, ?_, e5⟩
        · exact e1
        · exact e2
theorem book_diff {l : List Vote} {m : List (Dty × ID)} {b : List (Dty × Bool)} (h : Book l m b) (v : Vote) {id : ID} (hw : mget m (dty v) = some id) (hne : id ≠ v.head) : Book (l ++ [v]) (mput m (dty v) v.head) (mput b (dty v) true) := by
  obtain ⟨h1, h2⟩ := book_heads h v
  refine ⟨h1, h2, fun d => ?_, fun d x hx => ?_⟩
  · rw [mget_mputV, dbl_snoc]
    by_cases he : dty v = d
    · rw [if_pos he]
      subst he
      simp only [Option.isSome_some, true_iff]
      exact .inr ⟨rfl, rfl, _, h.there _ _ hw, rfl, rfl, hne⟩
    · rw [if_neg he, h.bad]
      constructor
      · exact .inl
      · rintro (h' | ⟨e1, e2, _⟩)
        · exact h'
        · exact absurd (by unfold dty; rw [e1, e2]) he
  · rw [mget_mputV] at hx
    by_cases he : dty v = d
    · rw [if_pos he] at hx; cases hx; rfl
    · rw [if_neg he] at hx; exact h.yes d x hx
end Go.Proofs.YtdocgemfedohdaaGreat
/-! The walk of votes.of. -/
namespace Go.Proofs.YtdocgemfedohdaaGreat
open Go.RowKit
theorem mput_len {κ ν : Type} [DecidableEq κ] (m : List (κ × ν)) (x : κ) (v : ν) : (mput m x v).length ≤ m.length + 1 := by
  unfold mput
  split
  · simp
  · simp
def BookPost (l : List Vote) (w : World) (e : Ending) (w' : World) : Prop :=
  ∃ (m : List (Dty × ID)) (b : List (Dty × Bool)) (M1 M2 : Nat), e = .returned (.agg #[.map (some M1), .map (some M2)]) ∧ w.heap.size ≤ M1 ∧ w.heap.size ≤ M2 ∧ MapIs dtyv idv w' M1 m ∧ MapIs dtyv Value.bool w' M2 b ∧ Book l m b ∧ m.length ≤ l.length ∧ b.length ≤ l.length ∧ Below w.heap.size w w'
set_option maxRecDepth 100000 in
set_option maxHeartbeats 2000000 in
theorem book_any (l : List Vote) (A : Option Addr) (c : Nat) (w : World) (hr : Rd 4 encVote w A l) :
    Calls Tryz.prog 46 #[.slice A l.length c] w (BookPost l w) := by
  have hm := hr.1
  have hmm := @run_makeMap Tryz.prog
  go_enter Tryz.func46, Tryz.ntmps46
  go_wp2_with fail
  go_loopw [5, 6, 7, 8, 14] (fun u5 u6 u7 u8 i wr => ∃ (k : Nat) (m : List (Dty × ID)) (b : List (Dty × Bool)), k ≤ l.length ∧ i = .int .i64 k ∧ MapIs dtyv idv wr (w.heap.size + 1) m ∧ MapIs dtyv Value.bool wr (w.heap.size + 1 + 1) b ∧ Hid (Book (l.take k) m b) ∧ m.length ≤ k ∧ b.length ≤ k ∧
    wr.heap[w.heap.size]? = some (.cells #[.map none, .map none] 110 (0, 0)) ∧ wr.heap[w.heap.size + 1 + 1 + 1]? = some (.cells #[.map (some (w.heap.size + 1)), .map (some (w.heap.size + 1 + 1))] 110 (0, 0)) ∧ Below w.heap.size w wr) (fun _ _ _ _ i _ => l.length - (intOf i).toNat)
  case atStart =>
    exact ⟨0, [], [], Nat.zero_le _, rfl, MapIs_new _ _ (ha_lt (ha_lt (ha_at (by simp)))), MapIs_new _ _ (ha_lt (ha_at (by simp))), Lib.hid book_nil, Nat.le_refl _, Nat.le_refl _, ha_lt (ha_lt (ha_lt (ha_at rfl))), ha_at (by simp), ((((Below.refl _ w).alloc (Nat.le_refl _) _).alloc (by simp) _).alloc (by simp; omega) _).alloc (by simp; omega) _⟩
  case round =>
    obtain ⟨k, m, b, hk, rfl, hM, hN, hbk, hml, hbl, hR, hC, hB⟩ := hrel
    by_cases hlt : k < l.length
    · obtain ⟨b', o, rfl, hbo, d0, d1, d2, d3⟩ := (hr.below hB).atVote hlt
      have htk := (List.take_succ_eq_append_getElem hlt)
      obtain ⟨v, hv⟩ : ∃ v, l[k] = v := ⟨_, rfl⟩
      rw [hv] at d0 d1 d2 d3 htk
      have hsame := Lib.hid (fun h => book_same hbk.out v h)
      have hdiff := Lib.hid (fun id h1 h2 => book_diff (id := id) hbk.out v h1 h2)
      have htk' := Lib.hid htk
      clear hv htk hbk
      obtain ⟨c0, c1, _, _⟩ := blk2 hC
      have hW : ∃ W, (wr.alloc (.cells #[.int .i64 v.frm, .int .i64 v.slot, .int .u64 v.head.hi, .int .u64 v.head.lo] 37)).alloc (.cells #[.int .i64 v.frm, .int .i64 v.slot] 113) = W := ⟨_, rfl⟩
      obtain ⟨W, hW⟩ := hW
      have hBW : Below wr.heap.size wr W := by subst hW; exact ((Below.refl _ wr).alloc (Nat.le_refl _) _).alloc (by simp) _
      have x0 : W.heap[wr.heap.size]? = some (.cells #[.int .i64 v.frm, .int .i64 v.slot, .int .u64 v.head.hi, .int .u64 v.head.lo] 37 (0, 0)) := by subst hW; exact ha_lt (ha_at rfl)
      have x1 : W.heap[wr.heap.size + 1]? = some (.cells #[.int .i64 v.frm, .int .i64 v.slot] 113 (0, 0)) := by subst hW; exact ha_at (by simp)
      have hMW := MapIs_below hM hBW
      have hNW := MapIs_below hN hBW
      have hBw := below_call hB hB.size hBW
      have hC1 := bl_own hBW hC
      have hR1 := bl_own hBW hR
      obtain ⟨e0, e1, _, _⟩ := blk2 hC1
      obtain ⟨y0, y1, y2, y3⟩ := blk4 x0
      obtain ⟨z0, z1, _, _⟩ := blk2 x1
      cases hg : mget m ⟨v.frm, v.slot⟩ with
      | none =>
        have hb2 := Lib.hid (hsame.out (.inl hg))
        clear hsame hdiff
        have hB2 : Below W.heap.size W (W.alloc (.cells #[.int .u64 0, .int .u64 0] 28)) := (Below.refl _ W).alloc (Nat.le_refl _) _
        have hM2 := MapIs_below hMW hB2
        have hN2 := MapIs_below hNW hB2
        have hBw2 := below_call hBw hBw.size hB2
        have x2 : (W.alloc (.cells #[.int .u64 0, .int .u64 0] 28)).heap[W.heap.size]? = some (.cells #[.int .u64 0, .int .u64 0] 28 (0, 0)) := ha_at rfl
        have p0 := bl_own hB2 x0
        have p1 := bl_own hB2 x1
        have p2 := bl_own hB2 hC1
        have p3 := bl_own hB2 hR1
        obtain ⟨q0, q1, q2, q3⟩ := blk4 p0
        obtain ⟨q4, q5, _, _⟩ := blk2 p1
        obtain ⟨q6, q7, _, _⟩ := blk2 p2
        have hlr := hB.size
        have hne0 : some wr.heap.size ≠ some (w.heap.size + 1) := fun e => by have := MapIs_lt hM; have e' := Option.some.inj e; omega
        have hne1 : some (wr.heap.size + 1) ≠ some (w.heap.size + 1) := fun e => by have := MapIs_lt hM; have e' := Option.some.inj e; omega
        have hne2 : some W.heap.size ≠ some (w.heap.size + 1) := fun e => by have := MapIs_lt hMW; have e' := Option.some.inj e; omega
        have hne3 : some (w.heap.size + 1 + 1 + 1) ≠ some (w.heap.size + 1) := fun e => by have e' := Option.some.inj e; omega
        have hne4 : some w.heap.size ≠ some (w.heap.size + 1) := fun e => by have e' := Option.some.inj e; omega
        have hne5 : some (w.heap.size + 1 + 1) ≠ some (w.heap.size + 1) := fun e => by have e' := Option.some.inj e; omega
        have hnes := Lib.hid (And.intro hne0 (And.intro hne1 (And.intro hne2 (And.intro hne3 (And.intro hne4 hne5)))))
        clear hne0 hne1 hne2 hne3 hne4 hne5 hlr
        go_wp2_with (first
          | (at_lookup; refine wp_lookup (x := ⟨v.frm, v.slot⟩) rfl rfl KeyD Tryz.underlying107 (Tryz.zeroValue28 _) rfl rfl hMW (r := .tuple #[.agg #[.int .u64 0, .int .u64 0], .bool false]) (by rw [hg]; rfl) ?_)
          | (at_mapUpdate; refine wp_update rfl (.inl rfl) KeyD Tryz.underlying107 rfl (x := dty v) rfl (v := v.head) rfl hM2 ?_; intro w4 hM4 hg4 hz4; obtain ⟨s0, s1, s2, s3⟩ := blk4 (grown_own hg4 p0 hnes.out.1); obtain ⟨s4, s5, _, _⟩ := blk2 (grown_own hg4 p1 hnes.out.2.1); obtain ⟨s6, s7, _, _⟩ := blk2 (grown_own hg4 x2 hnes.out.2.2.1); have hC4 := grown_own hg4 p2 hnes.out.2.2.2.1; have hR4 := grown_own hg4 p3 hnes.out.2.2.2.2.1; have hN4 := MapIs_grown hN2 hg4 hnes.out.2.2.2.2.2; obtain ⟨s8, s9, _, _⟩ := blk2 hC4; have hB4 := below_step hBw2 hBw2.size hg4 (fun q e => by cases e; omega)))
        go_roundw
        case rel => exact ⟨k + 1, mput m (dty v) v.head, b, hlt, by go_num, hM4, hN4, by rw [htk'.out]; exact hb2, Nat.le_trans (mput_len _ _ _) (by omega), by omega, hR4, hC4, hB4⟩
        case measure => simp [intOf]; omega
      | some id =>
        have hneq := neq_idw id v.head
        by_cases hid : id = v.head
        · have hb2 := Lib.hid (hsame.out (.inr (by rw [← hid]; exact hg)))
          have hd : decide (id = v.head) = true := by simpa using hid
          rw [hd] at hneq
          clear hsame hdiff hid hd
          have hB2 : Below W.heap.size W (W.alloc (.cells #[.int .u64 id.hi, .int .u64 id.lo] 28)) := (Below.refl _ W).alloc (Nat.le_refl _) _
          have hM2 := MapIs_below hMW hB2
          have hN2 := MapIs_below hNW hB2
          have hBw2 := below_call hBw hBw.size hB2
          have x2 : (W.alloc (.cells #[.int .u64 id.hi, .int .u64 id.lo] 28)).heap[W.heap.size]? = some (.cells #[.int .u64 id.hi, .int .u64 id.lo] 28 (0, 0)) := ha_at rfl
          have p0 := bl_own hB2 x0
          have p1 := bl_own hB2 x1
          have p2 := bl_own hB2 hC1
          have p3 := bl_own hB2 hR1
          obtain ⟨q0, q1, q2, q3⟩ := blk4 p0
          obtain ⟨q4, q5, _, _⟩ := blk2 p1
          obtain ⟨q6, q7, _, _⟩ := blk2 p2
          have hlr := hB.size
          have hne0 : some wr.heap.size ≠ some (w.heap.size + 1) := fun e => by have := MapIs_lt hM; have e' := Option.some.inj e; omega
          have hne1 : some (wr.heap.size + 1) ≠ some (w.heap.size + 1) := fun e => by have := MapIs_lt hM; have e' := Option.some.inj e; omega
          have hne2 : some W.heap.size ≠ some (w.heap.size + 1) := fun e => by have := MapIs_lt hMW; have e' := Option.some.inj e; omega
          have hne3 : some (w.heap.size + 1 + 1 + 1) ≠ some (w.heap.size + 1) := fun e => by have e' := Option.some.inj e; omega
          have hne4 : some w.heap.size ≠ some (w.heap.size + 1) := fun e => by have e' := Option.some.inj e; omega
          have hne5 : some (w.heap.size + 1 + 1) ≠ some (w.heap.size + 1) := fun e => by have e' := Option.some.inj e; omega
          have hnes := Lib.hid (And.intro hne0 (And.intro hne1 (And.intro hne2 (And.intro hne3 (And.intro hne4 hne5)))))
          clear hne0 hne1 hne2 hne3 hne4 hne5 hlr
          go_wp2_with (first
            | (at_lookup; refine wp_lookup (x := ⟨v.frm, v.slot⟩) rfl rfl KeyD Tryz.underlying107 (Tryz.zeroValue28 _) rfl rfl hMW (r := .tuple #[.agg #[.int .u64 id.hi, .int .u64 id.lo], .bool true]) (by rw [hg]; rfl) ?_)
            | (at_mapUpdate; refine wp_update rfl (.inl rfl) KeyD Tryz.underlying107 rfl (x := dty v) rfl (v := v.head) rfl hM2 ?_; intro w4 hM4 hg4 hz4; obtain ⟨s0, s1, s2, s3⟩ := blk4 (grown_own hg4 p0 hnes.out.1); obtain ⟨s4, s5, _, _⟩ := blk2 (grown_own hg4 p1 hnes.out.2.1); obtain ⟨s6, s7, _, _⟩ := blk2 (grown_own hg4 x2 hnes.out.2.2.1); have hC4 := grown_own hg4 p2 hnes.out.2.2.2.1; have hR4 := grown_own hg4 p3 hnes.out.2.2.2.2.1; have hN4 := MapIs_grown hN2 hg4 hnes.out.2.2.2.2.2; obtain ⟨s8, s9, _, _⟩ := blk2 hC4; have hB4 := below_step hBw2 hBw2.size hg4 (fun q e => by cases e; omega)))
          go_roundw
          case rel => exact ⟨k + 1, mput m (dty v) v.head, b, hlt, by go_num, hM4, hN4, by rw [htk'.out]; exact hb2, Nat.le_trans (mput_len _ _ _) (by omega), by omega, hR4, hC4, hB4⟩
          case measure => simp [intOf]; omega
        · have hb2 := Lib.hid (hdiff.out id hg hid)
          have hd : decide (id = v.head) = false := by simpa using hid
          rw [hd] at hneq
          clear hsame hdiff hid hd
          have hB2 : Below W.heap.size W (W.alloc (.cells #[.int .u64 id.hi, .int .u64 id.lo] 28)) := (Below.refl _ W).alloc (Nat.le_refl _) _
          have hM2 := MapIs_below hMW hB2
          have hN2 := MapIs_below hNW hB2
          have hBw2 := below_call hBw hBw.size hB2
          have x2 : (W.alloc (.cells #[.int .u64 id.hi, .int .u64 id.lo] 28)).heap[W.heap.size]? = some (.cells #[.int .u64 id.hi, .int .u64 id.lo] 28 (0, 0)) := ha_at rfl
          have p0 := bl_own hB2 x0
          have p1 := bl_own hB2 x1
          have p2 := bl_own hB2 hC1
          have p3 := bl_own hB2 hR1
          obtain ⟨q0, q1, q2, q3⟩ := blk4 p0
          obtain ⟨q4, q5, _, _⟩ := blk2 p1
          obtain ⟨q6, q7, _, _⟩ := blk2 p2
          have hlr := hB.size
          have hne0 : some wr.heap.size ≠ some (w.heap.size + 1) := fun e => by have := MapIs_lt hM; have e' := Option.some.inj e; omega
          have hne1 : some (wr.heap.size + 1) ≠ some (w.heap.size + 1) := fun e => by have := MapIs_lt hM; have e' := Option.some.inj e; omega
          have hne2 : some W.heap.size ≠ some (w.heap.size + 1) := fun e => by have := MapIs_lt hMW; have e' := Option.some.inj e; omega
          have hne3 : some (w.heap.size + 1 + 1 + 1) ≠ some (w.heap.size + 1) := fun e => by have e' := Option.some.inj e; omega
          have hne4 : some w.heap.size ≠ some (w.heap.size + 1) := fun e => by have e' := Option.some.inj e; omega
          have hne5 : some (w.heap.size + 1 + 1) ≠ some (w.heap.size + 1) := fun e => by have e' := Option.some.inj e; omega
          have hnes := Lib.hid (And.intro hne0 (And.intro hne1 (And.intro hne2 (And.intro hne3 (And.intro hne4 hne5)))))
          clear hne0 hne1 hne2 hne3 hne4 hne5 hlr
          go_wp2_with (first
            | (at_lookup; refine wp_lookup (x := ⟨v.frm, v.slot⟩) rfl rfl KeyD Tryz.underlying107 (Tryz.zeroValue28 _) rfl rfl hMW (r := .tuple #[.agg #[.int .u64 id.hi, .int .u64 id.lo], .bool true]) (by rw [hg]; rfl) ?_)
            | (at_mapUpdate; refine wp_update rfl (.inl rfl) KeyD Tryz.underlying107 rfl (x := dty v) rfl (v := v.head) rfl hM2 ?_; intro w4 hM4 hg4 hz4; obtain ⟨s0, s1, s2, s3⟩ := blk4 (grown_own hg4 p0 hnes.out.1); obtain ⟨s4, s5, _, _⟩ := blk2 (grown_own hg4 p1 hnes.out.2.1); obtain ⟨s6, s7, _, _⟩ := blk2 (grown_own hg4 x2 hnes.out.2.2.1); have hC4 := grown_own hg4 p2 hnes.out.2.2.2.1; have hR4 := grown_own hg4 p3 hnes.out.2.2.2.2.1; have hN4 := MapIs_grown hN2 hg4 hnes.out.2.2.2.2.2; obtain ⟨s8, s9, _, _⟩ := blk2 hC4; have hB4 := below_step hBw2 hBw2.size hg4 (fun q e => by cases e; omega))
            | (at_mapUpdate; refine wp_update rfl (.inl rfl) KeyD Tryz.underlying108 rfl (x := dty v) rfl (v := true) rfl hN4 ?_; intro w5 hN5 hg5 hz5; have hM5 := MapIs_grown hM4 hg5 (fun e => by have e' := Option.some.inj e; omega); have hC5 := grown_own hg5 hC4 (fun e => by have e' := Option.some.inj e; omega); have hR5 := grown_own hg5 hR4 (fun e => by have e' := Option.some.inj e; omega); have hB5 := below_step hB4 hB4.size hg5 (fun q e => by cases e; omega)))
          go_roundw
          case rel => exact ⟨k + 1, mput m (dty v) v.head, mput b (dty v) true, hlt, by go_num, hM5, hN5, by rw [htk'.out]; exact hb2, Nat.le_trans (mput_len _ _ _) (by omega), Nat.le_trans (mput_len _ _ _) (by omega), hR5, hC5, hB5⟩
          case measure => simp [intOf]; omega
    · obtain rfl : k = l.length := by omega
      rw [List.take_length] at hbk
      obtain ⟨c0, c1, _, _⟩ := blk2 hC
      obtain ⟨r0, r1, r2, r3⟩ := blk2 hR
      go_wp2_with fail
      have hs := set2 hR (.map (some (w.heap.size + 1))) (.map (some (w.heap.size + 1 + 1)))
      obtain ⟨z0, z1, _, _⟩ := blk2 hs.1
      refine bodyPost_ret (v := .agg #[.map (some (w.heap.size + 1)), .map (some (w.heap.size + 1 + 1))]) ?_ rfl ⟨m, b, w.heap.size + 1, w.heap.size + 1 + 1, rfl, by omega, by omega, MapIs_grown hM hs.2 (fun e => by have e' := Option.some.inj e; omega), MapIs_grown hN hs.2 (fun e => by have e' := Option.some.inj e; omega), hbk.out, hml, hbl, below_step hB hB.size hs.2 (fun q e => by cases e; exact Nat.le_refl _)⟩
      simp [results, Tryz.results46, go_sem, z0, z1]
end Go.Proofs.YtdocgemfedohdaaGreat
/-! Votes sorted by who it is: the walk of votes.sorted. -/
namespace Go.Proofs.YtdocgemfedohdaaGreat
open Go.RowKit
instance instInhVt : Inhabited Vote := ⟨⟨0, 0, ⟨0, 0⟩⟩⟩
set_option maxHeartbeats 400000 in
theorem isnan_any (a : Int) (w : World) : Calls Tryz.prog 72 #[.int .i64 a] w fun e w' => e = .returned (.bool false) ∧ w' = w := by
  go_enter Tryz.func72, Tryz.ntmps72
  go_wp2
  go_ret
  exact ⟨rfl, rfl⟩
def cmpI (x y : Int) : Int := if x < y then -1 else if y < x then 1 else 0
set_option maxHeartbeats 400000 in
theorem compare_any (a b : Int) (w : World) : Calls Tryz.prog 62 #[.int .i64 a, .int .i64 b] w fun e w' => e = .returned (.int .i64 (cmpI a b)) ∧ w' = w := by
  unfold cmpI
  by_cases h1 : a < b
  · rw [if_pos h1]
    go_enter Tryz.func62, Tryz.ntmps62
    go_wp2_with (go_at_call 72; refine (isnan_any _ _).mono ?_; rintro e w' ⟨rfl, rfl⟩)
    go_ret
    exact ⟨rfl, rfl⟩
  · rw [if_neg h1]
    by_cases h2 : b < a
    · rw [if_pos h2]
      go_enter Tryz.func62, Tryz.ntmps62
      go_wp2_with (go_at_call 72; refine (isnan_any _ _).mono ?_; rintro e w' ⟨rfl, rfl⟩)
      go_ret
      exact ⟨rfl, rfl⟩
    · rw [if_neg h2]
      go_enter Tryz.func62, Tryz.ntmps62
      go_wp2_with (go_at_call 72; refine (isnan_any _ _).mono ?_; rintro e w' ⟨rfl, rfl⟩)
      go_ret
      exact ⟨rfl, rfl⟩
def cmpV (x y : Vote) : Int := cmpI x.frm y.frm
theorem ltV (x y : Vote) : ltOf cmpV x y = decide (x.frm < y.frm) := by
  unfold ltOf cmpV cmpI
  by_cases h1 : x.frm < y.frm
  · simp [h1]
  · by_cases h2 : y.frm < x.frm <;> simp [h1, h2]
theorem swoV : Sort.SWO (ltOf cmpV) where
  irrefl x := by rw [ltV]; simp
  trans x y z h1 h2 := by rw [ltV] at *; simp at *; omega
  ntrans x y z h1 h2 := by rw [ltV] at *; simp at *; omega
set_option maxHeartbeats 1000000 in
theorem cmp_any (x y : Vote) (W : World) : Calls Tryz.prog 61 #[.agg (encVote x).toArray, .agg (encVote y).toArray] W fun e w' => e = .returned (.int .i64 (cmpV x y)) ∧ ∃ q os', w' = Sort.grow (W.drewN q) os' := by
  have hcon := fun W' => compare_any x.frm y.frm W'
  unfold cmpV
  obtain ⟨r, hr⟩ : ∃ r, cmpI x.frm y.frm = r := ⟨_, rfl⟩
  rw [hr] at hcon ⊢
  clear hr
  unfold encVote
  go_enter Tryz.func61, Tryz.ntmps61
  go_wp2_with (go_at_call 62; refine (hcon _).mono ?_; rintro e w' ⟨rfl, rfl⟩)
  go_ret
  exact ⟨rfl, 0, _, by rw [Sort.alloc_eq_grow, Sort.alloc_eq_grow, Sort.grow_grow]; rfl⟩
theorem vsortf_any (l : List Vote) (v : Value) (base : Nat) (w : World) (hown : Own w base 37 4 encVote v l) (hl : l.length < 4611686018427387904) :
    Calls Tryz.prog 60 #[v, .func (.func 61) #[] #[]] w fun e w' => e = .returned (.tuple #[]) ∧ ∃ l', Own w' base 37 4 encVote v l' ∧ l'.Perm l ∧ l'.Pairwise (fun x y => x.frm ≤ y.frm) ∧ w.grownBy w' v.ownBlock := by
  rcases hown.block with ⟨rfl, rfl⟩ | ⟨g, cap, cur, rfl, hb, hh, hle, hm, hs, ht⟩
  · have hcon := AnyF.slices_SortFunc_none sh_sortV none 0 (.func (.func 61) #[] #[]) w
    change Calls Tryz.prog 60 _ _ _ at hcon
    refine hcon.mono fun e w' ⟨he, hw⟩ => ?_
    subst hw
    exact ⟨he, [], Own.nil _ _ _ _ _, List.Perm.refl _, List.Pairwise.nil, rfl, rfl, rfl, Nat.le_refl _, fun _ _ _ => rfl⟩
  · have eg : ∀ args w, (callFunc 61 args).run Tryz.prog w = .ok (.enter 61 args) w := enters_of Tryz.func61 (by kernel_rfl) rfl
    have hcon := AnyQ.slices_SortFunc sh_sortV 4 Tryz.isAgg37 Tryz.sizeOf37 encVote encVote_len (fun x v hv => encVote_one x v hv) cmpV swoV 61 #[] g 0 cap l.toArray w eg (fun _ _ _ _ x y => cmp_any x y _) (Own.holdsK encVote_len (by decide) hh ht) (lt_of_block hh) (by simpa using hl)
    change Calls Tryz.prog 60 _ _ _ at hcon
    refine hcon.mono fun e w' ⟨he, d', n, os, hp, hso, hw⟩ => ?_
    subst hw
    have hsz : d'.size = l.length := by simpa using hp.1
    have ho := Own.relaidK encVote_len (by decide) hb hh hm hs d' (by omega) n os
    rw [hsz] at ho
    refine ⟨he, d'.toList, ho, by simpa using permIn_whole hp, ?_, grownBy_rowK d' n os⟩
    have := sortedIn_pairwise (n := l.toArray.size) (by simpa using hsz) hso
    refine this.imp fun {x y} h => ?_
    rw [ltV] at h
    simp at h
    exact h
set_option maxHeartbeats 1000000 in
theorem sorted_any (l : List Vote) (v : Value) (base : Nat) (w : World) (hown : Own w base 37 4 encVote v l) (hl : l.length < 4611686018427387904) :
    Calls Tryz.prog 47 #[v] w fun e w' => e = .returned v ∧ ∃ l', Own w' base 37 4 encVote v l' ∧ l'.Perm l ∧ l'.Pairwise (fun x y => x.frm ≤ y.frm) ∧ w.grownBy w' v.ownBlock := by
  have hcon := vsortf_any l v base w hown hl
  obtain ⟨A, c, hv, _⟩ := hown.rd encVote_len
  obtain ⟨n, hn⟩ : ∃ n, l.length = n := ⟨_, rfl⟩
  rw [hn] at hv
  subst hv
  have hcon' := Lib.hid hcon
  clear hcon hn hown hl
  go_enter Tryz.func47, Tryz.ntmps47
  go_wp2_with (go_at_call 60; with_reducible refine hcon'.out.mono ?_; rintro e w1 ⟨rfl, h⟩; have h' := Lib.hid h; clear h)
  go_ret
  exact ⟨rfl, h'.out⟩
/-- Sorted by who it is, where nobody is there twice. -/
theorem sortedV_rises {l : List Vote} (h : l.Pairwise (fun x y => x.frm ≤ y.frm)) (hn : (l.map (·.frm)).Nodup) : RisesV l := by
  unfold RisesV
  refine rises_of fun i hi => ?_
  have hi' : i + 1 < l.length := by simpa using hi
  have h1 := List.pairwise_iff_getElem.1 h i (i + 1) (by omega) hi' (by omega)
  have h2 := List.pairwise_iff_getElem.1 hn i (i + 1) (by simpa using Nat.lt_of_succ_lt hi') hi (by omega)
  simp only [List.getElem_map] at h2 ⊢
  omega
end Go.Proofs.YtdocgemfedohdaaGreat
/-! The walks of votes.Doubles and votes.Of. -/
namespace Go.Proofs.YtdocgemfedohdaaGreat
open Go.RowKit
/-- What has been told of the keys that came. -/
def DR (s : Int) (b : List (Dty × Bool)) (came : List Dty) (out : List Int) : Prop :=
  (∀ d ∈ came, d ∈ b.map (·.1)) ∧ came.Nodup ∧ (∀ f, f ∈ out ↔ ∃ d ∈ came, d.slot = s ∧ d.frm = f) ∧ out.Nodup ∧ out.length ≤ came.length
theorem nodup_sub_len {α : Type} [DecidableEq α] : ∀ {l m : List α}, l.Nodup → (∀ x ∈ l, x ∈ m) → l.length ≤ m.length
  | [], _, _, _ => Nat.zero_le _
  | x :: l, m, hn, h => by
    rw [List.nodup_cons] at hn
    have hx := h x (by simp)
    have : l.length ≤ (m.erase x).length := nodup_sub_len hn.2 (fun y hy => (List.mem_erase_of_ne (fun e => hn.1 (by rw [← e]; exact hy))).2 (h y (by simp [hy])))
    rw [List.length_erase_of_mem hx] at this
    have hp : 0 < m.length := List.length_pos_of_mem hx
    simp only [List.length_cons]
    omega
theorem dr_len {s : Int} {b : List (Dty × Bool)} {came : List Dty} {out : List Int} (h : DR s b came out) : out.length ≤ b.length := by
  have := nodup_sub_len h.2.1 h.1
  rw [List.length_map] at this
  exact Nat.le_trans h.2.2.2.2 this
theorem dr_nil (s : Int) (b : List (Dty × Bool)) : DR s b [] [] := ⟨by simp, List.nodup_nil, by simp, List.nodup_nil, Nat.le_refl _⟩
theorem dr_skip {s : Int} {b : List (Dty × Bool)} {came : List Dty} {out : List Int} (h : DR s b came out) {d : Dty} {v : Bool} (hd : (d, v) ∈ b) (hn : d ∉ came) (hs : ¬ d.slot = s) : DR s b (d :: came) out := by
  refine ⟨fun x hx => ?_, List.nodup_cons.2 ⟨hn, h.2.1⟩, fun f => ?_, h.2.2.2.1, Nat.le_succ_of_le h.2.2.2.2⟩
  · rcases List.mem_cons.1 hx with rfl | hx
    · exact List.mem_map_of_mem (f := (·.1)) hd
    · exact h.1 x hx
  · rw [h.2.2.1]
    constructor
    · rintro ⟨x, hx, r⟩; exact ⟨x, by simp [hx], r⟩
    · rintro ⟨x, hx, r⟩
      rcases List.mem_cons.1 hx with rfl | hx
      · exact absurd r.1 hs
      · exact ⟨x, hx, r⟩
theorem dr_take {s : Int} {b : List (Dty × Bool)} {came : List Dty} {out : List Int} (h : DR s b came out) {d : Dty} {v : Bool} (hd : (d, v) ∈ b) (hn : d ∉ came) (hs : d.slot = s) : DR s b (d :: came) (out ++ [d.frm]) := by
  have hno : d.frm ∉ out := fun hf => by
    obtain ⟨x, hx, h1, h2⟩ := (h.2.2.1 _).1 hf
    have : x = d := by obtain ⟨a, b⟩ := x; obtain ⟨a', b'⟩ := d; simp only at h1 h2 hs; rw [h1, h2, hs]
    exact hn (this ▸ hx)
  refine ⟨fun x hx => ?_, List.nodup_cons.2 ⟨hn, h.2.1⟩, fun f => ?_, ?_, by have := h.2.2.2.2; simp; omega⟩
  · rcases List.mem_cons.1 hx with rfl | hx
    · exact List.mem_map_of_mem (f := (·.1)) hd
    · exact h.1 x hx
  · rw [List.mem_append, List.mem_singleton, h.2.2.1]
    constructor
    · rintro (⟨x, hx, r⟩ | rfl)
      · exact ⟨x, by simp [hx], r⟩
      · exact ⟨d, by simp, hs, rfl⟩
    · rintro ⟨x, hx, r⟩
      rcases List.mem_cons.1 hx with rfl | hx
      · exact .inr r.2.symm
      · exact .inl ⟨x, hx, r⟩
  · rw [List.nodup_append]
    refine ⟨h.2.2.2.1, by simp, fun a ha b hb => ?_⟩
    simp only [List.mem_singleton] at hb
    subst hb
    exact fun e => hno (e ▸ ha)
theorem dr_end {l : List Vote} {m : List (Dty × ID)} {s : Int} {b : List (Dty × Bool)} {came : List Dty} {out : List Int} (h : DR s b came out) (hb : Book l m b) (hall : ∀ p ∈ b, p.1 ∈ came) : isort out = dblL l s := by
  refine dblL_eq ⟨isort_rises h.2.2.2.1, fun f => ?_⟩
  rw [mem_isort, h.2.2.1]
  constructor
  · rintro ⟨d, hd, hs, rfl⟩
    obtain ⟨p, hp, rfl⟩ := List.mem_map.1 (h.1 d hd)
    rw [← hs, ← hb.bad]
    unfold mget
    rw [Option.isSome_map, List.find?_isSome]
    exact ⟨p, hp, by simp⟩
  · intro hd
    obtain ⟨x, hx⟩ := Option.isSome_iff_exists.1 ((hb.bad ⟨f, s⟩).2 hd)
    exact ⟨⟨f, s⟩, hall _ (mgot_mem hx), rfl, rfl⟩
theorem dbl_lay (w : World) (o : Obj) (cs : Array Value) (T : TypeId) : Below w.heap.size w ((w.alloc o).alloc (.cells cs T)) ∧ ((w.alloc o).alloc (.cells cs T)).heap[w.heap.size + 1]? = some (.cells cs T (0, 0)) :=
  ⟨((Below.refl _ w).alloc (Nat.le_refl _) _).alloc (by simp) _, ha_at (by simp)⟩
theorem field_book0 (M1 M2 : Nat) (w : World) : (Instr.field 110 (.agg #[.map (some M1), .map (some M2)]) 0).run Tryz.prog w = .ok (.map (some M1)) w := by kernel_rfl
theorem field_book1 (M1 M2 : Nat) (w : World) : (Instr.field 110 (.agg #[.map (some M1), .map (some M2)]) 1).run Tryz.prog w = .ok (.map (some M2)) w := by kernel_rfl
end Go.Proofs.YtdocgemfedohdaaGreat
/-! The walk of votes.Of. -/
namespace Go.Proofs.YtdocgemfedohdaaGreat
open Go.RowKit
/-- What has been told of the duties that came. -/
def OR (s : Int) (m : List (Dty × ID)) (b : List (Dty × Bool)) (came : List Dty) (out : List Vote) : Prop :=
  (∀ d ∈ came, d ∈ m.map (·.1)) ∧ came.Nodup ∧ (∀ v, v ∈ out ↔ dty v ∈ came ∧ v.slot = s ∧ mget m (dty v) = some v.head ∧ mget b (dty v) = none) ∧ (out.map (·.frm)).Nodup ∧ out.length ≤ came.length
theorem or_len {s : Int} {m : List (Dty × ID)} {b : List (Dty × Bool)} {came : List Dty} {out : List Vote} (h : OR s m b came out) : out.length ≤ m.length := by
  have := nodup_sub_len h.2.1 h.1
  rw [List.length_map] at this
  exact Nat.le_trans h.2.2.2.2 this
theorem or_nil (s : Int) (m : List (Dty × ID)) (b : List (Dty × Bool)) : OR s m b [] [] := ⟨by simp, List.nodup_nil, by simp, List.nodup_nil, Nat.le_refl _⟩
theorem or_skip {s : Int} {m : List (Dty × ID)} {b : List (Dty × Bool)} {came : List Dty} {out : List Vote} (h : OR s m b came out) {d : Dty} {i : ID} (hd : (d, i) ∈ m) (hn : d ∉ came) (hs : d.slot = s → mget b d ≠ none) : OR s m b (d :: came) out := by
  refine ⟨fun x hx => ?_, List.nodup_cons.2 ⟨hn, h.2.1⟩, fun v => ?_, h.2.2.2.1, Nat.le_succ_of_le h.2.2.2.2⟩
  · rcases List.mem_cons.1 hx with rfl | hx
    · exact List.mem_map_of_mem (f := (·.1)) hd
    · exact h.1 x hx
  · rw [h.2.2.1, List.mem_cons]
    constructor
    · rintro ⟨h1, r⟩; exact ⟨.inr h1, r⟩
    · rintro ⟨h1 | h1, h2, h3, h4⟩
      · rw [h1] at h4
        exact absurd h4 (hs (by rw [← h1]; exact h2))
      · exact ⟨h1, h2, h3, h4⟩
theorem or_take {s : Int} {m : List (Dty × ID)} {b : List (Dty × Bool)} {came : List Dty} {out : List Vote} (h : OR s m b came out) (hm : (m.map (·.1)).Nodup) {d : Dty} {i : ID} (hd : (d, i) ∈ m) (hn : d ∉ came) (hs : d.slot = s) (hb : mget b d = none) : OR s m b (d :: came) (out ++ [⟨d.frm, s, i⟩]) := by
  have hdd : (⟨d.frm, s⟩ : Dty) = d := by obtain ⟨a, b⟩ := d; simp only at hs; rw [hs]
  have hg := mem_mget hm hd
  refine ⟨fun x hx => ?_, List.nodup_cons.2 ⟨hn, h.2.1⟩, fun v => ?_, ?_, by have := h.2.2.2.2; simp; omega⟩
  · rcases List.mem_cons.1 hx with rfl | hx
    · exact List.mem_map_of_mem (f := (·.1)) hd
    · exact h.1 x hx
  · rw [List.mem_append, List.mem_singleton, h.2.2.1, List.mem_cons]
    constructor
    · rintro (⟨h1, r⟩ | rfl)
      · exact ⟨.inr h1, r⟩
      · refine ⟨.inl hdd, rfl, ?_, ?_⟩
        · show mget m ⟨d.frm, s⟩ = some i; rw [hdd]; exact hg
        · show mget b ⟨d.frm, s⟩ = none; rw [hdd]; exact hb
    · rintro ⟨h1 | h1, h2, h3, h4⟩
      · right
        rw [h1, hg] at h3
        obtain ⟨vf, vs, vh⟩ := v
        simp only [dty] at h1 h2 h3
        cases h3
        subst h1
        cases h2
        rfl
      · exact .inl ⟨h1, h2, h3, h4⟩
  · rw [List.map_append, List.nodup_append]
    refine ⟨h.2.2.2.1, by simp, fun a ha c hc => ?_⟩
    simp only [List.map_cons, List.map_nil, List.mem_singleton] at hc
    subst hc
    intro e
    obtain ⟨v, hv, rfl⟩ := List.mem_map.1 ha
    obtain ⟨h1, h2, _⟩ := (h.2.2.1 v).1 hv
    have : dty v = d := by rw [← hdd]; unfold dty; rw [e, h2]
    exact hn (this ▸ h1)
theorem or_end {l : List Vote} {s : Int} {m : List (Dty × ID)} {b : List (Dty × Bool)} {came : List Dty} {out o : List Vote} (h : OR s m b came out) (hb : Book l m b) (hall : ∀ p ∈ m, p.1 ∈ came) (hp : o.Perm out) (hs : o.Pairwise (fun x y => x.frm ≤ y.frm)) : o = ofL l s := by
  refine ofL_eq ⟨sortedV_rises hs ((hp.map _).nodup_iff.2 h.2.2.2.1), fun v => ?_⟩
  rw [hp.mem_iff, h.2.2.1]
  have hbad : mget b (dty v) = none ↔ ¬ Dbl l v.slot v.frm := by
    have := hb.bad (dty v)
    rw [show (dty v).slot = v.slot from rfl, show (dty v).frm = v.frm from rfl] at this
    rw [← this]
    cases mget b (dty v) <;> simp
  unfold InOf
  constructor
  · rintro ⟨_, h2, h3, h4⟩
    refine ⟨?_, h2, by rw [← h2]; exact hbad.1 h4⟩
    have := hb.there _ _ h3
    exact this
  · rintro ⟨h1, h2, h3⟩
    obtain ⟨i, hi⟩ := Option.isSome_iff_exists.1 (hb.all v h1)
    have hv := hb.there _ _ hi
    have he : i = v.head := by
      have := dbl_one hv h1 rfl rfl (by show ¬ Dbl l v.slot v.frm; rw [h2]; exact h3)
      exact congrArg Vote.head this
    exact ⟨hall _ (mgot_mem hi), h2, by rw [hi, he], hbad.2 (by rw [h2]; exact h3)⟩
theorem al_size (w : World) (o : Obj) : (w.alloc o).heap.size = w.heap.size + 1 := by simp
theorem of_lay (w : World) (o1 o2 : Obj) (cs : Array Value) (T : TypeId) : Below w.heap.size w (((w.alloc o1).alloc o2).alloc (.cells cs T)) ∧ (((w.alloc o1).alloc o2).alloc (.cells cs T)).heap[w.heap.size + 1 + 1]? = some (.cells cs T (0, 0)) ∧ Below w.heap.size w ((w.alloc o1).alloc o2) ∧ Below ((w.alloc o1).alloc o2).heap.size ((w.alloc o1).alloc o2) (((w.alloc o1).alloc o2).alloc (.cells cs T)) :=
  ⟨(((Below.refl _ w).alloc (Nat.le_refl _) _).alloc (by simp) _).alloc (by simp; omega) _, ha_at (by simp), ((Below.refl _ w).alloc (Nat.le_refl _) _).alloc (by simp) _, (Below.refl _ _).alloc (Nat.le_refl _) _⟩
theorem lookup_bad {w : World} {M : Nat} {b : List (Dty × Bool)} (hM : MapIs dtyv Value.bool w M b) (d : Dty) {q : Bool} (hg : (mget b d).getD false = q) :
    (Instr.lookup 108 (.map (some M)) (.agg #[.int .i64 d.frm, .int .i64 d.slot]) false).run Tryz.prog w = .ok (.bool q) w := by
  have h := lookup_run KeyD Tryz.underlying108 (Tryz.zeroValue4 _) hM d false
  unfold dtyv at h
  rw [h, ← hg]
  cases mget b d <;> rfl
set_option maxRecDepth 100000 in
set_option maxHeartbeats 4000000 in
theorem vof_any (l : List Vote) (s : Int) (A : Option Addr) (c : Nat) (w : World) (hr : Rd 4 encVote w A l) (hl : l.length ≤ 100000) :
    Calls Tryz.prog 30 #[.slice A l.length c, .int .i64 s] w fun e w' => ∃ u, e = .returned u ∧ Own w' w.heap.size 37 4 encVote u (ofL l s) ∧ Below w.heap.size w w' := by
  have hm := hr.1
  have hun := Tryz.underlying35
  have hbook := book_any l A c w hr
  go_enter Tryz.func30, Tryz.ntmps30
  go_wp2_with (first
    | (go_at_call 46; (with_reducible refine hbook.mono ?_); clear hbook; rintro e w1 ⟨m, b, M1, M2, rfl, hM1, hM2, hm1, hm2, hbk, hml, hbl, hB1⟩; have hbk' := Lib.hid hbk; clear hbk; have hma := MapIs_alloc hm1 (.cells #[.map (some M1), .map (some M2)] 110); have hmb := MapIs_alloc hm2 (.cells #[.map (some M1), .map (some M2)] 110); have hka : (w1.alloc (.cells #[.map (some M1), .map (some M2)] 110)).heap[w1.heap.size]? = some (.cells #[.map (some M1), .map (some M2)] 110 (0, 0)) := ha_at rfl)
    | (at_range; refine wp_range rfl rfl Tryz.underlying107 rfl hma (r := w1.heap.size + 1) (by simp) ?_; intro w2 hR hB2 hz2))
  go_frame
  have hNd : (m.map (·.1)).Nodup := by obtain ⟨_, _, _, _, _, _, h⟩ := hm1; exact h
  have hNd' := Lib.hid hNd
  have hB := below_call (hB1.alloc hB1.size (.cells #[.map (some M1), .map (some M2)] 110)) (by simp; have := hB1.size; omega) hB2
  have hmb2 := MapIs_below hmb hB2
  have hka2 := bl_own hB2 hka
  have hlr := hB1.size
  have hMr := MapIs_lt hm2
  clear hNd hma hmb hka hm1 hm2 hB2
  go_loopw [5, 7, 8] (fun u _u7 _u8 wr => ∃ (came : List Dty) (out : List Vote), RIs dtyv idv wr M1 (w1.heap.size + 1) m came ∧ MapIs dtyv Value.bool wr M2 b ∧ wr.heap[w1.heap.size]? = some (.cells #[.map (some M1), .map (some M2)] 110 (0, 0)) ∧ Own wr w.heap.size 37 4 encVote u out ∧ u.ownBlock ≠ some (w1.heap.size + 1) ∧ u.ownBlock ≠ some w1.heap.size ∧ Hid (OR s m b came out) ∧ Below w.heap.size w wr) (fun _ _ _ wr => wr.rangeLeft M1 (w1.heap.size + 1))
  case atStart => exact ⟨[], [], hR, hmb2, hka2, Own.nil _ _ _ _ _, by simp [Value.ownBlock], by simp [Value.ownBlock], Lib.hid (or_nil s m b), hB⟩
  case round =>
    obtain ⟨came, out, hR, hN, hK, hown, hob, hob2, hor, hB⟩ := hrel
    have hvb : ∀ j, u5.ownBlock = some j → w.heap.size ≤ j := fun j hj => (hown.base j hj).1
    have hol := or_len hor.out
    have hend := Lib.hid (fun hall o hp hs => or_end (o := o) hor.out hbk'.out hall hp hs)
    have hs1 := sorted_any out u5 w.heap.size wr hown (by omega)
    go_wp2_with (first
      | (at_next; refine wp_next rfl rfl rfl hR ?_ ?_; intro hall; rotate_left; intro d v w3 hcm hen; unfold dtyv idv at hen; have ho3 := hown.grown hcm.grown (.inr hob); have hN3 := MapIs_grown hN hcm.grown (fun e => by have e' := Option.some.inj e; omega); have hK3 := grown_own hcm.grown hK (fun e => by have e' := Option.some.inj e; omega); have hB3 := below_step hB hB.size hcm.grown (fun q e => by cases e; omega); obtain ⟨hy1, hy2, hy3, hy4⟩ := of_lay w3 (.cells #[.int .i64 d.frm, .int .i64 d.slot] 113) (.cells #[.int .u64 v.hi, .int .u64 v.lo] 28) #[.int .i64 d.frm, .int .i64 s, .int .u64 v.hi, .int .u64 v.lo] 37; have ho5 := ho3.below hy1; have hB5 := below_call hB3 hB3.size hy1; have hr5 := hcm.ris.below hy1; have hN4 := MapIs_below hN3 hy3; obtain ⟨k0, k1, _, _⟩ := blk2 (bl_own hy3 hK3); have heq := eql_dtyw d ⟨d.frm, s⟩; obtain ⟨q, hq⟩ : ∃ q, decide (d = (⟨d.frm, s⟩ : Dty)) = q := ⟨_, rfl⟩; rw [hq] at heq; have hq' := Lib.hid hq; clear hq; have hbv : mget b d = none ∨ mget b d = some true := (by cases hg : mget b d with | none => exact .inl rfl | some x => rw [hbk'.out.yes d x hg]; exact .inr rfl); have hlk0 := fun h => lookup_bad (q := false) hN4 d h; have hlk1 := fun h => lookup_bad (q := true) hN4 d h; rcases hbv with hg | hg; (have hlk := hlk0 (by rw [hg]; rfl); clear hlk0 hlk1; cases q); rotate_left; rotate_left; (have hlk := hlk1 (by rw [hg]; rfl); clear hlk0 hlk1; cases q); rotate_left; rotate_left)
      | (go_at_call 47; (with_reducible refine hs1.mono ?_); clear hs1; rintro e w3 ⟨rfl, o, ho3, hp, hso, hg3⟩; have hp' := Lib.hid (And.intro hp hso); clear hp hso)
      | (at_builtin; refine wp_append1 rfl rfl hun infoV rfl (by decide) encVote_len encVote_one rfl ho5 (g := w3.heap.size + 1 + 1) (c := 1) rfl (y := ⟨d.frm, s, v⟩) hy2 rfl (by omega) (by unfold maxLen; omega) hB5.size ?_; intro v' w5 ho6 hg6 hat6))
    · go_ret
      exact ⟨_, rfl, by rw [← hend.out hall.out o hp'.out.1 hp'.out.2]; exact ho3, below_step hB hB.size hg3 hvb⟩
    · go_roundw
      case rel => exact ⟨d :: came, out, (hcm.ris.below hy3).1, hN4, bl_own hy3 hK3, ho3.below hy3, hob, hob2, Lib.hid (or_skip hor.out hcm.mem hcm.fresh (fun hs => absurd (show d = ⟨d.frm, s⟩ by rw [← hs]) (of_decide_eq_false hq'.out))), below_call hB3 hB3.size hy3⟩
      case measure => rw [(hcm.ris.below hy3).2]; exact hcm.less
    · have hs : d.slot = s := by
        have h := of_decide_eq_true hq'.out
        exact congrArg Dty.slot h
      have hne : some (w1.heap.size + 1) ≠ u5.ownBlock := fun e => hob e.symm
      have hne2 : some w1.heap.size ≠ u5.ownBlock := fun e => hob2 e.symm
      have hrl := hcm.ris.lt
      have hys := hy1.size
      have hob' : v'.ownBlock ≠ some (w1.heap.size + 1) := by
        rcases hat6 with h | h
        · rw [h]; exact hob
        · rw [h]; intro e; have e' := Option.some.inj e; omega
      have hob2' : v'.ownBlock ≠ some w1.heap.size := by
        rcases hat6 with h | h
        · rw [h]; exact hob2
        · rw [h]; intro e; have e' := Option.some.inj e; omega
      have hN5 := MapIs_below hN3 hy1
      have hr6 := hr5.1.grown hg6 (fun e => own_ne_map ho5 hr5.1.map e.symm) hne
      go_roundw
      case rel => exact ⟨d :: came, out ++ [⟨d.frm, s, v⟩], hr6.1, MapIs_grown hN5 hg6 (fun e => own_ne_map ho5 hN5 e.symm), grown_own hg6 (bl_own hy1 hK3) hne2, ho6, hob', hob2', Lib.hid (or_take hor.out hNd'.out hcm.mem hcm.fresh hs hg), below_step hB5 hB5.size hg6 hvb⟩
      case measure => rw [hr6.2, hr5.2]; exact hcm.less
    · go_roundw
      case rel => exact ⟨d :: came, out, (hcm.ris.below hy3).1, hN4, bl_own hy3 hK3, ho3.below hy3, hob, hob2, Lib.hid (or_skip hor.out hcm.mem hcm.fresh (fun _ => by rw [hg]; simp)), below_call hB3 hB3.size hy3⟩
      case measure => rw [(hcm.ris.below hy3).2]; exact hcm.less
    · go_roundw
      case rel => exact ⟨d :: came, out, (hcm.ris.below hy3).1, hN4, bl_own hy3 hK3, ho3.below hy3, hob, hob2, Lib.hid (or_skip hor.out hcm.mem hcm.fresh (fun _ => by rw [hg]; simp)), below_call hB3 hB3.size hy3⟩
      case measure => rw [(hcm.ris.below hy3).2]; exact hcm.less
end Go.Proofs.YtdocgemfedohdaaGreat
