/- GF: several texts in one. -/
import Derived.Test.YtaohkcdfjjiggaaGreatGE
import Derived.Test.YtaohkcdfjjiggaaGreatGA
import Derived.Test.YtaohkcdfjjiggaaGreatGC
/-! The walk of ghost.rank's above. -/
namespace Go.Proofs.YtaohkcdfjjiggaaGreat
open Go.RowKit
def rankv (n : Int) (x : ID) : Value := .agg #[.int .i64 n, .int .u64 x.hi, .int .u64 x.lo]
theorem eqlIn_rank (d : Nat) (m n : Int) (x y : ID) (w : World) : (Op.equalIn (d + 3) 115 (rankv m x) (rankv n y)).run Tryz.prog w = .ok (decide (m = n ∧ x = y)) w := by
  have u := Tryz.underlying115
  have hid := fun (a b c e : Int) w => show (Op.equalIn (d + 2) 35 (.agg #[.int .u64 a, .int .u64 b]) (.agg #[.int .u64 c, .int .u64 e])).run Tryz.prog w = .ok (decide ((⟨a, b⟩ : ID) = ⟨c, e⟩)) w from eqlIn_id d ⟨a, b⟩ ⟨c, e⟩ w
  have z := Tryz.sizeOf3
  have z2 := Tryz.sizeOf35
  have u3 := Tryz.underlying3
  have g := Tryz.isAgg35
  unfold rankv
  rw [run_equalIn_struct _ _ _ _ _ (by kernel_rfl) (by kernel_rfl)]
  simp only [Program.fieldsOf, u]
  obtain ⟨x1, x2⟩ := x
  obtain ⟨y1, y2⟩ := y
  by_cases h1 : m = n <;> by_cases h2 : x1 = y1 <;> by_cases h3 : x2 = y2 <;> simp [Op.eqFields, part, z, z2, g, hid, run_equalIn_int _ _ _ _ _ _ _ u3, h1, h2, h3]
theorem neq_rankw (m n : Int) (x y : ID) (w : World) : (binOp .neq 115 (.agg #[.int .i64 m, .int .u64 x.hi, .int .u64 x.lo]) (.agg #[.int .i64 n, .int .u64 y.hi, .int .u64 y.lo])).run Tryz.prog w = .ok (.bool (!decide (m = n ∧ x = y))) w := by
  have h := eqlIn_rank 9997 m n x y w
  unfold rankv at h
  rw [run_neq_struct, h]
  rfl
def aboveB (m n : Int) (x y : ID) : Bool := decide (n < m) || decide (m = n) && idLess y x
theorem idl_irr (x : ID) : idLess x x = false := by unfold idLess; simp
set_option maxRecDepth 100000 in
set_option maxHeartbeats 1000000 in
theorem above_any (m n : Int) (x y : ID) (w : World) : Calls Tryz.prog 87 #[rankv m x, rankv n y] w fun e w' => e = .returned (.bool (aboveB m n x y)) ∧ Below w.heap.size w w' := by
  have hless := fun V => mless_any y x V
  have hnq := neq_rankw m n x y
  unfold rankv idv at *
  have hW : ∃ W, (w.alloc (.cells #[.int .i64 m, .int .u64 x.hi, .int .u64 x.lo] 115)).alloc (.cells #[.int .i64 n, .int .u64 y.hi, .int .u64 y.lo] 115) = W := ⟨_, rfl⟩
  obtain ⟨W, hW⟩ := hW
  have hB : Below w.heap.size w W := by subst hW; exact ((Below.refl _ w).alloc (Nat.le_refl _) _).alloc (by simp) _
  have b0 : W.heap[w.heap.size]? = some (.cells #[.int .i64 m, .int .u64 x.hi, .int .u64 x.lo] 115 (0, 0)) := by subst hW; exact ha_lt (ha_at rfl)
  have b1 : W.heap[w.heap.size + 1]? = some (.cells #[.int .i64 n, .int .u64 y.hi, .int .u64 y.lo] 115 (0, 0)) := by subst hW; exact ha_at (by simp)
  have c0 := blk_cell b0 0
  have c1 := blk_cell b0 1
  have c2 := blk_cell b0 2
  have d0 := blk_cell b1 0
  have d1 := blk_cell b1 1
  have d2 := blk_cell b1 2
  by_cases hmn : m = n
  · subst hmn
    have hres : aboveB m m x y = idLess y x := by simp [aboveB]
    by_cases hxy : x = y
    · have hd : decide (m = m ∧ x = y) = true := by simp [hxy]
      rw [hd] at hnq
      have hres' := Lib.hid (show aboveB m m x y = false by rw [hres, hxy, idl_irr])
      clear hres hxy hd
      go_enter Tryz.func87, Tryz.ntmps87
      go_wp2_with fail
      go_ret
      exact ⟨ret_bool hres'.out.symm, hB⟩
    · have hd : decide (m = m ∧ x = y) = false := by simp [hxy]
      rw [hd] at hnq
      have hres' := Lib.hid hres
      clear hres hxy hd
      obtain ⟨q, hq⟩ : ∃ q, idLess y x = q := ⟨_, rfl⟩
      rw [hq] at hless hres'
      clear hq
      go_enter Tryz.func87, Tryz.ntmps87
      go_wp2_with (go_at_call 120; (with_reducible refine (hless _).mono ?_); clear hless; rintro e w1 ⟨rfl, hb1⟩; have hB1 := below_call hB hB.size hb1)
      go_ret
      exact ⟨ret_bool hres'.out.symm, hB1⟩
  · have hd : (m != n) = true := by simpa using hmn
    have hres := Lib.hid (show aboveB m n x y = decide (n < m) by simp [aboveB, hmn])
    clear hmn
    go_enter Tryz.func87, Tryz.ntmps87
    go_wp2_with fail
    go_ret
    exact ⟨ret_bool hres.out.symm, hB⟩
end Go.Proofs.YtaohkcdfjjiggaaGreat
/-! The walk of ghost.Best. -/
namespace Go.Proofs.YtaohkcdfjjiggaaGreat
open Go.RowKit
/-- The best of some, and what is on it; -1: there is none. -/
def bestR (f : ID → Int) : List ID → Int × ID
  | [] => (-1, zid)
  | k :: ks => (f (ks.foldl (pick f) k), ks.foldl (pick f) k)
theorem bestR_snoc {f : ID → Int} {ks : List ID} {x : ID} (hx : 0 ≤ f x) : bestR f (ks ++ [x]) = if aboveB (f x) (bestR f ks).1 x (bestR f ks).2 then (f x, x) else bestR f ks := by
  cases ks with
  | nil =>
    have : aboveB (f x) (-1) x zid = true := by
      unfold aboveB
      have : decide ((-1 : Int) < f x) = true := by simp; omega
      rw [this]; rfl
    simp only [List.nil_append, bestR, List.foldl_nil, this, if_true]
  | cons k ks =>
    simp only [List.cons_append, bestR, List.foldl_append, List.foldl_cons, List.foldl_nil]
    show (f (pick f (ks.foldl (pick f) k) x), pick f (ks.foldl (pick f) k) x) = if beats f (ks.foldl (pick f) k) x = true then (f x, x) else (f (ks.foldl (pick f) k), ks.foldl (pick f) k)
    unfold pick
    split <;> rfl
theorem bestR_low {f : ID → Int} (hf : ∀ x, 0 ≤ f x) (ks : List ID) : (0 ≤ (bestR f ks).1) = (ks ≠ []) := by
  cases ks with
  | nil => simp [bestR]
  | cons k ks => simp [bestR, hf]
theorem bestR_bd {f : ID → Int} (hf : ∀ x, 0 ≤ f x ∧ f x ≤ 13194139533312) (ks : List ID) : -1 ≤ (bestR f ks).1 ∧ (bestR f ks).1 ≤ 13194139533312 := by
  cases ks with
  | nil => simp [bestR]
  | cons k ks =>
    have := hf (ks.foldl (pick f) k)
    simp only [bestR]; omega
theorem blk3 {w : World} {b : Nat} {x0 x1 x2 : Value} {T : TypeId} (h : w.heap[b]? = some (.cells #[x0, x1, x2] T (0, 0))) : w.cell? ⟨b, 0, none⟩ = some x0 ∧ w.cell? ⟨b, 1, none⟩ = some x1 ∧ w.cell? ⟨b, 2, none⟩ = some x2 ∧ w.frozen? ⟨b, 0, none⟩ = false ∧ w.frozen? ⟨b, 1, none⟩ = false ∧ w.frozen? ⟨b, 2, none⟩ = false :=
  ⟨blk_cell h 0, blk_cell h 1, blk_cell h 2, blk_free h 0, blk_free h 1, blk_free h 2⟩
theorem set3 {w : World} {b : Nat} {x y z : Value} {T : TypeId} (h : w.heap[b]? = some (.cells #[x, y, z] T (0, 0))) (u v t : Value) :
    (((w.setCell ⟨b, 0, none⟩ u).setCell ⟨b, 1, none⟩ v).setCell ⟨b, 2, none⟩ t).heap[b]? = some (.cells #[u, v, t] T (0, 0)) ∧ w.grownBy (((w.setCell ⟨b, 0, none⟩ u).setCell ⟨b, 1, none⟩ v).setCell ⟨b, 2, none⟩ t) (some b) := by
  refine ⟨?_, grown_trans (grown_trans (grown_set _ _ _) (grown_set _ _ _)) (grown_set _ _ _)⟩
  rw [heap_setCell_same _ _ _ _ _ _ (heap_setCell_same _ _ _ _ _ _ (heap_setCell_same _ _ _ _ _ _ h))]
  rfl
set_option maxRecDepth 100000 in
set_option maxHeartbeats 4000000 in
theorem gbest_any (c : Cfg) (l : List Blk) (vs : List Vote) (id : ID) (A A2 A3 : Option Addr) (k k2 k3 : Nat) (w : World) (hr : Rd 1 encI w A c.W) (hr2 : Rd 5 encBlk w A2 l) (hr3 : Rd 4 encVote w A3 vs) (hl : l.length ≤ 100000) (hvl : vs.length ≤ 100000) :
    Calls Tryz.prog 51 #[cfgv A k c, .slice A2 l.length k2, .slice A3 vs.length k3, idv id] w fun e w' => e = .returned (.tuple #[idv (bestR (onC c l vs) (kids l id)).2, .bool (decide (0 ≤ (bestR (onC c l vs) (kids l id)).1))]) ∧ Below w.heap.size w w' := by
  have hm := hr.1
  have hm2 := hr2.1
  have hm3 := hr3.1
  have hki := fun V (hV : Below w.heap.size w V) => kids_any l id A2 k2 V (hr2.below hV) hl
  have hon := Lib.hid (fun V (hV : Below w.heap.size w V) (x : ID) => on_any c l vs x A A2 A3 k k2 k3 V (hr.below hV) (hr2.below hV) (hr3.below hV) hl hvl)
  have hab := fun m n x y V => above_any m n x y V
  have hcb : ∀ x, 0 ≤ onC c l vs x ∧ onC c l vs x ≤ 13194139533312 := fun x => weightC_bd c _
  have hkl : (kids l id).length ≤ 100000 := by
    unfold kids
    split
    · have := kidsOf_len l id; omega
    · simp
  obtain ⟨ks, hks⟩ : ∃ ks, kids l id = ks := ⟨_, rfl⟩
  obtain ⟨f, hf⟩ : ∃ f, onC c l vs = f := ⟨_, rfl⟩
  rw [hks] at hki hkl ⊢
  rw [hf] at hon hcb ⊢
  clear hks hf
  have hcb' := Lib.hid hcb
  have hbb' := Lib.hid (bestR_bd hcb)
  clear hcb
  unfold cfgv idv at *
  have hW : ∃ W, ((w.alloc (.cells #[.slice A c.W.length k, .int .u64 c.seed, .int .i64 c.epoch, .int .i64 c.num, .int .i64 c.den] 25)).alloc (.cells #[.int .u64 id.hi, .int .u64 id.lo] 35)).alloc (.cells #[.int .u64 0, .int .u64 0] 35) = W := ⟨_, rfl⟩
  obtain ⟨W, hW⟩ := hW
  have hB : Below w.heap.size w W := by subst hW; exact (((Below.refl _ w).alloc (Nat.le_refl _) _).alloc (by simp) _).alloc (by simp <;> omega) _
  have b0 : W.heap[w.heap.size]? = some (.cells #[.slice A c.W.length k, .int .u64 c.seed, .int .i64 c.epoch, .int .i64 c.num, .int .i64 c.den] 25 (0, 0)) := by subst hW; exact ha_lt (ha_lt (ha_at rfl))
  have b1 : W.heap[w.heap.size + 1]? = some (.cells #[.int .u64 id.hi, .int .u64 id.lo] 35 (0, 0)) := by subst hW; exact ha_lt (ha_at (by simp))
  have b2 : W.heap[w.heap.size + 1 + 1]? = some (.cells #[.int .u64 0, .int .u64 0] 35 (0, 0)) := by subst hW; exact ha_at (by simp)
  have hsz : W.heap.size = w.heap.size + 1 + 1 + 1 := by subst hW; simp
  have hl0 : Below W.heap.size W (W.alloc (.cells #[.int .i64 (-1), .int .u64 0, .int .u64 0] 115)) := (Below.refl _ W).alloc (Nat.le_refl _) _
  have b3 : (W.alloc (.cells #[.int .i64 (-1), .int .u64 0, .int .u64 0] 115)).heap[w.heap.size + 1 + 1 + 1]? = some (.cells #[.int .i64 (-1), .int .u64 0, .int .u64 0] 115 (0, 0)) := ha_at hsz.symm
  have b0' := bl_own hl0 b0
  have b1' := bl_own hl0 b1
  have b2' := bl_own hl0 b2
  have hB0 := below_call hB hB.size hl0
  obtain ⟨p1, p2, _, _⟩ := blk2 b1'
  clear b0 b1 b2 hB hl0
  go_enter Tryz.func51, Tryz.ntmps51
  go_wp2_with (go_at_call 86; (with_reducible refine (hki _ hB0).mono ?_); clear hki; rintro e w1 ⟨v, rfl, ho, hb1⟩; have hB1 := below_call hB0 hB0.size hb1; obtain ⟨A4, k4, hv, hR⟩ := ho.rd encID_len; subst hv; have q0 := bl_own hb1 b0'; have q1 := bl_own hb1 b1'; have q2 := bl_own hb1 b2'; have q3 := bl_own hb1 b3)
  have hs1 : w.heap.size + 1 + 1 + 1 + 1 ≤ w1.heap.size := lt_of_block q3
  have hA4 : ∀ a, A4 = some a → w.heap.size + 1 + 1 + 1 < a.block := fun a e => by
    have := (ho.base a.block (by subst e; rfl)).1
    have e2 : (W.alloc (.cells #[.int .i64 (-1), .int .u64 0, .int .u64 0] 115)).heap.size = W.heap.size + 1 := by simp
    omega
  clear b0' b1' b2' b3 p1 p2 hb1 hW ho hB0
  go_loopw [12, 13, 19] (fun _v12 _v13 i wr => ∃ j : Nat, j ≤ ks.length ∧ i = .int .i64 j ∧ wr.heap[w.heap.size + 1 + 1 + 1]? = some (.cells #[.int .i64 (bestR f (ks.take j)).1, .int .u64 (bestR f (ks.take j)).2.hi, .int .u64 (bestR f (ks.take j)).2.lo] 115 (0, 0)) ∧ w1.grownBy wr (some (w.heap.size + 1 + 1 + 1))) (fun _ _ i _ => ks.length - (intOf i).toNat)
  case atStart => exact ⟨0, Nat.zero_le _, rfl, q3, grown_below (Below.refl _ _) _⟩
  case round =>
    obtain ⟨j, hj, rfl, hbx, hG⟩ := hrel
    have hBr := below_step hB1 hB1.size hG (fun k e => by cases e; omega)
    have x0 := grown_own hG q0 (by simp; omega)
    have x2 := grown_own hG q2 (by simp)
    have hRr := hR.grown hG (fun a e => by have := hA4 a e; simp; omega)
    by_cases hlt : j < ks.length
    · have hsn : bestR f (ks.take (j + 1)) = if aboveB (f ks[j]) (bestR f (ks.take j)).1 ks[j] (bestR f (ks.take j)).2 then (f ks[j], ks[j]) else bestR f (ks.take j) := by
        rw [← List.take_append_getElem hlt]
        exact bestR_snoc (hcb'.out _).1
      obtain ⟨b', o, rfl, hbo, d0, d1⟩ := hRr.atID hlt
      have hfx := hcb'.out ks[j]
      have hbb := hbb'.out (ks.take j)
      have honx := fun V hV => hon.out V hV ks[j]
      obtain ⟨x, hx⟩ : ∃ x, ks[j] = x := ⟨_, rfl⟩
      rw [hx] at hsn d0 d1 hfx honx
      obtain ⟨n, hn⟩ : ∃ n, f x = n := ⟨_, rfl⟩
      rw [hn] at hsn hfx
      simp only [hn] at honx
      obtain ⟨bn, hbn⟩ : ∃ bn, (bestR f (ks.take j)).1 = bn := ⟨_, rfl⟩
      obtain ⟨bi, hbi⟩ : ∃ bi, (bestR f (ks.take j)).2 = bi := ⟨_, rfl⟩
      have hpr : bestR f (ks.take j) = (bn, bi) := by rw [← hbn, ← hbi]
      rw [hbn, hbi] at hsn hbx
      rw [hbn] at hbb
      rw [hpr] at hsn
      have habx := fun V => hab n bn x bi V
      unfold rankv at habx
      clear hx hn hbn hbi hpr
      have hl2 : Below wr.heap.size wr (wr.alloc (.cells #[.int .u64 x.hi, .int .u64 x.lo] 35)) := (Below.refl _ wr).alloc (Nat.le_refl _) _
      have z0 := bl_own hl2 x0
      have z3 := bl_own hl2 hbx
      have zk : (wr.alloc (.cells #[.int .u64 x.hi, .int .u64 x.lo] 35)).heap[wr.heap.size]? = some (.cells #[.int .u64 x.hi, .int .u64 x.lo] 35 (0, 0)) := ha_at rfl
      have hB2 := below_call hBr hBr.size hl2
      have hG2 := grown_trans hG (grown_below hl2 _)
      go_wp2_with fail
      generalize wr.alloc (.cells #[.int .u64 x.hi, .int .u64 x.lo] 35) = w2 at hl2 z0 z3 zk hB2 hG2 ⊢
      obtain ⟨c0, c1, c2, c3, c4⟩ := blk5 z0
      obtain ⟨e0, e1, _, _⟩ := blk2 zk
      clear d0 d1
      have hon1 := fun V (hV : Below w2.heap.size w2 V) => honx V (hB2.trans (hV.mono hB2.size))
      clear honx
      go_region_held3 (fun W' => W'.cell? ⟨w.heap.size, 0, none⟩ = some (.slice A c.W.length k) ∧ W'.cell? ⟨w.heap.size, 1, none⟩ = some (.int .u64 c.seed) ∧ W'.cell? ⟨w.heap.size, 2, none⟩ = some (.int .i64 c.epoch) ∧ W'.cell? ⟨w.heap.size, 3, none⟩ = some (.int .i64 c.num) ∧ W'.cell? ⟨w.heap.size, 4, none⟩ = some (.int .i64 c.den) ∧ W'.cell? ⟨wr.heap.size, 0, none⟩ = some (.int .u64 x.hi) ∧ W'.cell? ⟨wr.heap.size, 1, none⟩ = some (.int .u64 x.lo))
        (first | exact ⟨c0, c1, c2, c3, c4, e0, e1⟩ | exact ⟨f0, f1, f2, f3, f4, f5, f6⟩ | exact ⟨s0, s1, s2, s3, s4, s5, s6⟩ | exact ⟨(blk5 (ha_lt z0)).1, (blk5 (ha_lt z0)).2.1, (blk5 (ha_lt z0)).2.2.1, (blk5 (ha_lt z0)).2.2.2.1, (blk5 (ha_lt z0)).2.2.2.2, (blk2 (ha_lt zk)).1, (blk2 (ha_lt zk)).2.1⟩ | go_keep) ((first
        | (go_at_call 30; refine (hon1 _ (Below.refl _ w2).drew).mono ?_; rintro e w3 ⟨rfl, hb3⟩; obtain ⟨f0, f1, f2, f3, f4⟩ := blk5 (bl_own hb3 z0); obtain ⟨f5, f6, _, _⟩ := blk2 (bl_own hb3 zk))
        | (go_at_call 30; refine (hon1 _ (((Below.refl _ w2).alloc (Nat.le_refl _) _).drew)).mono ?_; rintro e w3 ⟨rfl, hb3⟩; obtain ⟨f0, f1, f2, f3, f4⟩ := blk5 (bl_own hb3 (ha_lt z0)); obtain ⟨f5, f6, _, _⟩ := blk2 (bl_own hb3 (ha_lt zk)); have hz3 := bl_own hb3 (ha_at (w := w2) (o := .cells #[.int .i64 0, .int .u64 0, .int .u64 0] 115) (k := w2.heap.size) rfl); obtain ⟨i0, i1, i2, j0, j1, j2⟩ := blk3 hz3; have hset := set3 hz3 (.int .i64 n) (.int .u64 x.hi) (.int .u64 x.lo); have hsz2 := lt_of_block z0; have hsk2 := lt_of_block zk; obtain ⟨s0, s1, s2, s3, s4⟩ := blk5 (grown_own hset.2 (bl_own hb3 (ha_lt z0)) (by simp; omega)); obtain ⟨s5, s6, _, _⟩ := blk2 (grown_own hset.2 (bl_own hb3 (ha_lt zk)) (by simp; omega)))))
      · have hfin : Below w2.heap.size w2 (w3.alloc (.cells #[.int .i64 n, .int .u64 x.hi, .int .u64 x.lo] 115)) ∧ (w3.alloc (.cells #[.int .i64 n, .int .u64 x.hi, .int .u64 x.lo] 115)).heap[w3.heap.size]? = some (.cells #[.int .i64 n, .int .u64 x.hi, .int .u64 x.lo] 115 (0, 0)) := ⟨below_call (below_call (Below.refl _ w2).drew (Nat.le_refl _) hb3) hb3.size ((Below.refl _ w3).alloc (Nat.le_refl _) _), ha_at rfl⟩
        have hgne : w.heap.size + 1 + 1 + 1 ≠ w3.heap.size := by have := lt_of_block (bl_own hb3 z3); omega
        have hn3 : True := trivial
        generalize w3.alloc (.cells #[.int .i64 n, .int .u64 x.hi, .int .u64 x.lo] 115) = w4 at hfin ⊢
        generalize w3.heap.size = g at hfin hgne ⊢
        clear hb3 f0 f1 f2 f3 f4 f5 f6
        obtain ⟨hg, vx⟩ := hfin
        have v3 := bl_own hg z3
        have hne : (w.heap.size + 1 + 1 + 1) ≠ g := hgne
        obtain ⟨u0, u1, u2, _⟩ := blk3 v3
        obtain ⟨t0, t1, t2, _⟩ := blk3 vx
        have hG4 := grown_trans hG2 (grown_below hg _)
        clear hn3
        obtain ⟨r, hrr⟩ : ∃ r, aboveB n bn x bi = r := ⟨_, rfl⟩
        rw [hrr] at hsn habx
        clear hrr
        cases r with
        | true =>
          have hsn' := Lib.hid (hsn.trans (if_pos rfl))
          clear hsn
          go_wp2_with (go_at_call 87; (with_reducible refine (habx _).mono ?_); clear habx; rintro e w5 ⟨rfl, hb5⟩; obtain ⟨s0, s1, s2, g0, g1, g2⟩ := blk3 (bl_own hb5 v3); obtain ⟨m0, m1, m2, _⟩ := blk3 (bl_own hb5 vx))
          obtain ⟨k1, k2⟩ := set3 (bl_own hb5 v3) (.int .i64 n) (.int .u64 x.hi) (.int .u64 x.lo)
          go_roundw
          case rel => exact ⟨j + 1, hlt, by go_num, by rw [hsn'.out]; exact k1, grown_trans (grown_trans hG4 (grown_below hb5 _)) k2⟩
          case measure => simp [intOf]; omega
        | false =>
          have hsn' := Lib.hid (hsn.trans (if_neg (by simp)))
          clear hsn
          go_wp2_with (go_at_call 87; (with_reducible refine (habx _).mono ?_); clear habx; rintro e w5 ⟨rfl, hb5⟩)
          go_roundw
          case rel => exact ⟨j + 1, hlt, by go_num, by rw [hsn'.out]; exact bl_own hb5 v3, grown_trans hG4 (grown_below hb5 _)⟩
          case measure => simp [intOf]; omega
      · have hfin : Below w2.heap.size w2 (((w3.setCell ⟨w2.heap.size, 0, none⟩ (.int .i64 n)).setCell ⟨w2.heap.size, 1, none⟩ (.int .u64 x.hi)).setCell ⟨w2.heap.size, 2, none⟩ (.int .u64 x.lo)) ∧ (((w3.setCell ⟨w2.heap.size, 0, none⟩ (.int .i64 n)).setCell ⟨w2.heap.size, 1, none⟩ (.int .u64 x.hi)).setCell ⟨w2.heap.size, 2, none⟩ (.int .u64 x.lo)).heap[w2.heap.size]? = some (.cells #[.int .i64 n, .int .u64 x.hi, .int .u64 x.lo] 115 (0, 0)) := ⟨below_step (below_call (((Below.refl _ w2).alloc (Nat.le_refl _) _).drew) (by simp) hb3) (Nat.le_of_lt (lt_of_block hz3)) hset.2 (by simp), hset.1⟩
        have hgne : w.heap.size + 1 + 1 + 1 ≠ w2.heap.size := by have := lt_of_block z3; omega
        have hn3 : True := trivial
        clear s0 s1 s2 s3 s4 s5 s6 hset
        generalize ((w3.setCell ⟨w2.heap.size, 0, none⟩ (.int .i64 n)).setCell ⟨w2.heap.size, 1, none⟩ (.int .u64 x.hi)).setCell ⟨w2.heap.size, 2, none⟩ (.int .u64 x.lo) = w4 at hfin ⊢
        clear hb3 f0 f1 f2 f3 f4 f5 f6 hz3 i0 i1 i2 j0 j1 j2
        obtain ⟨g, hge⟩ : ∃ g, w2.heap.size = g := ⟨_, rfl⟩
        rw [hge] at hgne
        have hfin : Below w2.heap.size w2 w4 ∧ w4.heap[g]? = some (.cells #[.int .i64 n, .int .u64 x.hi, .int .u64 x.lo] 115 (0, 0)) := by rw [← hge]; exact hfin
        rw [hge]
        obtain ⟨hg, vx⟩ := hfin
        have v3 := bl_own hg z3
        have hne : (w.heap.size + 1 + 1 + 1) ≠ g := hgne
        obtain ⟨u0, u1, u2, _⟩ := blk3 v3
        obtain ⟨t0, t1, t2, _⟩ := blk3 vx
        have hG4 := grown_trans hG2 (grown_below hg _)
        clear hn3
        obtain ⟨r, hrr⟩ : ∃ r, aboveB n bn x bi = r := ⟨_, rfl⟩
        rw [hrr] at hsn habx
        clear hrr
        cases r with
        | true =>
          have hsn' := Lib.hid (hsn.trans (if_pos rfl))
          clear hsn
          go_wp2_with (go_at_call 87; (with_reducible refine (habx _).mono ?_); clear habx; rintro e w5 ⟨rfl, hb5⟩; obtain ⟨s0, s1, s2, g0, g1, g2⟩ := blk3 (bl_own hb5 v3); obtain ⟨m0, m1, m2, _⟩ := blk3 (bl_own hb5 vx))
          obtain ⟨k1, k2⟩ := set3 (bl_own hb5 v3) (.int .i64 n) (.int .u64 x.hi) (.int .u64 x.lo)
          go_roundw
          case rel => exact ⟨j + 1, hlt, by go_num, by rw [hsn'.out]; exact k1, grown_trans (grown_trans hG4 (grown_below hb5 _)) k2⟩
          case measure => simp [intOf]; omega
        | false =>
          have hsn' := Lib.hid (hsn.trans (if_neg (by simp)))
          clear hsn
          go_wp2_with (go_at_call 87; (with_reducible refine (habx _).mono ?_); clear habx; rintro e w5 ⟨rfl, hb5⟩)
          go_roundw
          case rel => exact ⟨j + 1, hlt, by go_num, by rw [hsn'.out]; exact bl_own hb5 v3, grown_trans hG4 (grown_below hb5 _)⟩
          case measure => simp [intOf]; omega
    · obtain rfl : j = ks.length := by omega
      rw [List.take_length] at hbx
      obtain ⟨bn, hbn⟩ : ∃ bn, (bestR f ks).1 = bn := ⟨_, rfl⟩
      obtain ⟨bi, hbi⟩ : ∃ bi, (bestR f ks).2 = bi := ⟨_, rfl⟩
      rw [hbn, hbi] at hbx
      have hbn' := Lib.hid hbn
      have hbi' := Lib.hid hbi
      clear hbn hbi
      obtain ⟨u0, u1, u2, _⟩ := blk3 hbx
      obtain ⟨s0, s1, g0, g1⟩ := blk2 x2
      go_wp2_with fail
      go_region
      obtain ⟨k1, k2⟩ := set2 x2 (.int .u64 bi.hi) (.int .u64 bi.lo)
      obtain ⟨m0, m1, _, _⟩ := blk2 k1
      go_wp2
      refine bodyPost_ret (v := .tuple #[.agg #[.int .u64 bi.hi, .int .u64 bi.lo], .bool (decide (0 ≤ bn))]) ?_ rfl ⟨?_, ?_⟩
      · simp [results, Tryz.results51, go_sem, m0, m1]
      · rw [hbn'.out, hbi'.out]
      · exact (below_step hBr hBr.size k2 (fun k e => by cases e; omega)).drew
end Go.Proofs.YtaohkcdfjjiggaaGreat
/-! The walk of ghost.Head. -/
namespace Go.Proofs.YtaohkcdfjjiggaaGreat
open Go.RowKit
/-- The ID that lies in a block. -/
def idIn (W : World) (B : Nat) : ID := match W.heap[B]? with
  | some (.cells cs _ _) => ⟨intOf (cs.getD 0 undef), intOf (cs.getD 1 undef)⟩
  | _ => zid
theorem idIn_at {W : World} {B T : Nat} {x : ID} (h : W.heap[B]? = some (.cells #[.int .u64 x.hi, .int .u64 x.lo] T (0, 0))) : idIn W B = x := by
  unfold idIn
  rw [h]
  rfl
theorem gh_step {l : List Blk} {f : ID → Int} {r x k0 : ID} {ks : List ID} {n : Nat} (h : headGo l f n x = r) (hn : l.length + 1 ≤ n + (chain l x).length) (hks : kids l x = k0 :: ks) :
    ∃ n', headGo l f n' (ks.foldl (pick f) k0) = r ∧ l.length + 1 ≤ n' + (chain l (ks.foldl (pick f) k0)).length ∧ l.length + 1 - (chain l (ks.foldl (pick f) k0)).length < l.length + 1 - (chain l x).length := by
  have hk := pick_kids (wt := f) hks
  have h1 := kids_room hk
  have h2 := (kids_chain hk).1
  cases n with
  | zero => omega
  | succ n =>
    rw [headGo_cons hks] at h
    refine ⟨n, h, ?_, ?_⟩ <;> (rw [h2, List.length_cons]; omega)
theorem gh_start {l : List Blk} (f : ID → Int) : ∃ n, headGo l f n zid = headBy l f ∧ l.length + 1 ≤ n + (chain l zid).length := ⟨l.length + 1, headGo_more, by omega⟩
set_option maxRecDepth 100000 in
set_option maxHeartbeats 4000000 in
theorem ghead_any (c : Cfg) (l : List Blk) (vs : List Vote) (A A2 A3 : Option Addr) (k k2 k3 : Nat) (w : World) (hr : Rd 1 encI w A c.W) (hr2 : Rd 5 encBlk w A2 l) (hr3 : Rd 4 encVote w A3 vs) (hl : l.length ≤ 100000) (hvl : vs.length ≤ 100000) :
    Calls Tryz.prog 24 #[cfgv A k c, .slice A2 l.length k2, .slice A3 vs.length k3] w fun e w' => e = .returned (idv (headBy l (onC c l vs))) ∧ Below w.heap.size w w' := by
  have hm := hr.1
  have hm2 := hr2.1
  have hm3 := hr3.1
  have hbe := Lib.hid (fun V (hV : Below w.heap.size w V) x => gbest_any c l vs x A A2 A3 k k2 k3 V (hr.below hV) (hr2.below hV) (hr3.below hV) hl hvl)
  have hcb : ∀ x, 0 ≤ onC c l vs x := fun x => (weightC_bd c _).1
  obtain ⟨f, hf⟩ : ∃ f, onC c l vs = f := ⟨_, rfl⟩
  rw [hf] at hbe hcb ⊢
  have hcb' := Lib.hid hcb
  clear hf hcb
  obtain ⟨n0, hn0⟩ := gh_start (l := l) f
  obtain ⟨r, hrr⟩ : ∃ r, headBy l f = r := ⟨_, rfl⟩
  rw [hrr] at hn0 ⊢
  have hn0' := Lib.hid hn0
  clear hrr hn0
  unfold cfgv idv at *
  have hW : ∃ W, (w.alloc (.cells #[.slice A c.W.length k, .int .u64 c.seed, .int .i64 c.epoch, .int .i64 c.num, .int .i64 c.den] 25)).alloc (.cells #[.int .u64 0, .int .u64 0] 35) = W := ⟨_, rfl⟩
  obtain ⟨W, hW⟩ := hW
  have hB : Below w.heap.size w W := by subst hW; exact ((Below.refl _ w).alloc (Nat.le_refl _) _).alloc (by simp) _
  have b0 : W.heap[w.heap.size]? = some (.cells #[.slice A c.W.length k, .int .u64 c.seed, .int .i64 c.epoch, .int .i64 c.num, .int .i64 c.den] 25 (0, 0)) := by subst hW; exact ha_lt (ha_at rfl)
  have b1 : W.heap[w.heap.size + 1]? = some (.cells #[.int .u64 0, .int .u64 0] 35 (0, 0)) := by subst hW; exact ha_at (by simp)
  have hWs := lt_of_block b1
  go_enter Tryz.func24, Tryz.ntmps24
  go_wp2_with fail
  go_step3
  go_wp2_with fail
  go_step3
  go_wp2_with fail
  go_loopw [7, 8, 9] (fun _v7 _v8 _v9 wr => ∃ (n : Nat) (x : ID), Hid (headGo l f n x = r ∧ l.length + 1 ≤ n + (chain l x).length) ∧ wr.heap[w.heap.size]? = some (.cells #[.slice A c.W.length k, .int .u64 c.seed, .int .i64 c.epoch, .int .i64 c.num, .int .i64 c.den] 25 (0, 0)) ∧ wr.heap[w.heap.size + 1]? = some (.cells #[.int .u64 x.hi, .int .u64 x.lo] 35 (0, 0)) ∧ Below w.heap.size w wr) (fun _ _ _ wr => l.length + 1 - (chain l (idIn wr (w.heap.size + 1))).length)
  case atStart => exact ⟨n0, zid, hn0', b0, b1, hB⟩
  case round =>
    obtain ⟨n, x, hn, q0, q1, hBr⟩ := hrel
    obtain ⟨c0, c1, c2, c3, c4⟩ := blk5 q0
    obtain ⟨x0, x1, g0, g1⟩ := blk2 q1
    have hbx := hbe.out wr hBr x
    have hlq := lt_of_block q1
    cases hks : kids l x with
    | nil =>
      have hfin := Lib.hid (show x = r by rw [← hn.out.1, headGo_nil hks])
      rw [hks] at hbx
      rw [show decide (0 ≤ (bestR f []).1) = false from rfl, show (bestR f []).2 = ⟨0, 0⟩ from rfl] at hbx
      clear hks hW
      go_wp2_with (go_at_call 51; (with_reducible refine hbx.mono ?_); clear hbx; rintro e w2 ⟨rfl, hb2⟩; have hB2 := below_call hBr hBr.size hb2; have hl3 : Below w2.heap.size w2 (w2.alloc (.cells #[.int .u64 0, .int .u64 0] 35)) := (Below.refl _ w2).alloc (Nat.le_refl _) _; have y1 := bl_own hl3 (bl_own hb2 q1); have hB3 := below_call hB2 hB2.size hl3; obtain ⟨s0, s1, s2, s3⟩ := blk2 y1)
      obtain ⟨kk1, kk2⟩ := set2 y1 (.int .u64 x.hi) (.int .u64 x.lo)
      obtain ⟨m0, m1, _, _⟩ := blk2 kk1
      rw [Exit.noGoto_ret]
      refine bodyPost_ret (v := .agg #[.int .u64 x.hi, .int .u64 x.lo]) ?_ rfl ⟨?_, ?_⟩
      · simp [results, Tryz.results24, go_sem, m0, m1]
      · rw [hfin.out]
      · exact below_step hB3 hB3.size kk2 (fun k e => by cases e; omega)
    | cons k0 ks =>
      obtain ⟨n', hn1, hn2, hn3⟩ := gh_step hn.out.1 hn.out.2 hks
      have hn' := Lib.hid (And.intro hn1 hn2)
      have hn3' := Lib.hid hn3
      have hfb := hcb'.out (ks.foldl (pick f) k0)
      rw [hks] at hbx
      rw [show decide (0 ≤ (bestR f (k0 :: ks)).1) = true from decide_eq_true hfb, show (bestR f (k0 :: ks)).2 = ks.foldl (pick f) k0 from rfl] at hbx
      obtain ⟨b, hb⟩ : ∃ b, ks.foldl (pick f) k0 = b := ⟨_, rfl⟩
      rw [hb] at hbx hn' hn3'
      have hfb' := Lib.hid hfb
      have hhb := Lib.hid hb
      clear hks hn1 hn2 hn3 hfb hb hW
      go_wp2_with (go_at_call 51; (with_reducible refine hbx.mono ?_); clear hbx; rintro e w2 ⟨rfl, hb2⟩; have hB2 := below_call hBr hBr.size hb2; have hl3 : Below w2.heap.size w2 (w2.alloc (.cells #[.int .u64 b.hi, .int .u64 b.lo] 35)) := (Below.refl _ w2).alloc (Nat.le_refl _) _; have y0 := bl_own hl3 (bl_own hb2 q0); have y1 := bl_own hl3 (bl_own hb2 q1); have hB3 := below_call hB2 hB2.size hl3; obtain ⟨s0, s1, s2, s3⟩ := blk2 y1; obtain ⟨t0, t1, _, _⟩ := blk2 (ha_at (w := w2) (o := .cells #[.int .u64 b.hi, .int .u64 b.lo] 35) (k := w2.heap.size) rfl))
      obtain ⟨kk1, kk2⟩ := set2 y1 (.int .u64 b.hi) (.int .u64 b.lo)
      go_roundw
      case rel => exact ⟨n', b, hn', grown_own kk2 y0 (by simp), kk1, below_step hB3 hB3.size kk2 (fun k e => by cases e; omega)⟩
      case measure =>
        rw [idIn_at q1, idIn_at kk1]
        exact hn3'.out
end Go.Proofs.YtaohkcdfjjiggaaGreat
