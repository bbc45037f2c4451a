/- marigoldlaw14.awake: the chapter's example, walked. -/
import Derived.Test.YtaohkcdfjjiggaaGreatGP
import Derived.Test.YtaohkcdfjjiggaaGreatGJ
namespace Go.Proofs.YtaohkcdfjjiggaaGreat
open Go.RowKit
def a14 : Blk := ⟨1, 0, zid, 0⟩
def c14 : Cfg := ⟨[1], 0, 1, 0, 4⟩
def v14 : List Vote := [⟨0, 1, nameOf a14⟩, ⟨5, 1, nameOf a14⟩]
theorem q14_o : goldOf c14 v14 1 = [⟨0, 1, nameOf a14⟩] := by kernel_rfl
theorem q14_n : goldOf c14 v14 2 = [] := by kernel_rfl
theorem q14_t : Tree [a14] := by
  rcases plc_tree [a14] with ⟨_, h⟩ | ⟨h, _⟩
  · exact h
  · have : (plc [a14]).isSome = true := by kernel_rfl
    rw [h] at this
    cases this
theorem q14_k0 : kids [a14] zid = [nameOf a14] := by
  have : kidsOf [a14] zid = [nameOf a14] := by kernel_rfl
  rw [← this]
  simp [kids, q14_t]
theorem q14_h : goldHead c14 [a14] v14 1 = nameOf a14 := by
  unfold goldHead headBy
  show headGo [a14] _ (0 + 1) zid = _
  rw [headGo_cons q14_k0]
  rfl
/-- What the example's blocks hold when its slices lie. -/
structure Aw14At (w V : World) (na : ID) (Bv : Nat) : Prop where
  hB : Below w.heap.size w V
  hw : V.heap[w.heap.size]? = some (.cells #[.int .i64 1] 3 (0, 0))
  hc : V.heap[w.heap.size + 1]? = some (.cells #[.slice (some ⟨w.heap.size, 0, none⟩) 1 1, .int .u64 0, .int .i64 1, .int .i64 0, .int .i64 4] 25 (0, 0))
  ha : V.heap[w.heap.size + 1 + 1]? = some (.cells #[.int .i64 1, .int .i64 0, .int .u64 0, .int .u64 0, .int .u64 0] 64 (0, 0))
  hv : V.heap[Bv]? = some (.cells #[.int .i64 0, .int .i64 1, .int .u64 na.hi, .int .u64 na.lo, .int .i64 5, .int .i64 1, .int .u64 na.hi, .int .u64 na.lo] 42 (0, 0))
theorem Aw14At.own {w V V' : World} {na : ID} {Bv : Nat} (h : Aw14At w V na Bv) (hV : Below V.heap.size V V') : Aw14At w V' na Bv :=
  ⟨below_call h.hB h.hB.size hV, bl_own hV h.hw, bl_own hV h.hc, bl_own hV h.ha, bl_own hV h.hv⟩
theorem Aw14At.r1 {w V : World} {na : ID} {Bv : Nat} (h : Aw14At w V na Bv) : Rd 1 encI V (some ⟨w.heap.size, 0, none⟩) [1] := Rd_flat encI_len (by simp) h.hw rfl
theorem Aw14At.r3 {w V : World} {na : ID} {Bv : Nat} (h : Aw14At w V na Bv) : Rd 4 encVote V (some ⟨Bv, 0, none⟩) [⟨0, 1, na⟩, ⟨5, 1, na⟩] := Rd_flat encVote_len (by simp) h.hv rfl
/-- The cells that the last line reads. -/
def Aw14C (w V : World) (na : ID) (I b4 o4 : Nat) : Prop :=
  (V.cell? ⟨w.heap.size + 1, 0, none⟩ = some (.slice (some ⟨w.heap.size, 0, none⟩) 1 1) ∧ V.cell? ⟨w.heap.size + 1, 1, none⟩ = some (.int .u64 0) ∧ V.cell? ⟨w.heap.size + 1, 2, none⟩ = some (.int .i64 1) ∧ V.cell? ⟨w.heap.size + 1, 3, none⟩ = some (.int .i64 0) ∧ V.cell? ⟨w.heap.size + 1, 4, none⟩ = some (.int .i64 4)) ∧
  (V.cell? ⟨w.heap.size + 1 + 1, 0, none⟩ = some (.int .i64 1) ∧ V.cell? ⟨w.heap.size + 1 + 1, 1, none⟩ = some (.int .i64 0) ∧ V.cell? ⟨w.heap.size + 1 + 1, 2, none⟩ = some (.int .u64 0) ∧ V.cell? ⟨w.heap.size + 1 + 1, 3, none⟩ = some (.int .u64 0) ∧ V.cell? ⟨w.heap.size + 1 + 1, 4, none⟩ = some (.int .u64 0)) ∧
  (V.cell? ⟨I, 0, none⟩ = some (.int .u64 na.hi) ∧ V.cell? ⟨I, 1, none⟩ = some (.int .u64 na.lo)) ∧ V.cell? ⟨b4, o4, none⟩ = some (.int .i64 0)
theorem aw14c {w V : World} {na : ID} {Bv I b4 o4 : Nat} (h : Aw14At w V na Bv) (hid : V.heap[I]? = some (.cells #[.int .u64 na.hi, .int .u64 na.lo] 35 (0, 0))) (hd : V.cell? ⟨b4, o4, none⟩ = some (.int .i64 0)) : Aw14C w V na I b4 o4 :=
  ⟨blk5 h.hc, blk5 h.ha, ⟨blk_cell hid 0, blk_cell hid 1⟩, hd⟩
set_option maxRecDepth 100000 in
set_option maxHeartbeats 8000000 in
theorem awake14_any (w : World) : Calls Tryz.prog 16 #[] w fun e w' => e = .returned (.bool true) ∧ Below w.heap.size w w' := by
  have q1 := q14_o
  have q2 := q14_h
  have q3 := q14_n
  have hna := fun V => name_any a14 V
  unfold v14 at q1 q2 q3
  obtain ⟨na, hnae⟩ : ∃ na, nameOf a14 = na := ⟨_, rfl⟩
  rw [hnae] at hna q1 q2 q3
  clear hnae
  unfold a14 c14 zid at *
  unfold idv at hna
  dsimp only at hna
  have hea := eql_idw na na
  rw [decide_eq_true (rfl : na = na)] at hea
  have q1' := Lib.hid q1
  have q2' := Lib.hid q2
  have q3' := Lib.hid q3
  clear q1 q2 q3
  go_enter Tryz.func16, Tryz.ntmps16
  have hW : ∃ W, (((w.alloc (.cells #[.int .i64 1] 3)).alloc (.cells #[.slice (some ⟨w.heap.size, 0, none⟩) 1 1, .int .u64 0, .int .i64 1, .int .i64 0, .int .i64 4] 25)).alloc (.cells #[.int .i64 1, .int .i64 0, .int .u64 0, .int .u64 0, .int .u64 0] 64)) = W := ⟨_, rfl⟩
  obtain ⟨W, hW⟩ := hW
  have hB : Below w.heap.size w W := by subst hW; exact (((Below.refl _ w).alloc (Nat.le_refl _) _).alloc (by simp) _).alloc (by simp <;> omega) _
  have b0 : W.heap[w.heap.size]? = some (.cells #[.int .i64 1] 3 (0, 0)) := by subst hW; exact ha_lt (ha_lt (ha_at rfl))
  have b1 : W.heap[w.heap.size + 1]? = some (.cells #[.slice (some ⟨w.heap.size, 0, none⟩) 1 1, .int .u64 0, .int .i64 1, .int .i64 0, .int .i64 4] 25 (0, 0)) := by subst hW; exact ha_lt (ha_at (by simp))
  have b2 : W.heap[w.heap.size + 1 + 1]? = some (.cells #[.int .i64 1, .int .i64 0, .int .u64 0, .int .u64 0, .int .u64 0] 64 (0, 0)) := by subst hW; exact ha_at (by simp)
  have hWn := Lib.hid hW
  clear hW
  go_wp2_with fail
  rw [hWn.out]
  refine (hna _).mono ?_
  rintro e w1 ⟨rfl, hb1⟩
  have hid : ((w1.alloc (.cells #[.int .u64 na.hi, .int .u64 na.lo] 35)).alloc (.cells #[.int .i64 0, .int .i64 1, .int .u64 na.hi, .int .u64 na.lo, .int .i64 5, .int .i64 1, .int .u64 na.hi, .int .u64 na.lo] 42)).heap[w1.heap.size]? = some (.cells #[.int .u64 na.hi, .int .u64 na.lo] 35 (0, 0)) := ha_lt (ha_at rfl)
  have hAw : Aw14At w ((w1.alloc (.cells #[.int .u64 na.hi, .int .u64 na.lo] 35)).alloc (.cells #[.int .i64 0, .int .i64 1, .int .u64 na.hi, .int .u64 na.lo, .int .i64 5, .int .i64 1, .int .u64 na.hi, .int .u64 na.lo] 42)) na (w1.heap.size + 1) :=
    ⟨((below_call hB hB.size hb1).alloc (Nat.le_trans hB.size hb1.size) _).alloc (by have := hB.size; have := hb1.size; simp; omega) _, ha_lt (ha_lt (bl_own hb1 b0)), ha_lt (ha_lt (bl_own hb1 b1)), ha_lt (ha_lt (bl_own hb1 b2)), ha_at (by simp)⟩
  obtain ⟨z0, z1, z2, z3, z4⟩ := blk5 hAw.hc
  have hV : ∃ V, ((w1.alloc (.cells #[.int .u64 na.hi, .int .u64 na.lo] 35)).alloc (.cells #[.int .i64 0, .int .i64 1, .int .u64 na.hi, .int .u64 na.lo, .int .i64 5, .int .i64 1, .int .u64 na.hi, .int .u64 na.lo] 42)) = V := ⟨_, rfl⟩
  obtain ⟨V, hV⟩ := hV
  rw [hV] at hid hAw
  have hVn := Lib.hid hV
  obtain ⟨x0, x1, _, _⟩ := blk2 (ha_at (w := w1) (o := .cells #[.int .u64 na.hi, .int .u64 na.lo] 35) (k := w1.heap.size) rfl)
  obtain ⟨y0, y1, y2, y3, y4⟩ := blk5 (bl_own hb1 b1)
  clear hV
  have hAw' := Lib.hid hAw
  have hid' := Lib.hid hid
  clear hAw hid b0 b1 b2 hb1
  go_wp2_with fail
  clear x0 x1 y0 y1 y2 y3 y4 z0 z1 z2 z3 z4
  rw [hVn.out]
  clear hVn hWn
  have hAw := hAw'.out
  have hid := hid'.out
  clear hAw' hid'
  have hof1 := gof_any ⟨[1], 0, 1, 0, 4⟩ [⟨0, 1, na⟩, ⟨5, 1, na⟩] 1 (some ⟨w.heap.size, 0, none⟩) (some ⟨w1.heap.size + 1, 0, none⟩) 1 2 V hAw.r1 hAw.r3 (by simp)
  rw [q1'.out] at hof1
  clear q1' hB
  refine hof1.mono ?_
  rintro e w2 ⟨A4, k4, rfl, hR4, hb2⟩
  have hAw2 := hAw.own hb2
  have hid2 := bl_own hb2 hid
  clear hof1 hAw hid
  obtain ⟨b4, o4, hA4, hb4, d0, d1, d2, d3⟩ := hR4.atVote (i := 0) (by simp)
  subst hA4
  simp only [List.getElem_cons_zero, Nat.zero_mul, Nat.add_zero] at d0
  clear d1 d2 d3 hR4
  simp only [List.length_cons, List.length_nil, Nat.zero_add]
  go_wp2_with fail
  have hcc := aw14c hAw2 hid2 d0
  have hl3 : Below w2.heap.size w2 (w2.alloc (.cells #[.int .i64 1, .int .i64 0, .int .u64 0, .int .u64 0, .int .u64 0] 64)).drew := ((Below.refl _ w2).alloc (Nat.le_refl _) _).drew
  have hAw3 := hAw2.own hl3
  have hid3 := bl_own hl3 hid2
  have d3 := (hl3.cell (p := ⟨b4, o4, none⟩) hb4).trans d0
  have hcc3 := aw14c hAw3 hid3 d3
  have hRb : Rd 5 encBlk (w2.alloc (.cells #[.int .i64 1, .int .i64 0, .int .u64 0, .int .u64 0, .int .u64 0] 64)).drew (some ⟨w2.heap.size, 0, none⟩) [⟨1, 0, ⟨0, 0⟩, 0⟩] := (Rd_flat (w := w2.alloc (.cells #[.int .i64 1, .int .i64 0, .int .u64 0, .int .u64 0, .int .u64 0] 64)) encBlk_len (by simp) (ha_at rfl) rfl).below ((Below.refl _ _).drew)
  have hgh := gohead_any ⟨[1], 0, 1, 0, 4⟩ [⟨1, 0, ⟨0, 0⟩, 0⟩] [⟨0, 1, na⟩, ⟨5, 1, na⟩] 1 (some ⟨w.heap.size, 0, none⟩) (some ⟨w2.heap.size, 0, none⟩) (some ⟨w1.heap.size + 1, 0, none⟩) 1 1 2 _ hAw3.r1 hRb hAw3.r3 (by simp) (by simp)
  rw [q2'.out] at hgh
  have hb43 := Nat.lt_of_lt_of_le hb4 hl3.size
  have hofx := fun W (hW : Aw14At w W na (w1.heap.size + 1)) => gof_any ⟨[1], 0, 1, 0, 4⟩ [⟨0, 1, na⟩, ⟨5, 1, na⟩] 2 (some ⟨w.heap.size, 0, none⟩) (some ⟨w1.heap.size + 1, 0, none⟩) 1 2 W hW.r1 hW.r3 (by simp)
  simp only [q3'.out] at hofx
  unfold cfgv at hofx
  dsimp only [List.length_cons, List.length_nil] at hofx
  have hofx := Lib.hid hofx
  clear hid2 hAw2 d0 hb4 q2' hRb
  unfold Aw14C at hcc hcc3
  unfold cfgv idv at hgh
  dsimp only [List.length_cons, List.length_nil] at hgh
  go_region_held3 (fun W' => (W'.cell? ⟨w.heap.size + 1, 0, none⟩ = some (.slice (some ⟨w.heap.size, 0, none⟩) 1 1) ∧ W'.cell? ⟨w.heap.size + 1, 1, none⟩ = some (.int .u64 0) ∧ W'.cell? ⟨w.heap.size + 1, 2, none⟩ = some (.int .i64 1) ∧ W'.cell? ⟨w.heap.size + 1, 3, none⟩ = some (.int .i64 0) ∧ W'.cell? ⟨w.heap.size + 1, 4, none⟩ = some (.int .i64 4)) ∧ (W'.cell? ⟨w.heap.size + 1 + 1, 0, none⟩ = some (.int .i64 1) ∧ W'.cell? ⟨w.heap.size + 1 + 1, 1, none⟩ = some (.int .i64 0) ∧ W'.cell? ⟨w.heap.size + 1 + 1, 2, none⟩ = some (.int .u64 0) ∧ W'.cell? ⟨w.heap.size + 1 + 1, 3, none⟩ = some (.int .u64 0) ∧ W'.cell? ⟨w.heap.size + 1 + 1, 4, none⟩ = some (.int .u64 0)) ∧
    (W'.cell? ⟨w1.heap.size, 0, none⟩ = some (.int .u64 na.hi) ∧ W'.cell? ⟨w1.heap.size, 1, none⟩ = some (.int .u64 na.lo)) ∧ W'.cell? ⟨b4, o4, none⟩ = some (.int .i64 0))
    (first | exact hcc | exact hcc3 | exact hcc4 | exact hcc5) ((first
    | (go_at_call 21; (with_reducible refine hgh.mono ?_); clear hgh; rintro e w4 ⟨rfl, hb4⟩; have hAw4 := hAw3.own hb4; have hid4 := bl_own hb4 hid3; have d4 := (hb4.cell (p := ⟨b4, o4, none⟩) hb43).trans d3; have hb44 := Nat.lt_of_lt_of_le hb43 hb4.size; have hcc4 := aw14c hAw4 hid4 d4; unfold Aw14C at hcc4; have hof2 := hofx.out w4 hAw4)
    | (go_at_call 19; (with_reducible refine hof2.mono ?_); clear hof2; rintro e w5 ⟨A6, k6, rfl, hR6, hb5⟩; have hAw5 := hAw4.own hb5; have hid5 := bl_own hb5 hid4; have d5 := (hb5.cell (p := ⟨b4, o4, none⟩) hb44).trans d4; have hcc5 := aw14c hAw5 hid5 d5; unfold Aw14C at hcc5)))
  go_wp2
  go_ret
  exact ⟨rfl, hAw5.hB⟩
end Go.Proofs.YtaohkcdfjjiggaaGreat
