/- marigoldlaw08.awake: the chapter's example, walked. -/
import Derived.Test.YtkccakaaklemdaaLaw08a
import Derived.Test.YtkccakaaklemdaaEnc
namespace Go.Proofs.Ytkccakaaklemdaa
open Go.RowKit
/-- What the example's blocks hold when its slices lie. -/
structure AwAt (w V : World) (na nb : ID) (Bb Bl Bv : Nat) : Prop where
  hB : Below w.heap.size w V
  hw : V.heap[w.heap.size]? = some (.cells #[.int .i64 1, .int .i64 2, .int .i64 3] 3 (0, 0))
  hc : V.heap[w.heap.size + 1]? = some (.cells #[.slice (some ⟨w.heap.size, 0, none⟩) 3 3, .int .u64 0, .int .i64 1, .int .i64 0, .int .i64 4] 25 (0, 0))
  ha : V.heap[w.heap.size + 1 + 1]? = some (.cells #[.int .i64 1, .int .i64 0, .int .u64 0, .int .u64 0, .int .u64 0] 49 (0, 0))
  hb : V.heap[Bb]? = some (.cells #[.int .i64 2, .int .i64 0, .int .u64 na.hi, .int .u64 na.lo, .int .u64 0] 49 (0, 0))
  hl : V.heap[Bl]? = some (.cells #[.int .i64 1, .int .i64 0, .int .u64 0, .int .u64 0, .int .u64 0, .int .i64 2, .int .i64 0, .int .u64 na.hi, .int .u64 na.lo, .int .u64 0] 49 (0, 0))
  hv : V.heap[Bv]? = some (.cells #[.int .i64 1, .int .i64 2, .int .u64 na.hi, .int .u64 na.lo, .int .i64 2, .int .i64 2, .int .u64 nb.hi, .int .u64 nb.lo] 38 (0, 0))
theorem AwAt.own {w V V' : World} {na nb : ID} {Bb Bl Bv : Nat} (h : AwAt w V na nb Bb Bl Bv) (hV : Below V.heap.size V V') : AwAt w V' na nb Bb Bl Bv :=
  ⟨below_call h.hB h.hB.size hV, bl_own hV h.hw, bl_own hV h.hc, bl_own hV h.ha, bl_own hV h.hb, bl_own hV h.hl, bl_own hV h.hv⟩
theorem AwAt.on {w V : World} {na nb : ID} {Bb Bl Bv : Nat} (h : AwAt w V na nb Bb Bl Bv) (id : ID) :
    Calls Try.prog 16 #[.agg #[.slice (some ⟨w.heap.size, 0, none⟩) 3 3, .int .u64 0, .int .i64 1, .int .i64 0, .int .i64 4], .slice (some ⟨Bl, 0, none⟩) 2 2, .slice (some ⟨Bv, 0, none⟩) 2 2, .agg #[.int .u64 id.hi, .int .u64 id.lo]] V fun e w' =>
      e = .returned (.int .i64 (onC ⟨[1, 2, 3], 0, 1, 0, 4⟩ [⟨1, 0, ⟨0, 0⟩, 0⟩, ⟨2, 0, na, 0⟩] [⟨1, 2, na⟩, ⟨2, 2, nb⟩] id)) ∧ Below V.heap.size V w' :=
  on_any ⟨[1, 2, 3], 0, 1, 0, 4⟩ [⟨1, 0, ⟨0, 0⟩, 0⟩, ⟨2, 0, na, 0⟩] [⟨1, 2, na⟩, ⟨2, 2, nb⟩] id (some ⟨w.heap.size, 0, none⟩) (some ⟨Bl, 0, none⟩) (some ⟨Bv, 0, none⟩) 3 2 2 V
    (Rd_flat encI_len (by simp) h.hw rfl) (Rd_flat encBlk_len (by simp) h.hl rfl) (Rd_flat encVote_len (by simp) h.hv rfl) (by simp) (by simp)
theorem AwAt.all {w V : World} {na nb : ID} {Bb Bl Bv : Nat} (h : AwAt w V na nb Bb Bl Bv) :
    Calls Try.prog 30 #[.agg #[.slice (some ⟨w.heap.size, 0, none⟩) 3 3, .int .u64 0, .int .i64 1, .int .i64 0, .int .i64 4], .slice (some ⟨Bl, 0, none⟩) 2 2, .slice (some ⟨Bv, 0, none⟩) 2 2] V fun e w' =>
      e = .returned (.int .i64 (onC ⟨[1, 2, 3], 0, 1, 0, 4⟩ [⟨1, 0, ⟨0, 0⟩, 0⟩, ⟨2, 0, na, 0⟩] [⟨1, 2, na⟩, ⟨2, 2, nb⟩] zid)) ∧ Below V.heap.size V w' :=
  all_any ⟨[1, 2, 3], 0, 1, 0, 4⟩ [⟨1, 0, ⟨0, 0⟩, 0⟩, ⟨2, 0, na, 0⟩] [⟨1, 2, na⟩, ⟨2, 2, nb⟩] (some ⟨w.heap.size, 0, none⟩) (some ⟨Bl, 0, none⟩) (some ⟨Bv, 0, none⟩) 3 2 2 V
    (Rd_flat encI_len (by simp) h.hw rfl) (Rd_flat encBlk_len (by simp) h.hl rfl) (Rd_flat encVote_len (by simp) h.hv rfl) (by simp) (by simp)
set_option maxRecDepth 100000 in
set_option maxHeartbeats 1000000 in
theorem awake_any (w : World) : Calls Try.prog 11 #[] w fun e w' => e = .returned (.bool true) ∧ Below w.heap.size w w' := by
  have q1 := aw_a
  have q2 := aw_b
  have q3 := aw_z
  have hna := fun V => name_any awA V
  have hnb := fun V => name_any awB V
  unfold awB at hnb q1 q2 q3
  unfold awV at q1 q2 q3
  unfold awB at q1 q2 q3
  obtain ⟨na, hnae⟩ : ∃ na, nameOf awA = na := ⟨_, rfl⟩
  rw [hnae] at hna hnb q1 q2 q3
  obtain ⟨nb, hnbe⟩ : ∃ nb, nameOf ⟨2, 0, na, 0⟩ = nb := ⟨_, rfl⟩
  rw [hnbe] at hnb q1 q2 q3
  clear hnae hnbe
  unfold awA awC zid at *
  unfold idv at hna hnb
  dsimp only at hna hnb
  have q1' := Lib.hid q1
  have q2' := Lib.hid q2
  have q3' := Lib.hid q3
  clear q1 q2 q3
  go_enter Try.func11, Try.ntmps11
  go_wp2_with fail
  have hW : ∃ W, (((w.alloc (.cells #[.int .i64 1, .int .i64 2, .int .i64 3] 3)).alloc (.cells #[.slice (some ⟨w.heap.size, 0, none⟩) 3 3, .int .u64 0, .int .i64 1, .int .i64 0, .int .i64 4] 25)).alloc (.cells #[.int .i64 1, .int .i64 0, .int .u64 0, .int .u64 0, .int .u64 0] 49)) = W := ⟨_, rfl⟩
  obtain ⟨W, hW⟩ := hW
  have hB : Below w.heap.size w W := by subst hW; exact (((Below.refl _ w).alloc (Nat.le_refl _) _).alloc (by simp) _).alloc (by simp <;> omega) _
  have b0 : W.heap[w.heap.size]? = some (.cells #[.int .i64 1, .int .i64 2, .int .i64 3] 3 (0, 0)) := by subst hW; exact ha_lt (ha_lt (ha_at rfl))
  have b1 : W.heap[w.heap.size + 1]? = some (.cells #[.slice (some ⟨w.heap.size, 0, none⟩) 3 3, .int .u64 0, .int .i64 1, .int .i64 0, .int .i64 4] 25 (0, 0)) := by subst hW; exact ha_lt (ha_at (by simp))
  have b2 : W.heap[w.heap.size + 1 + 1]? = some (.cells #[.int .i64 1, .int .i64 0, .int .u64 0, .int .u64 0, .int .u64 0] 49 (0, 0)) := by subst hW; exact ha_at (by simp)
  rw [hW]
  clear hW
  refine (hna _).mono ?_
  rintro e w1 ⟨rfl, hb1⟩
  have hB1 := below_call hB hB.size hb1
  have b0' := bl_own hb1 b0
  have b1' := bl_own hb1 b1
  have b2' := bl_own hb1 b2
  obtain ⟨d0, d1, d2, d3, d4⟩ := blk5 b2'
  clear b0 b1 b2 hb1 hB
  have b3 : (w1.alloc (.cells #[.int .i64 2, .int .i64 0, .int .u64 na.hi, .int .u64 na.lo, .int .u64 0] 49)).heap[w1.heap.size]? = some (.cells #[.int .i64 2, .int .i64 0, .int .u64 na.hi, .int .u64 na.lo, .int .u64 0] 49 (0, 0)) := ha_at rfl
  obtain ⟨e0, e1, e2, e3, e4⟩ := blk5 b3
  obtain ⟨g0, g1, g2, g3, g4⟩ := blk5 (ha_lt (o := .cells #[.int .i64 2, .int .i64 0, .int .u64 na.hi, .int .u64 na.lo, .int .u64 0] 49) b2')
  go_wp2_with fail
  have hW : ∃ U, ((w1.alloc (.cells #[.int .i64 2, .int .i64 0, .int .u64 na.hi, .int .u64 na.lo, .int .u64 0] 49)).alloc (.cells #[.int .i64 1, .int .i64 0, .int .u64 0, .int .u64 0, .int .u64 0, .int .i64 2, .int .i64 0, .int .u64 na.hi, .int .u64 na.lo, .int .u64 0] 49)) = U := ⟨_, rfl⟩
  obtain ⟨U, hW⟩ := hW
  have hBU : Below w.heap.size w U := by subst hW; exact (hB1.alloc hB1.size _).alloc (by have := hB1.size; simp; omega) _
  have u0 : U.heap[w.heap.size]? = some (.cells #[.int .i64 1, .int .i64 2, .int .i64 3] 3 (0, 0)) := by subst hW; exact ha_lt (ha_lt b0')
  have u1 : U.heap[w.heap.size + 1]? = some (.cells #[.slice (some ⟨w.heap.size, 0, none⟩) 3 3, .int .u64 0, .int .i64 1, .int .i64 0, .int .i64 4] 25 (0, 0)) := by subst hW; exact ha_lt (ha_lt b1')
  have u2 : U.heap[w.heap.size + 1 + 1]? = some (.cells #[.int .i64 1, .int .i64 0, .int .u64 0, .int .u64 0, .int .u64 0] 49 (0, 0)) := by subst hW; exact ha_lt (ha_lt b2')
  have u3 : U.heap[w1.heap.size]? = some (.cells #[.int .i64 2, .int .i64 0, .int .u64 na.hi, .int .u64 na.lo, .int .u64 0] 49 (0, 0)) := by subst hW; exact ha_lt b3
  have u4 : U.heap[w1.heap.size + 1]? = some (.cells #[.int .i64 1, .int .i64 0, .int .u64 0, .int .u64 0, .int .u64 0, .int .i64 2, .int .i64 0, .int .u64 na.hi, .int .u64 na.lo, .int .u64 0] 49 (0, 0)) := by subst hW; exact ha_at (by simp)
  rw [hW]
  clear hW b0' b1' b2' b3 d0 d1 d2 d3 d4 e0 e1 e2 e3 e4 g0 g1 g2 g3 g4
  have hna' := Lib.hid hna
  have hnb' := Lib.hid hnb
  obtain ⟨c0, c1, c2, c3, c4⟩ := blk5 u2
  obtain ⟨c5, c6, c7, c8, c9⟩ := blk5 u3
  go_region_held3 (fun W' => (W'.cell? ⟨w.heap.size + 1 + 1, 0, none⟩ = some (.int .i64 1) ∧ W'.cell? ⟨w.heap.size + 1 + 1, 1, none⟩ = some (.int .i64 0) ∧ W'.cell? ⟨w.heap.size + 1 + 1, 2, none⟩ = some (.int .u64 0) ∧ W'.cell? ⟨w.heap.size + 1 + 1, 3, none⟩ = some (.int .u64 0) ∧ W'.cell? ⟨w.heap.size + 1 + 1, 4, none⟩ = some (.int .u64 0)) ∧
      (W'.cell? ⟨w1.heap.size, 0, none⟩ = some (.int .i64 2) ∧ W'.cell? ⟨w1.heap.size, 1, none⟩ = some (.int .i64 0) ∧ W'.cell? ⟨w1.heap.size, 2, none⟩ = some (.int .u64 na.hi) ∧ W'.cell? ⟨w1.heap.size, 3, none⟩ = some (.int .u64 na.lo) ∧ W'.cell? ⟨w1.heap.size, 4, none⟩ = some (.int .u64 0)))
    (first | exact ⟨⟨c0, c1, c2, c3, c4⟩, c5, c6, c7, c8, c9⟩ | exact ⟨blk5 z2, blk5 z3⟩ | exact ⟨blk5 y2, blk5 y3⟩ | exact ⟨blk5 (ha_lt z2), blk5 (ha_lt z3)⟩) ((first
    | (go_at_call 29; refine (hna _).mono ?_; clear hna; rintro e w2 ⟨rfl, hb2⟩; have hB2 := below_call hBU.drew hBU.size hb2; have y0 := bl_own hb2 u0; have y1 := bl_own hb2 u1; have y2 := bl_own hb2 u2; have y3 := bl_own hb2 u3; have y4 := bl_own hb2 u4)
    | (go_at_call 29; refine (hnb _).mono ?_; clear hnb; rintro e w3 ⟨rfl, hb3⟩; have hB3 := below_call hB2 hB2.size hb3; have z0 := bl_own hb3 y0; have z1 := bl_own hb3 y1; have z2 := bl_own hb3 y2; have z3 := bl_own hb3 y3; have z4 := bl_own hb3 y4)))
  go_wp2_with fail
  have hAw : AwAt w (w3.alloc (.cells #[.int .i64 1, .int .i64 2, .int .u64 na.hi, .int .u64 na.lo, .int .i64 2, .int .i64 2, .int .u64 nb.hi, .int .u64 nb.lo] 38)) na nb w1.heap.size (w1.heap.size + 1) w3.heap.size :=
    ⟨hB3.alloc hB3.size _, ha_lt z0, ha_lt z1, ha_lt z2, ha_lt z3, ha_lt z4, ha_at rfl⟩
  obtain ⟨V, hV⟩ : ∃ V, w3.alloc (.cells #[.int .i64 1, .int .i64 2, .int .u64 na.hi, .int .u64 na.lo, .int .i64 2, .int .i64 2, .int .u64 nb.hi, .int .u64 nb.lo] 38) = V := ⟨_, rfl⟩
  rw [hV] at hAw ⊢
  clear hV z0 z1 z2 z3 z4 y0 y1 y2 y3 y4 u0 u1 u2 u3 u4 c0 c1 c2 c3 c4 c5 c6 c7 c8 c9 hB2 hB3 hBU hB1 hb3 hb2
  have hon1 := fun p => (hAw.own (gr_below V p)).on na
  have hon2 := fun p => (hAw.own (gr_below V p)).on nb
  have hon3 := fun p => (hAw.own (gr_below V p)).all
  simp only [q1'.out] at hon1
  simp only [q2'.out] at hon2
  simp only [q3'.out] at hon3
  obtain ⟨c0, c1, c2, c3, c4⟩ := blk5 hAw.ha
  obtain ⟨c5, c6, c7, c8, c9⟩ := blk5 hAw.hb
  obtain ⟨c10, c11, c12, c13, c14⟩ := blk5 hAw.hc
  have g0 := gr_cell c0
  have g1 := gr_cell c1
  have g2 := gr_cell c2
  have g3 := gr_cell c3
  have g4 := gr_cell c4
  have g5 := gr_cell c5
  have g6 := gr_cell c6
  have g7 := gr_cell c7
  have g8 := gr_cell c8
  have g9 := gr_cell c9
  have g10 := gr_cell c10
  have g11 := gr_cell c11
  have g12 := gr_cell c12
  have g13 := gr_cell c13
  have g14 := gr_cell c14
  clear c0 c1 c2 c3 c4 c5 c6 c7 c8 c9 c10 c11 c12 c13 c14
  have hBV := hAw.hB
  clear hAw
  have ha' := hna'.out
  have hb' := hnb'.out
  refine wp_region_gr (by kernel_rfl) (by kernel_rfl) ?_
  repeat (go_big_quiet_step ((first
    | (go_at_call 29; with_reducible exact Calls.gr_of (ha' _))
    | (go_at_call 29; with_reducible exact Calls.gr_of (hb' _))
    | (go_at_call 16; with_reducible exact Calls.gr_of (hon1 _))
    | (go_at_call 16; with_reducible exact Calls.gr_of (hon2 _))
    | (go_at_call 30; with_reducible exact Calls.gr_of (hon3 _)))))
  refine wpQuiet_nil ?_
  rintro _ ⟨pq, rfl⟩
  go_wp2
  go_ret
  exact ⟨rfl, hBV.trans ((gr_below V pq).mono hBV.size)⟩
end Go.Proofs.Ytkccakaaklemdaa
