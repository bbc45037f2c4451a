/- Votes compared; marigoldlaw07.awake, walked. -/
import Derived.Test.YtkccakaaklemdaaVoteH
namespace Go.Proofs.Ytkccakaaklemdaa
open Go.RowKit
theorem eqlIn_vote (d : Nat) (x y : Vote) (w : World) : (Op.equalIn (d + 3) 38 (votev x) (votev y)).run Try.prog w = .ok (decide (x = y)) w := by
  have u := Try.underlying38
  have hid := fun (a b c e : Int) w => show (Op.equalIn (d + 2) 29 (.agg #[.int .u64 a, .int .u64 b]) (.agg #[.int .u64 c, .int .u64 e])).run Try.prog w = .ok (decide ((⟨a, b⟩ : ID) = ⟨c, e⟩)) w from eqlIn_id d ⟨a, b⟩ ⟨c, e⟩ w
  have z := Try.sizeOf3
  have z2 := Try.sizeOf29
  have u3 := Try.underlying3
  have g := Try.isAgg29
  unfold votev
  rw [run_equalIn_struct _ _ _ _ _ (by kernel_rfl) (by kernel_rfl)]
  simp only [Program.fieldsOf, u]
  obtain ⟨x1, x2, x3, x4⟩ := x
  obtain ⟨y1, y2, y3, y4⟩ := y
  by_cases h1 : x1 = y1 <;> by_cases h2 : x2 = y2 <;> by_cases h3 : x3 = y3 <;> by_cases h4 : x4 = y4 <;> simp [Op.eqFields, part, z, z2, g, hid, run_equalIn_int _ _ _ _ _ _ _ u3, h1, h2, h3, h4]
theorem eql_votew (x y : Vote) (w : World) : (binOp .eql 38 (.agg #[.int .i64 x.frm, .int .i64 x.slot, .int .u64 x.head.hi, .int .u64 x.head.lo]) (.agg #[.int .i64 y.frm, .int .i64 y.slot, .int .u64 y.head.hi, .int .u64 y.head.lo])).run Try.prog w = .ok (.bool (decide (x = y))) w := by
  have h := eqlIn_vote 9997 x y w
  unfold votev at h
  rw [run_eql_struct, h]
  rfl
theorem neq_votew (x y : Vote) (w : World) : (binOp .neq 38 (.agg #[.int .i64 x.frm, .int .i64 x.slot, .int .u64 x.head.hi, .int .u64 x.head.lo]) (.agg #[.int .i64 y.frm, .int .i64 y.slot, .int .u64 y.head.hi, .int .u64 y.head.lo])).run Try.prog w = .ok (.bool (!decide (x = y))) w := by
  have h := eqlIn_vote 9997 x y w
  unfold votev at h
  rw [run_neq_struct, h]
  rfl
/-! The chapter's example. -/
def awL : List Vote := [⟨1, 3, ⟨0, 0⟩⟩, ⟨1, 3, ⟨1, 1⟩⟩, ⟨2, 3, ⟨0, 0⟩⟩]
theorem awL_d : dblL awL 3 = [1] := by
  refine (dblL_eq (o := [1]) ⟨⟨by simp, trivial⟩, fun f => ⟨fun h => ?_, fun h => ?_⟩⟩).symm
  · rw [List.mem_singleton.1 h]
    decide
  · obtain ⟨x, hx, hf, _⟩ := dbl_mem h
    unfold awL at hx
    simp only [List.mem_cons, List.not_mem_nil, or_false] at hx
    rcases hx with rfl | rfl | rfl
    · simp [← hf]
    · simp [← hf]
    · subst hf
      exact absurd h (by decide)
theorem awL_o : ofL awL 3 = [⟨2, 3, ⟨0, 0⟩⟩] := by kernel_rfl
theorem awL_l3 : (lastL awL 3).length = 1 := by kernel_rfl
theorem awL_l2 : (lastL awL 2).length = 0 := by kernel_rfl
set_option maxRecDepth 100000 in
set_option maxHeartbeats 1000000 in
theorem awake7_any (w : World) : Calls Try.prog 19 #[] w fun e w' => e = .returned (.bool true) ∧ Below w.heap.size w w' := by
  have hd := fun (V : World) (hV : Rd 4 encVote V (some ⟨w.heap.size, 0, none⟩) awL) => doubles_any awL 3 _ 3 V hV (by decide)
  have ho := fun (V : World) (hV : Rd 4 encVote V (some ⟨w.heap.size, 0, none⟩) awL) => vof_any awL 3 _ 3 V hV (by decide)
  have h3 := fun (V : World) (hV : Rd 4 encVote V (some ⟨w.heap.size, 0, none⟩) awL) => vlast_any awL 3 _ 3 V hV (by decide)
  have h2 := fun (V : World) (hV : Rd 4 encVote V (some ⟨w.heap.size, 0, none⟩) awL) => vlast_any awL 2 _ 3 V hV (by decide)
  rw [awL_d] at hd
  rw [awL_o] at ho
  rw [show awL.length = 3 from rfl] at hd ho h3 h2
  have l3 := awL_l3
  have l2 := awL_l2
  obtain ⟨m3, hm3⟩ : ∃ m3, lastL awL 3 = m3 := ⟨_, rfl⟩
  obtain ⟨m2, hm2⟩ : ∃ m2, lastL awL 2 = m2 := ⟨_, rfl⟩
  rw [hm3] at h3 l3
  rw [hm2] at h2 l2
  clear hm3 hm2
  have hB : Below w.heap.size w (w.alloc (.cells #[.int .i64 1, .int .i64 3, .int .u64 0, .int .u64 0, .int .i64 1, .int .i64 3, .int .u64 1, .int .u64 1, .int .i64 2, .int .i64 3, .int .u64 0, .int .u64 0] 38)) := (Below.refl _ w).alloc (Nat.le_refl _) _
  have hR : Rd 4 encVote (w.alloc (.cells #[.int .i64 1, .int .i64 3, .int .u64 0, .int .u64 0, .int .i64 1, .int .i64 3, .int .u64 1, .int .u64 1, .int .i64 2, .int .i64 3, .int .u64 0, .int .u64 0] 38)) (some ⟨w.heap.size, 0, none⟩) awL := Rd_flat encVote_len (by decide) (ha_at rfl) rfl
  go_enter Try.func19, Try.ntmps19
  go_wp2_with (first
    | (go_at_call 21; (with_reducible refine (hd _ hR).mono ?_); clear hd; rintro e w1 ⟨u, rfl, ho1, hb1⟩; have hB1 := below_call hB hB.size hb1; have hR1 := hR.below hb1; obtain ⟨A1, c1, hu, hr1⟩ := ho1.rd encI_len; simp only [List.length_singleton] at hu; subst hu)
    | (go_at_call 14; (with_reducible refine (ho _ hR1).mono ?_); clear ho; rintro e w2 ⟨u, rfl, ho2, hb2⟩; have hB2 := below_call hB1 hB1.size hb2; have hR2 := hR1.below hb2; have hr1' := hr1.below hb2; obtain ⟨A2, c2, hu, hr2⟩ := ho2.rd encVote_len; simp only [List.length_singleton] at hu; subst hu; obtain ⟨b1, o1, rfl, hbo1, q0⟩ := hr1'.atI (i := 0) (by decide); obtain ⟨b2, o2, rfl, hbo2, q1, q2, q3, q4⟩ := hr2.atVote (i := 0) (by decide); simp only [Nat.zero_mul, Nat.add_zero, List.getElem_cons_zero] at q0 q1)
    | (go_at_call 25; (with_reducible refine (h3 _ hR2).mono ?_); clear h3; rintro e w3 ⟨u, rfl, ho3, hb3⟩; have hB3 := below_call hB2 hB2.size hb3; have hR3 := hR2.below hb3; obtain ⟨A3, c3, rfl, _⟩ := ho3.rd encVote_len)
    | (go_at_call 25; (with_reducible refine (h2 _ hR3).mono ?_); clear h2; rintro e w4 ⟨u, rfl, ho4, hb4⟩; have hB4 := below_call hB3 hB3.size hb4; obtain ⟨A4, c4, rfl, _⟩ := ho4.rd encVote_len))
  go_ret
  exact ⟨rfl, hB4⟩
end Go.Proofs.Ytkccakaaklemdaa
