/- The walks of marigoldref02 and marigoldref06. -/
import Derived.Test.YtionkkjdaghakaaTreeW
import Derived.Laws.BitsAllLaws
namespace Go.Proofs.Ytionkkjdaghakaa
open Go.RowKit
set_option maxRecDepth 100000 in
set_option maxHeartbeats 1000000 in
theorem rword_any (x : Int) (w : World) :
    Calls Try.prog 59 #[.int .u64 x] w fun e w' => e = .returned (.int .u64 (mixWord x)) ∧ w' = w := by
  go_enter Try.func59, Try.ntmps59
  go_wp2
  go_ret
  exact ⟨rfl, rfl⟩
set_option maxRecDepth 100000 in
set_option maxHeartbeats 1000000 in
theorem rstep_any (h x : Int) (w : World) :
    Calls Try.prog 57 #[.int .u64 h, .int .u64 x] w fun e w' => e = .returned (.int .u64 (mixStep h x)) ∧ w' = w := by
  go_enter Try.func57, Try.ntmps57
  go_wp2_with (go_at_call 59; refine (rword_any _ _).mono ?_; rintro e w' ⟨rfl, rfl⟩)
  go_ret
  exact ⟨rfl, rfl⟩
/-- A word. -/
def U64 (x : Int) : Prop := 0 ≤ x ∧ x ≤ 18446744073709551615
theorem compl_u64 {x : Int} (h : U64 x) : bits BinOp.xor IntKind.u64 IntKind.u64.max x = 18446744073709551615 - x := by
  obtain ⟨h0, h1⟩ := h
  obtain ⟨n, rfl⟩ : ∃ n : Nat, x = n := ⟨x.toNat, by omega⟩
  have hm : IntKind.u64.max = ((18446744073709551615 : Nat) : Int) := by decide
  rw [hm, u64_xor_nat _ _ (by omega) (by omega)]
  have : 18446744073709551615 ^^^ n = 18446744073709551615 - n := by
    have hn : n < 2 ^ 64 := by omega
    have h2 : (18446744073709551615 : Nat) = 2 ^ 64 - 1 := by decide
    rw [h2]
    apply Nat.eq_of_testBit_eq
    intro i
    rw [Nat.testBit_xor, Nat.testBit_two_pow_sub_one, show 2 ^ 64 - 1 - n = 2 ^ 64 - (n + 1) by omega, Nat.testBit_two_pow_sub_succ hn]
    by_cases hi : i < 64
    · simp [hi]
    · simp [hi]
      exact Nat.testBit_lt_two_pow (Nat.lt_of_lt_of_le hn (Nat.pow_le_pow_right (by omega) (by omega)))
  rw [this]
  omega
set_option maxRecDepth 100000 in
set_option maxHeartbeats 1000000 in
theorem rof_any (l : List Int) (A : Option Addr) (c : Nat) (w : World) (hr : Rd 1 encU w A l) (hu : ∀ x ∈ l, U64 x) (hl : l.length ≤ 100000) :
    Calls Try.prog 54 #[.slice A l.length c] w fun e w' => e = .returned (idv (mixOf l)) ∧ Below w.heap.size w w' := by
  go_enter Try.func54, Try.ntmps54
  go_wp2_with fail
  have hm := hr.1
  go_loopw [3, 4, 5, 6] (fun a b i _x wr => ∃ k : Nat, k ≤ l.length + 1 ∧ i = .int .i64 k ∧ a = .int .u64 (mixFold ⟨1, 2⟩ ((l ++ [(l.length : Int)]).take k)).1 ∧ b = .int .u64 (mixFold ⟨1, 2⟩ ((l ++ [(l.length : Int)]).take k)).2 ∧ wr.heap[w.heap.size]? = some (.cells #[.int .u64 0, .int .u64 0] 25 (0, 0)) ∧ Below w.heap.size w wr) (fun _ _ i _ _ => l.length + 1 - (intOf i).toNat)
  case atStart =>
    exact ⟨0, Nat.zero_le _, rfl, rfl, rfl, ha_at rfl, (Below.refl _ w).alloc (Nat.le_refl _) _⟩
  case round =>
    obtain ⟨k, hk, rfl, rfl, rfl, hb0, hB⟩ := hrel
    generalize hp : mixFold ⟨1, 2⟩ ((l ++ [(l.length : Int)]).take k) = p
    have hp := Lib.hid hp
    by_cases hlt : k < l.length
    · obtain ⟨b, o, rfl, hbo, hc⟩ := (hr.below hB).atU hlt
      have hx := hu _ (List.getElem_mem hlt)
      have hcm := compl_u64 hx
      obtain ⟨hx0, hx1⟩ := hx
      have hs : mixFold ⟨1, 2⟩ ((l ++ [(l.length : Int)]).take (k + 1)) = ⟨mixStep p.1 l[k], mixStep p.2 (18446744073709551615 - l[k])⟩ := by
        rw [List.take_append_of_le_length (by omega), ← List.take_append_getElem hlt, mixFold_snoc, hcm, ← hp.out, List.take_append_of_le_length (by omega)]
      have hs := Lib.hid hs
      clear hcm
      go_wp2_with (go_at_call 57; refine (rstep_any _ _ _).mono ?_; rintro e w' ⟨rfl, rfl⟩)
      go_roundw
      case rel => exact ⟨k + 1, by omega, by go_num, by rw [hs.out], by rw [hs.out], hb0, hB⟩
      case measure => simp [intOf]; omega
    · by_cases he : k = l.length
      · subst he
        have hcm := compl_u64 (x := (l.length : Int)) ⟨by omega, by omega⟩
        have hs : mixFold ⟨1, 2⟩ ((l ++ [(l.length : Int)]).take (l.length + 1)) = ⟨mixStep p.1 l.length, mixStep p.2 (18446744073709551615 - l.length)⟩ := by
          rw [← hp.out, List.take_of_length_le (by simp), List.take_append_of_le_length (by omega), List.take_length, mixFold_snoc, hcm]
        have hs := Lib.hid hs
        clear hcm
        go_wp2_with (go_at_call 57; refine (rstep_any _ _ _).mono ?_; rintro e w' ⟨rfl, rfl⟩)
        go_roundw
        case rel => exact ⟨l.length + 1, by omega, by go_num, by rw [hs.out], by rw [hs.out], hb0, hB⟩
        case measure => simp [intOf]
      · obtain rfl : k = l.length + 1 := by omega
        have hs : mixOf l = p := by
          rw [← hp.out, List.take_of_length_le (by simp)]
          rfl
        have hs := Lib.hid hs
        obtain ⟨d0, d1, g0, g1⟩ := blk2 hb0
        go_wp2
        refine bodyPost_ret (v := idv (mixOf l)) ?_ rfl ⟨rfl, ?_⟩
        · simp [results, Try.results54, go_sem, d0, d1, idv, hs.out]
        · exact (hB.setCell (p := ⟨w.heap.size, 0, none⟩) (Nat.le_refl _) _).setCell (p := ⟨w.heap.size, 1, none⟩) (Nat.le_refl _) _
/-- A block whose numbers are of their kinds. -/
structure Blk.Ok (b : Blk) : Prop where
  slot : -9223372036854775808 ≤ b.slot ∧ b.slot ≤ 9223372036854775807
  frm : -9223372036854775808 ≤ b.frm ∧ b.frm ≤ 9223372036854775807
  hi : U64 b.par.hi
  lo : U64 b.par.lo
  salt : U64 b.salt
theorem wrap_u64 (x : Int) : U64 (IntKind.u64.wrap x) := by
  have : IntKind.u64.wrap x = x % 18446744073709551616 := by simp [IntKind.wrap, IntKind.bits, IntKind.signed]
  rw [this]
  unfold U64
  omega
set_option maxRecDepth 100000 in
set_option maxHeartbeats 1000000 in
theorem rname_any (b : Blk) (hb : b.Ok) (w : World) :
    Calls Try.prog 48 #[.agg #[.int .i64 b.slot, .int .i64 b.frm, .int .u64 b.par.1, .int .u64 b.par.2, .int .u64 b.salt]] w fun e w' => e = .returned (idv (nameOf b)) ∧ Below w.heap.size w w' := by
  have hu : ∀ x ∈ [1, IntKind.u64.wrap b.slot, IntKind.u64.wrap b.frm, b.par.1, b.par.2, b.salt], U64 x := by
    intro x hx
    simp only [List.mem_cons, List.mem_nil_iff, or_false] at hx
    rcases hx with rfl | rfl | rfl | rfl | rfl | rfl
    · exact ⟨by omega, by omega⟩
    · exact wrap_u64 _
    · exact wrap_u64 _
    · exact hb.hi
    · exact hb.lo
    · exact hb.salt
  clear hb
  go_enter Try.func48, Try.ntmps48
  go_wp2_with fail
  refine (rof_any [1, IntKind.u64.wrap b.slot, IntKind.u64.wrap b.frm, b.par.1, b.par.2, b.salt] _ _ _ (Rd_newU (by simp) rfl (by simp)) hu (by simp)).mono ?_
  rintro e w1 ⟨rfl, hb⟩
  have hr : w1.heap[w.heap.size + 1]? = some (.cells #[.int .u64 0, .int .u64 0] 25 (0, 0)) := bl_own hb (ha_lt (ha_at (by simp)))
  obtain ⟨d0, d1, g0, g1⟩ := blk2 hr
  unfold idv
  go_wp2
  refine bodyPost_ret (v := idv (nameOf b)) ?_ rfl ⟨rfl, ?_⟩
  · simp [results, Try.results48, go_sem, d0, d1, idv, nameOf]
  · exact ((below_call ((((Below.refl _ w).alloc (Nat.le_refl _) _).alloc (by simp <;> omega) _).alloc (by simp <;> omega) _) (by simp <;> omega) hb).setCell (p := ⟨w.heap.size + 1, 0, none⟩) (by simp) _).setCell (p := ⟨w.heap.size + 1, 1, none⟩) (by simp) _
set_option maxRecDepth 100000 in
set_option maxHeartbeats 1000000 in
theorem rat_any (x : ID) (xs : List ID) (A : Option Addr) (c : Nat) (w : World) (hr : Rd 2 encID w A xs) :
    Calls Try.prog 53 #[.slice A xs.length c, idv x] w fun e w' => e = .returned (.int .i64 (idxI xs x)) ∧ Below w.heap.size w w' := by
  unfold idv
  go_enter Try.func53, Try.ntmps53
  go_wp2_with fail
  have hm := hr.1
  go_loopw [5] (fun i wr => ∃ k : Nat, k ≤ xs.length ∧ i = .int .i64 k ∧ x ∉ xs.take k ∧ wr.heap[w.heap.size]? = some (.cells #[.int .u64 x.1, .int .u64 x.2] 25 (0, 0)) ∧ Below w.heap.size w wr) (fun i _ => xs.length - (intOf i).toNat)
  case atStart => exact ⟨0, Nat.zero_le _, rfl, by simp, ha_at rfl, (Below.refl _ w).alloc (Nat.le_refl _) _⟩
  case round =>
    obtain ⟨k, hk, rfl, hno, hb, hB⟩ := hrel
    obtain ⟨c0, c1, f0, f1⟩ := blk2 hb
    by_cases hlt : k < xs.length
    · obtain ⟨b, o, rfl, hbo, d0, d1⟩ := (hr.below hB).atID hlt
      have heq := eql_id xs[k] x
      unfold idv at heq
      by_cases hx : x = xs[k]
      · have hd : decide (xs[k] = x) = true := by simpa using hx.symm
        rw [hd] at heq
        have hi := Lib.hid (idx_hit hlt hno hx)
        clear hd hx
        go_wp2_with fail
        go_quiet (fail)
        go_wp2
        go_ret
        exact ⟨ret_int hi.out.symm, pw_below_drewN hB _⟩
      · have hd : decide (xs[k] = x) = false := by simpa using fun e => hx e.symm
        rw [hd] at heq
        have hn := not_mem_step hlt hno hx
        clear hd hx
        go_wp2_with fail
        go_quiet (fail)
        go_wp2
        go_roundw
        case rel => exact ⟨k + 1, hlt, by go_num, hn, hb, pw_below_drewN hB _⟩
        case measure => simp [intOf]; omega
    · obtain rfl : k = xs.length := by omega
      have hi := Lib.hid (idx_miss (by simpa using hno : x ∉ xs))
      go_wp2_with fail
      go_ret
      exact ⟨ret_int hi.out.symm, hB⟩
def names (l : List Blk) : List ID := l.map nameOf
set_option maxRecDepth 100000 in
set_option maxHeartbeats 1000000 in
theorem rnames_any (l : List Blk) (A : Option Addr) (c : Nat) (w : World) (hr : Rd 5 encBlk w A l) (hok : ∀ b ∈ l, b.Ok) (hl : l.length ≤ 100000) :
    Calls Try.prog 37 #[.slice A l.length c] w fun e w' => ∃ v, e = .returned v ∧ Own w' w.heap.size 25 2 encID v (names l) ∧ Below w.heap.size w w' := by
  have hun := Try.underlying62
  have hm := hr.1
  go_enter Try.func37, Try.ntmps37
  go_wp2_with fail
  go_loopw [3, 4] (fun v i wr => ∃ k : Nat, k ≤ l.length ∧ i = .int .i64 k ∧ Own wr w.heap.size 25 2 encID v (names (l.take k)) ∧ Below w.heap.size w wr) (fun _ i _ => l.length - (intOf i).toNat)
  case atStart => exact ⟨0, Nat.zero_le _, rfl, Own.nil _ _ _ _ _, Below.refl _ _⟩
  case round =>
    obtain ⟨k, hk, rfl, hown, hB⟩ := hrel
    by_cases hlt : k < l.length
    · obtain ⟨b', o, rfl, hbo, d0, d1, d2, d3, d4⟩ := (hr.below hB).atBlk hlt
      have hsn : names (l.take (k + 1)) = names (l.take k) ++ [nameOf l[k]] := by
        unfold names
        rw [← List.take_append_getElem hlt, List.map_append]
        rfl
      have hbok := hok _ (List.getElem_mem hlt)
      have hle : (names (l.take k)).length ≤ 100000 := by simp [names]; omega
      obtain ⟨b, hbk⟩ : ∃ b, l[k] = b := ⟨_, rfl⟩
      rw [hbk] at d0 d1 d2 d3 d4 hsn hbok
      have hsn' := Lib.hid hsn
      clear hbk hsn
      have hcall := fun W => rname_any b hbok W
      clear hbok
      have hvb : ∀ k, u3.ownBlock = some k → w.heap.size ≤ k := fun k hk => (hown.base k hk).1
      unfold idv at hcall
      go_wp2_with (first | (go_at_call 48; refine (hcall _).mono ?_; rintro e w2 ⟨rfl, hb2⟩; have hB2 := below_call hB hB.size hb2; have ho2 := hown.below hb2; have hW3 : Below w2.heap.size w2 (w2.alloc (.cells #[.int .u64 (nameOf b).hi, .int .u64 (nameOf b).lo] 25)) := (Below.refl _ w2).alloc (Nat.le_refl _) _; have ho3 := ho2.below hW3; have hB3 := hB2.trans (hW3.mono hB2.size)) | (at_builtin; refine wp_append1 rfl rfl hun infoID rfl (by decide) encID_len encID_one rfl ho3 (g := w2.heap.size) (c := 1) rfl (y := nameOf b) (ha_at rfl) rfl (by omega) (by unfold maxLen; omega) hB3.size ?_; intro v' w4 ho4 hg4 hat4))
      go_roundw
      case rel => exact ⟨k + 1, hlt, by go_num, by rw [hsn'.out]; exact ho4, below_step hB3 hB3.size hg4 hvb⟩
      case measure => simp [intOf]; omega
    · obtain rfl : k = l.length := by omega
      rw [List.take_length] at hown
      go_wp2
      go_ret
      exact ⟨_, rfl, hown, hB⟩
end Go.Proofs.Ytionkkjdaghakaa
