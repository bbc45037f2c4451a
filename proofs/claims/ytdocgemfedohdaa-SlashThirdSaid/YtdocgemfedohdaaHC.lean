/- HC: several texts in one. -/
import Derived.Test.YtdocgemfedohdaaHB
import Derived.Laws.BitsAllLaws
/-! The walks of marigoldref02 and marigoldref06. -/
namespace Go.Proofs.Ytdocgemfedohdaa
open Go.RowKit
set_option maxRecDepth 100000 in
set_option maxHeartbeats 1000000 in
theorem rword_any (x : Int) (w : World) :
    Calls Try.prog 133 #[.int .u64 x] w fun e w' => e = .returned (.int .u64 (mixWord x)) ∧ w' = w := by
  go_enter Try.func133, Try.ntmps133
  go_wp2
  go_ret
  exact ⟨rfl, rfl⟩
set_option maxRecDepth 100000 in
set_option maxHeartbeats 1000000 in
theorem rstep_any (h x : Int) (w : World) :
    Calls Try.prog 121 #[.int .u64 h, .int .u64 x] w fun e w' => e = .returned (.int .u64 (mixStep h x)) ∧ w' = w := by
  go_enter Try.func121, Try.ntmps121
  go_wp2_with (go_at_call 133; refine (rword_any _ _).mono ?_; rintro e w' ⟨rfl, rfl⟩)
  go_ret
  exact ⟨rfl, rfl⟩
/-- A word. -/
def U64 (x : Int) : Prop := 0 ≤ x ∧ x ≤ 18446744073709551615
theorem compl_u64 {x : Int} (h : U64 x) : bits BinOp.xor IntKind.u64 IntKind.u64.max x = 18446744073709551615 - x := by
  obtain ⟨h0, h1⟩ := h
  obtain ⟨n, rfl⟩ : ∃ n : Nat, x = n := ⟨x.toNat, by omega⟩
  have hm : IntKind.u64.max = ((18446744073709551615 : Nat) : Int) := by decide
  rw [hm, u64_xor_nat _ _ (by omega) (by omega)]
  have : 18446744073709551615 ^^^ n = 18446744073709551615 - n := by
    have hn : n < 2 ^ 64 := by omega
    have h2 : (18446744073709551615 : Nat) = 2 ^ 64 - 1 := by decide
    rw [h2]
    apply Nat.eq_of_testBit_eq
    intro i
    rw [Nat.testBit_xor, Nat.testBit_two_pow_sub_one, show 2 ^ 64 - 1 - n = 2 ^ 64 - (n + 1) by omega, Nat.testBit_two_pow_sub_succ hn]
    by_cases hi : i < 64
    · simp [hi]
    · simp [hi]
      exact Nat.testBit_lt_two_pow (Nat.lt_of_lt_of_le hn (Nat.pow_le_pow_right (by omega) (by omega)))
  rw [this]
  omega
set_option maxRecDepth 100000 in
set_option maxHeartbeats 1000000 in
theorem rof_any (l : List Int) (A : Option Addr) (c : Nat) (w : World) (hr : Rd 1 encU w A l) (hu : ∀ x ∈ l, U64 x) (hl : l.length ≤ 100000) :
    Calls Try.prog 106 #[.slice A l.length c] w fun e w' => e = .returned (idv (mixOf l)) ∧ Below w.heap.size w w' := by
  go_enter Try.func106, Try.ntmps106
  go_wp2_with fail
  have hm := hr.1
  go_loopw [3, 4, 5, 6] (fun a b i _x wr => ∃ k : Nat, k ≤ l.length + 1 ∧ i = .int .i64 k ∧ a = .int .u64 (mixFold ⟨1, 2⟩ ((l ++ [(l.length : Int)]).take k)).1 ∧ b = .int .u64 (mixFold ⟨1, 2⟩ ((l ++ [(l.length : Int)]).take k)).2 ∧ wr.heap[w.heap.size]? = some (.cells #[.int .u64 0, .int .u64 0] 29 (0, 0)) ∧ Below w.heap.size w wr) (fun _ _ i _ _ => l.length + 1 - (intOf i).toNat)
  case atStart =>
    exact ⟨0, Nat.zero_le _, rfl, rfl, rfl, ha_at rfl, (Below.refl _ w).alloc (Nat.le_refl _) _⟩
  case round =>
    obtain ⟨k, hk, rfl, rfl, rfl, hb0, hB⟩ := hrel
    generalize hp : mixFold ⟨1, 2⟩ ((l ++ [(l.length : Int)]).take k) = p
    have hp := Lib.hid hp
    by_cases hlt : k < l.length
    · obtain ⟨b, o, rfl, hbo, hc⟩ := (hr.below hB).atU hlt
      have hx := hu _ (List.getElem_mem hlt)
      have hcm := compl_u64 hx
      obtain ⟨hx0, hx1⟩ := hx
      have hs : mixFold ⟨1, 2⟩ ((l ++ [(l.length : Int)]).take (k + 1)) = ⟨mixStep p.1 l[k], mixStep p.2 (18446744073709551615 - l[k])⟩ := by
        rw [List.take_append_of_le_length (by omega), ← List.take_append_getElem hlt, mixFold_snoc, hcm, ← hp.out, List.take_append_of_le_length (by omega)]
      have hs := Lib.hid hs
      clear hcm
      go_wp2_with (go_at_call 121; refine (rstep_any _ _ _).mono ?_; rintro e w' ⟨rfl, rfl⟩)
      go_roundw
      case rel => exact ⟨k + 1, by omega, by go_num, by rw [hs.out], by rw [hs.out], hb0, hB⟩
      case measure => simp [intOf]; omega
    · by_cases he : k = l.length
      · subst he
        have hcm := compl_u64 (x := (l.length : Int)) ⟨by omega, by omega⟩
        have hs : mixFold ⟨1, 2⟩ ((l ++ [(l.length : Int)]).take (l.length + 1)) = ⟨mixStep p.1 l.length, mixStep p.2 (18446744073709551615 - l.length)⟩ := by
          rw [← hp.out, List.take_of_length_le (by simp), List.take_append_of_le_length (by omega), List.take_length, mixFold_snoc, hcm]
        have hs := Lib.hid hs
        clear hcm
        go_wp2_with (go_at_call 121; refine (rstep_any _ _ _).mono ?_; rintro e w' ⟨rfl, rfl⟩)
        go_roundw
        case rel => exact ⟨l.length + 1, by omega, by go_num, by rw [hs.out], by rw [hs.out], hb0, hB⟩
        case measure => simp [intOf]
      · obtain rfl : k = l.length + 1 := by omega
        have hs : mixOf l = p := by
          rw [← hp.out, List.take_of_length_le (by simp)]
          rfl
        have hs := Lib.hid hs
        obtain ⟨d0, d1, g0, g1⟩ := blk2 hb0
        go_wp2
        refine bodyPost_ret (v := idv (mixOf l)) ?_ rfl ⟨rfl, ?_⟩
        · simp [results, Try.results106, go_sem, d0, d1, idv, hs.out]
        · exact (hB.setCell (p := ⟨w.heap.size, 0, none⟩) (Nat.le_refl _) _).setCell (p := ⟨w.heap.size, 1, none⟩) (Nat.le_refl _) _
/-- A block whose numbers are of their kinds. -/
structure Blk.Ok (b : Blk) : Prop where
  slot : -9223372036854775808 ≤ b.slot ∧ b.slot ≤ 9223372036854775807
  frm : -9223372036854775808 ≤ b.frm ∧ b.frm ≤ 9223372036854775807
  hi : U64 b.par.hi
  lo : U64 b.par.lo
  salt : U64 b.salt
theorem wrap_u64 (x : Int) : U64 (IntKind.u64.wrap x) := by
  have : IntKind.u64.wrap x = x % 18446744073709551616 := by simp [IntKind.wrap, IntKind.bits, IntKind.signed]
  rw [this]
  unfold U64
  omega
set_option maxRecDepth 100000 in
set_option maxHeartbeats 1000000 in
theorem rname_any (b : Blk) (hb : b.Ok) (w : World) :
    Calls Try.prog 80 #[.agg #[.int .i64 b.slot, .int .i64 b.frm, .int .u64 b.par.1, .int .u64 b.par.2, .int .u64 b.salt]] w fun e w' => e = .returned (idv (nameOf b)) ∧ Below w.heap.size w w' := by
  have hu : ∀ x ∈ [1, IntKind.u64.wrap b.slot, IntKind.u64.wrap b.frm, b.par.1, b.par.2, b.salt], U64 x := by
    intro x hx
    simp only [List.mem_cons, List.mem_nil_iff, or_false] at hx
    rcases hx with rfl | rfl | rfl | rfl | rfl | rfl
    · exact ⟨by omega, by omega⟩
    · exact wrap_u64 _
    · exact wrap_u64 _
    · exact hb.hi
    · exact hb.lo
    · exact hb.salt
  clear hb
  go_enter Try.func80, Try.ntmps80
  go_wp2_with fail
  refine (rof_any [1, IntKind.u64.wrap b.slot, IntKind.u64.wrap b.frm, b.par.1, b.par.2, b.salt] _ _ _ (Rd_newU (by simp) rfl (by simp)) hu (by simp)).mono ?_
  rintro e w1 ⟨rfl, hb⟩
  have hr : w1.heap[w.heap.size + 1]? = some (.cells #[.int .u64 0, .int .u64 0] 29 (0, 0)) := bl_own hb (ha_lt (ha_at (by simp)))
  obtain ⟨d0, d1, g0, g1⟩ := blk2 hr
  unfold idv
  go_wp2
  refine bodyPost_ret (v := idv (nameOf b)) ?_ rfl ⟨rfl, ?_⟩
  · simp [results, Try.results80, go_sem, d0, d1, idv, nameOf]
  · exact ((below_call ((((Below.refl _ w).alloc (Nat.le_refl _) _).alloc (by simp <;> omega) _).alloc (by simp <;> omega) _) (by simp <;> omega) hb).setCell (p := ⟨w.heap.size + 1, 0, none⟩) (by simp) _).setCell (p := ⟨w.heap.size + 1, 1, none⟩) (by simp) _
set_option maxRecDepth 100000 in
set_option maxHeartbeats 1000000 in
theorem rat_any (x : ID) (xs : List ID) (A : Option Addr) (c : Nat) (w : World) (hr : Rd 2 encID w A xs) :
    Calls Try.prog 57 #[.slice A xs.length c, idv x] w fun e w' => e = .returned (.int .i64 (idxI xs x)) ∧ Below w.heap.size w w' := by
  unfold idv
  go_enter Try.func57, Try.ntmps57
  go_wp2_with fail
  have hm := hr.1
  go_loopw [5] (fun i wr => ∃ k : Nat, k ≤ xs.length ∧ i = .int .i64 k ∧ x ∉ xs.take k ∧ wr.heap[w.heap.size]? = some (.cells #[.int .u64 x.1, .int .u64 x.2] 29 (0, 0)) ∧ Below w.heap.size w wr) (fun i _ => xs.length - (intOf i).toNat)
  case atStart => exact ⟨0, Nat.zero_le _, rfl, by simp, ha_at rfl, (Below.refl _ w).alloc (Nat.le_refl _) _⟩
  case round =>
    obtain ⟨k, hk, rfl, hno, hb, hB⟩ := hrel
    obtain ⟨c0, c1, f0, f1⟩ := blk2 hb
    by_cases hlt : k < xs.length
    · obtain ⟨b, o, rfl, hbo, d0, d1⟩ := (hr.below hB).atID hlt
      have heq := eql_id xs[k] x
      unfold idv at heq
      by_cases hx : x = xs[k]
      · have hd : decide (xs[k] = x) = true := by simpa using hx.symm
        rw [hd] at heq
        have hi := Lib.hid (idx_hit hlt hno hx)
        clear hd hx
        go_wp2_with fail
        go_quiet (fail)
        go_wp2
        go_ret
        exact ⟨ret_int hi.out.symm, pw_below_drewN hB _⟩
      · have hd : decide (xs[k] = x) = false := by simpa using fun e => hx e.symm
        rw [hd] at heq
        have hn := not_mem_step hlt hno hx
        clear hd hx
        go_wp2_with fail
        go_quiet (fail)
        go_wp2
        go_roundw
        case rel => exact ⟨k + 1, hlt, by go_num, hn, hb, pw_below_drewN hB _⟩
        case measure => simp [intOf]; omega
    · obtain rfl : k = xs.length := by omega
      have hi := Lib.hid (idx_miss (by simpa using hno : x ∉ xs))
      go_wp2_with fail
      go_ret
      exact ⟨ret_int hi.out.symm, hB⟩
def names (l : List Blk) : List ID := l.map nameOf
set_option maxRecDepth 100000 in
set_option maxHeartbeats 1000000 in
theorem rnames_any (l : List Blk) (A : Option Addr) (c : Nat) (w : World) (hr : Rd 5 encBlk w A l) (hok : ∀ b ∈ l, b.Ok) (hl : l.length ≤ 100000) :
    Calls Try.prog 56 #[.slice A l.length c] w fun e w' => ∃ v, e = .returned v ∧ Own w' w.heap.size 29 2 encID v (names l) ∧ Below w.heap.size w w' := by
  have hun := Try.underlying67
  have hm := hr.1
  go_enter Try.func56, Try.ntmps56
  go_wp2_with fail
  go_loopw [3, 4] (fun v i wr => ∃ k : Nat, k ≤ l.length ∧ i = .int .i64 k ∧ Own wr w.heap.size 29 2 encID v (names (l.take k)) ∧ Below w.heap.size w wr) (fun _ i _ => l.length - (intOf i).toNat)
  case atStart => exact ⟨0, Nat.zero_le _, rfl, Own.nil _ _ _ _ _, Below.refl _ _⟩
  case round =>
    obtain ⟨k, hk, rfl, hown, hB⟩ := hrel
    by_cases hlt : k < l.length
    · obtain ⟨b', o, rfl, hbo, d0, d1, d2, d3, d4⟩ := (hr.below hB).atBlk hlt
      have hsn : names (l.take (k + 1)) = names (l.take k) ++ [nameOf l[k]] := by
        unfold names
        rw [← List.take_append_getElem hlt, List.map_append]
        rfl
      have hbok := hok _ (List.getElem_mem hlt)
      have hle : (names (l.take k)).length ≤ 100000 := by simp [names]; omega
      obtain ⟨b, hbk⟩ : ∃ b, l[k] = b := ⟨_, rfl⟩
      rw [hbk] at d0 d1 d2 d3 d4 hsn hbok
      have hsn' := Lib.hid hsn
      clear hbk hsn
      have hcall := fun W => rname_any b hbok W
      clear hbok
      have hvb : ∀ k, u3.ownBlock = some k → w.heap.size ≤ k := fun k hk => (hown.base k hk).1
      unfold idv at hcall
      go_wp2_with (first | (go_at_call 80; refine (hcall _).mono ?_; rintro e w2 ⟨rfl, hb2⟩; have hB2 := below_call hB hB.size hb2; have ho2 := hown.below hb2; have hW3 : Below w2.heap.size w2 (w2.alloc (.cells #[.int .u64 (nameOf b).hi, .int .u64 (nameOf b).lo] 29)) := (Below.refl _ w2).alloc (Nat.le_refl _) _; have ho3 := ho2.below hW3; have hB3 := hB2.trans (hW3.mono hB2.size)) | (at_builtin; refine wp_append1 rfl rfl hun infoID rfl (by decide) encID_len encID_one rfl ho3 (g := w2.heap.size) (c := 1) rfl (y := nameOf b) (ha_at rfl) rfl (by omega) (by unfold maxLen; omega) hB3.size ?_; intro v' w4 ho4 hg4 hat4))
      go_roundw
      case rel => exact ⟨k + 1, hlt, by go_num, by rw [hsn'.out]; exact ho4, below_step hB3 hB3.size hg4 hvb⟩
      case measure => simp [intOf]; omega
    · obtain rfl : k = l.length := by omega
      rw [List.take_length] at hown
      go_wp2
      go_ret
      exact ⟨_, rfl, hown, hB⟩
end Go.Proofs.Ytdocgemfedohdaa
/-! The walk of marigoldref06.may. -/
namespace Go.Proofs.Ytdocgemfedohdaa
open Go.RowKit
theorem names_take (l : List Blk) (k : Nat) : (names l).take k = names (l.take k) := by simp [names, List.map_take]
theorem mem_names {l : List Blk} {x : ID} : x ∈ names l ↔ ∃ b ∈ l, nameOf b = x := by simp [names]
theorem tree_pos {l : List Blk} (h : Tree l) : ∀ i (hi : i < l.length), 0 < l[i].slot := by
  intro i
  induction i using Nat.strongRecOn with
  | _ i ih =>
    intro hi
    rcases (h i hi).2.2 with ⟨_, h1⟩ | ⟨_, c, hc, _, h1⟩
    · exact h1
    · obtain ⟨j, hj, rfl⟩ := List.getElem_of_mem hc
      simp only [List.length_take] at hj
      have := ih j (by omega) (by omega)
      simp only [List.getElem_take] at h1
      omega
set_option maxRecDepth 100000 in
set_option maxHeartbeats 1000000 in
theorem rmay_any (l : List Blk) (A N : Option Addr) (c d : Nat) (w : World) (hr : Rd 5 encBlk w A l) (hn : Rd 2 encID w N (names l)) (hd : l.length ≤ d) (hl : l.length ≤ 100000) :
    Calls Try.prog 55 #[.slice A l.length c, .slice N l.length d] w fun e w' => e = .returned (.bool (mayB l)) ∧ Below w.heap.size w w' := by
  have hm := hr.1
  go_enter Try.func55, Try.ntmps55
  go_wp2_with fail
  go_loopw [5, 6, 7] (fun i s6 s7 wr => ∃ k : Nat, k ≤ l.length ∧ i = .int .i64 k ∧ Tree (l.take k) ∧ Below w.heap.size w wr) (fun i _ _ _ => l.length - (intOf i).toNat)
  case atStart => exact ⟨0, Nat.zero_le _, rfl, fun i h => by simp at h, Below.refl _ _⟩
  case round =>
    obtain ⟨k, hk, rfl, ht, hB⟩ := hrel
    by_cases hlt : k < l.length
    · have hnl : (names l)[k]'(by simpa [names] using hlt) = nameOf l[k] := by simp [names]
      obtain ⟨b', o, rfl, hbo, d0, d1, d2, d3, d4⟩ := (hr.below hB).atBlk hlt
      obtain ⟨n', q, rfl, hnq, e0, e1⟩ := (hn.below hB).atID (i := k) (by simpa [names] using hlt)
      rw [hnl] at e0 e1
      have htr : Tree (l.take (k + 1)) ↔ Tree (l.take k) ∧ Okb (l.take k) l[k] := tree_snoc hlt
      obtain ⟨b, hbk⟩ : ∃ b, l[k] = b := ⟨_, rfl⟩
      rw [hbk] at d0 d1 d2 d3 d4 e0 e1 htr
      have hfalse : ¬ Okb (l.take k) b → mayB l = false := fun h => by
        simp only [mayB, decide_eq_false_iff_not]
        intro ht'
        exact h (by rw [← hbk]; exact ht' k hlt)
      clear hbk
      have hokb : Okb (l.take k) b ↔ nameOf b ≠ zid ∧ (∀ c ∈ l.take k, nameOf c ≠ nameOf b) ∧ ((b.par = zid ∧ 0 < b.slot) ∨ (b.par ≠ zid ∧ ∃ c ∈ l.take k, nameOf c = b.par ∧ c.slot < b.slot)) := Iff.rfl
      obtain ⟨nm, hnm⟩ : ∃ nm, nameOf b = nm := ⟨_, rfl⟩
      rw [hnm] at e0 e1 hokb
      clear hnm
      have eqz := eql_idz nm
      have eqp := eql_idz b.par
      have hkl : ((names l).take k).length = k := by simp [names]; omega
      have hat := fun (x : ID) (W : World) (hW : Below w.heap.size w W) => rat_any x ((names l).take k) (some ⟨n', q, none⟩) d W ((hn.below hW).take k)
      rw [hkl] at hat
      unfold idv at hat
      have hBa : Below w.heap.size w (wr.alloc (.cells #[.int .i64 b.slot, .int .i64 b.frm, .int .u64 b.par.1, .int .u64 b.par.2, .int .u64 b.salt] 49)) := hB.alloc hB.size _
      have hatn := hat nm
      have hatp := hat b.par
      clear hat
      have hjn : (0 ≤ idxI ((names l).take k) nm) ↔ ∃ c ∈ l.take k, nameOf c = nm := by
        have := idx_mem ((names l).take k) nm
        rw [names_take, ← mem_names, ← names_take]
        simpa using this
      have hjp : ∀ n : Nat, idxI ((names l).take k) b.par = n → ∃ h : n < l.length, n < k ∧ nameOf l[n] = b.par := fun n h => by
        unfold idxI at h
        cases hf : ((names l).take k).findIdx? fun y => decide (y = b.par) with
        | none => rw [hf] at h; simp only at h; omega
        | some m =>
          rw [hf] at h
          rw [List.findIdx?_eq_some_iff_getElem] at hf
          obtain ⟨h1, h2, _⟩ := hf
          have : m = n := by simp only at h; omega
          subst this
          simp only [List.length_take, names, List.length_map] at h1
          simp only [names, List.getElem_take, List.getElem_map, decide_eq_true_eq] at h2
          exact ⟨by omega, by omega, h2⟩
      have hjp2 : (0 ≤ idxI ((names l).take k) b.par) ↔ ∃ c ∈ l.take k, nameOf c = b.par := by
        have := idx_mem ((names l).take k) b.par
        rw [names_take, ← mem_names, ← names_take]
        simpa using this
      have hlow : -1 ≤ idxI ((names l).take k) b.par := idx_low _ _
      obtain ⟨jn, hjne⟩ : ∃ j, idxI ((names l).take k) nm = j := ⟨_, rfl⟩
      obtain ⟨jp, hjpe⟩ : ∃ j, idxI ((names l).take k) b.par = j := ⟨_, rfl⟩
      rw [hjne] at hatn hjn
      rw [hjpe] at hatp hjp hjp2 hlow
      clear hjne hjpe
      have hfalse' := Lib.hid hfalse
      have htr' := Lib.hid htr
      have hokb' := Lib.hid hokb
      have hjn' := Lib.hid hjn
      have hjp' := Lib.hid hjp
      have hjp2' := Lib.hid hjp2
      clear hfalse htr hokb hjn hjp hjp2
      clear hnl hkl
      go_wp2_with fail
      obtain ⟨W5, hW5⟩ : ∃ W5, wr.alloc (.cells #[.int .i64 b.slot, .int .i64 b.frm, .int .u64 b.par.1, .int .u64 b.par.2, .int .u64 b.salt] 49) = W5 := ⟨_, rfl⟩
      rw [hW5]
      have hb6 : W5.heap[wr.heap.size]? = some (.cells #[.int .i64 b.slot, .int .i64 b.frm, .int .u64 b.par.1, .int .u64 b.par.2, .int .u64 b.salt] 49 (0, 0)) := by rw [← hW5]; exact ha_at rfl
      have hl5 : Below wr.heap.size wr W5 := by rw [← hW5]; exact (Below.refl _ wr).alloc (Nat.le_refl _) _
      rw [hW5] at hBa
      clear hW5
      have g0 := gr_cell ((hl5.cell (p := ⟨n', q + k * 2, none⟩) hnq).trans e0)
      have g1 := gr_cell ((hl5.cell (p := ⟨n', q + k * 2 + 1, none⟩) hnq).trans e1)
      have s0 := gr_cell (blk_cell hb6 0)
      have hBg : ∀ p, Below w.heap.size w (gr W5 p) := fun p => hBa.trans ((gr_below _ _).mono hBa.size)
      clear e0 e1 d0 d1 d2 d3 d4
      by_cases h1 : nm = zid
      · have hres := Lib.hid (hfalse'.out fun h => (hokb'.out.1 h).1 h1)
        have hz : decide (nm = zid) = true := by simpa using h1
        rw [hz] at eqz
        clear h1 hz
        refine wp_region_gr (by kernel_rfl) (by kernel_rfl) ?_
        repeat (go_big_quiet_step (fail))
        refine wpQuiet_nil ?_
        rintro _ ⟨pq, rfl⟩
        go_wp2
        go_ret
        exact ⟨ret_bool hres.out.symm, hBg _⟩
      · have hz : decide (nm = zid) = false := by simpa using h1
        rw [hz] at eqz
        clear hz
        have h1' := Lib.hid h1
        clear h1
        by_cases h2 : 0 ≤ jn
        · have hres := Lib.hid (hfalse'.out fun h => by
            obtain ⟨c, hc, he⟩ := hjn'.out.1 h2
            exact (hokb'.out.1 h).2.1 c hc he)
          have hz : decide (0 ≤ jn) = true := by simpa using h2
          refine wp_region_gr (by kernel_rfl) (by kernel_rfl) ?_
          repeat (go_big_quiet_step ((go_at_call 57; exact Calls.gr_of (hatn _ (hBg _)))))
          refine wpQuiet_nil ?_
          rintro _ ⟨pq, rfl⟩
          go_wp2
          go_ret
          exact ⟨ret_bool hres.out.symm, hBg _⟩
        · have hz2 : decide (0 ≤ jn) = false := by simpa using h2
          have h2' := Lib.hid h2
          clear h2
          by_cases h3 : b.slot < 1
          · have hres := Lib.hid (hfalse'.out fun h => by
              rcases (hokb'.out.1 h).2.2 with ⟨_, hs⟩ | ⟨_, c, hc, _, hs⟩
              · omega
              · obtain ⟨i, hi, rfl⟩ := List.getElem_of_mem hc
                have := tree_pos ht i hi
                omega)
            have hz3 : decide (b.slot < 1) = true := by simpa using h3
            clear h3
            refine wp_region_gr (by kernel_rfl) (by kernel_rfl) ?_
            repeat (go_big_quiet_step ((go_at_call 57; exact Calls.gr_of (hatn _ (hBg _)))))
            refine wpQuiet_nil ?_
            rintro _ ⟨pq, rfl⟩
            go_wp2
            go_ret
            exact ⟨ret_bool hres.out.symm, hBg _⟩
          · have hz3 : decide (b.slot < 1) = false := by simpa using h3
            refine wp_region_gr (by kernel_rfl) (by kernel_rfl) ?_
            repeat (go_big_quiet_step ((go_at_call 57; exact Calls.gr_of (hatn _ (hBg _)))))
            refine wpQuiet_nil ?_
            rintro _ ⟨pq, rfl⟩
            have t2 := gr_cell (blk_cell hb6 2) pq
            have t3 := gr_cell (blk_cell hb6 3) pq
            by_cases h4 : b.par = zid
            · have hz4 : decide (b.par = zid) = true := by simpa using h4
              rw [hz4] at eqp
              have ht2 : Tree (l.take (k + 1)) := htr'.out.2 ⟨ht, hokb'.out.2 ⟨h1'.out, fun c hc he => by have e1 := hjn'.out.2 ⟨c, hc, he⟩; have e2 := h2'.out; omega, .inl ⟨h4, by omega⟩⟩⟩
              clear h4 hz4 h3
              go_wp2
              go_roundw
              case rel => exact ⟨k + 1, hlt, by go_num, ht2, hBg _⟩
              case measure => simp [intOf]; omega
            · have hz4 : decide (b.par = zid) = false := by simpa using h4
              rw [hz4] at eqp
              have h4' := Lib.hid h4
              clear h4 hz4
              go_wp2
              have hb7 := gr_blk hb6 pq
              obtain ⟨W6, hW6⟩ : ∃ W6, gr W5 pq = W6 := ⟨_, rfl⟩
              have hB6 := hBg pq
              rw [hW6] at t2 t3 hb7 hB6 ⊢
              have p2 := gr_cell t2
              have p3 := gr_cell t3
              have p0 := gr_cell (blk_cell hb7 0)
              have hBg6 : ∀ p, Below w.heap.size w (gr W6 p) := fun p => hB6.trans ((gr_below _ _).mono hB6.size)
              clear hW6 t2 t3 hBg
              refine wp_region_gr (by kernel_rfl) (by kernel_rfl) ?_
              repeat (go_big_quiet_step ((go_at_call 57; exact Calls.gr_of (hatp _ (hBg6 _)))))
              refine wpQuiet_nil ?_
              rintro _ ⟨pq2, rfl⟩
              have hb8 := gr_blk hb7 pq2
              obtain ⟨W7, hW7⟩ : ∃ W7, gr W6 pq2 = W7 := ⟨_, rfl⟩
              have hB7 := hBg6 pq2
              rw [hW7] at hb8 hB7 ⊢
              have q0 := gr_cell (blk_cell hb8 0)
              have hBg7 : ∀ p, Below w.heap.size w (gr W7 p) := fun p => hB7.trans ((gr_below _ _).mono hB7.size)
              clear hW7 p0 p2 p3 hBg6 hatn hatp
              by_cases h5 : jp < 0
              · have hz5 : decide (jp < 0) = true := by simpa using h5
                have hres := Lib.hid (hfalse'.out fun h => by
                  rcases (hokb'.out.1 h).2.2 with ⟨hs, _⟩ | ⟨_, c, hc, he, _⟩
                  · exact h4'.out hs
                  · have := hjp2'.out.2 ⟨c, hc, he⟩
                    omega)
                clear h5
                go_wp2
                refine wp_region_gr (by kernel_rfl) (by kernel_rfl) ?_
                repeat (go_big_quiet_step (fail))
                refine wpQuiet_nil ?_
                rintro _ ⟨pq3, rfl⟩
                go_wp2
                go_ret
                exact ⟨ret_bool hres.out.symm, hBg7 _⟩
              · have hz5 : decide (jp < 0) = false := by simpa using h5
                obtain ⟨n, rfl⟩ : ∃ n : Nat, jp = n := ⟨jp.toNat, by omega⟩
                obtain ⟨hnl2, hnk, hnp⟩ := hjp'.out n rfl
                have hcell : W7.cell? ⟨b', o + n * 5, none⟩ = some (.int .i64 l[n].slot) := by
                  obtain ⟨b2, o2, he, _, x0, _⟩ := (hr.below hB7).atBlk hnl2
                  cases he
                  exact x0
                have q1 := gr_cell hcell
                have hnl3 : (n : Int) < (l.length : Int) := by omega
                by_cases h6 : b.slot ≤ l[n].slot
                · have hz6 : decide (b.slot ≤ l[n].slot) = true := by simpa using h6
                  have hres := Lib.hid (hfalse'.out fun h => by
                    rcases (hokb'.out.1 h).2.2 with ⟨hs, _⟩ | ⟨_, c, hc, he, hs⟩
                    · exact h4'.out hs
                    · obtain ⟨i, hi, rfl⟩ := List.getElem_of_mem hc
                      simp only [List.length_take] at hi
                      simp only [List.getElem_take] at he hs
                      have hin : i = n := by
                        have := tree_inj ht (i := i) (j := n) (by simp; omega) (by simp; omega) (by simp only [List.getElem_take]; rw [he, hnp])
                        exact this
                      subst hin
                      omega)
                  clear h6 h5
                  go_wp2
                  refine wp_region_gr (by kernel_rfl) (by kernel_rfl) ?_
                  repeat (go_big_quiet_step (fail))
                  refine wpQuiet_nil ?_
                  rintro _ ⟨pq3, rfl⟩
                  go_wp2
                  go_ret
                  exact ⟨ret_bool hres.out.symm, hBg7 _⟩
                · have hz6 : decide (b.slot ≤ l[n].slot) = false := by simpa using h6
                  have ht2 : Tree (l.take (k + 1)) := htr'.out.2 ⟨ht, hokb'.out.2 ⟨h1'.out, fun c hc he => by have e1 := hjn'.out.2 ⟨c, hc, he⟩; have e2 := h2'.out; omega, .inr ⟨h4'.out, l[n], List.mem_take_iff_getElem.2 ⟨n, by omega, rfl⟩, hnp, by omega⟩⟩⟩
                  clear h6 h5 h3
                  go_wp2
                  refine wp_region_gr (by kernel_rfl) (by kernel_rfl) ?_
                  repeat (go_big_quiet_step (fail))
                  refine wpQuiet_nil ?_
                  rintro _ ⟨pq3, rfl⟩
                  go_wp2
                  go_roundw
                  case rel => exact ⟨k + 1, hlt, by go_num, ht2, hBg7 _⟩
                  case measure => simp [intOf]; omega
    · obtain rfl : k = l.length := by omega
      rw [List.take_length] at ht
      have hres := Lib.hid (show mayB l = true by simp [mayB, ht])
      clear ht
      go_wp2_with fail
      go_ret
      exact ⟨ret_bool hres.out.symm, hB⟩
end Go.Proofs.Ytdocgemfedohdaa
/-! The walks of marigoldref06.MayIn and UnderIn. -/
namespace Go.Proofs.Ytdocgemfedohdaa
open Go.RowKit
theorem idx_names {l : List Blk} {x : ID} : idxI (names l) x = -1 ∧ (∀ b ∈ l, nameOf b ≠ x) ∨ ∃ n : Nat, idxI (names l) x = n ∧ ∃ h : n < l.length, nameOf l[n] = x := by
  unfold idxI
  cases hf : (names l).findIdx? fun y => decide (y = x) with
  | none =>
    left
    rw [List.findIdx?_eq_none_iff] at hf
    refine ⟨rfl, fun b hb he => ?_⟩
    have := hf (nameOf b) (List.mem_map.2 ⟨b, hb, rfl⟩)
    simp [he] at this
  | some n =>
    right
    rw [List.findIdx?_eq_some_iff_getElem] at hf
    obtain ⟨h1, h2, _⟩ := hf
    simp only [names, List.length_map] at h1
    simp only [names, List.getElem_map, decide_eq_true_eq] at h2
    exact ⟨n, rfl, h1, h2⟩
theorem idx_up {l : List Blk} {x : ID} : idxI (names l) x < (l.length : Int) + 1 := by
  rcases idx_names (l := l) (x := x) with ⟨h, _⟩ | ⟨n, h, hn, _⟩ <;> omega
theorem par_idx {l : List Blk} (ht : Tree l) {n : Nat} (hn : n < l.length) : idxI (names l) l[n].par < n := by
  rcases idx_names (l := l) (x := l[n].par) with ⟨h, _⟩ | ⟨m, h, hm, he⟩
  · omega
  · rw [h]
    rcases (ht n hn).2.2 with ⟨hz, _⟩ | ⟨_, c, hc, h1, _⟩
    · exact absurd (he.trans hz) (ht m hm).1
    · obtain ⟨k, hk, rfl⟩ := List.getElem_of_mem hc
      simp only [List.length_take] at hk
      simp only [List.getElem_take] at h1
      have : m = k := tree_inj ht hm (by omega) (by rw [he, h1])
      omega
/-- What holds at the loop's head. -/
def UnderAt (l : List Blk) (low id x : ID) (j : Int) : Prop := idxI (names l) x = j ∧ (x = zid ∨ ∃ b ∈ l, nameOf b = x) ∧ (low ∈ chain l x ↔ low ∈ chain l id)
theorem UnderAt.zero {l : List Blk} {low id x : ID} {j : Int} (ht : Tree l) (h : UnderAt l low id x j) (hj : j < 0) : x = zid ∧ decide (x = low) = decide (low ∈ chain l id) := by
  obtain ⟨h1, h2, h3⟩ := h
  have hx : x = zid := by
    rcases h2 with e | ⟨b, hb, e⟩
    · exact e
    · rcases idx_names (l := l) (x := x) with ⟨_, hno⟩ | ⟨n, hn, _⟩
      · exact absurd e (hno b hb)
      · omega
  refine ⟨hx, ?_⟩
  subst hx
  rw [chain_zid ht] at h3
  by_cases he : low = zid
  · simp only [he, decide_true]; simpa [he] using h3
  · have he' : ¬ zid = low := fun e => he e.symm
    simpa [he, he'] using h3
theorem UnderAt.found {l : List Blk} {low id x : ID} {j : Int} (ht : Tree l) (h : UnderAt l low id x j) (hx : x = low) : decide (low ∈ chain l id) = true := by
  obtain ⟨_, h2, h3⟩ := h
  subst hx
  obtain ⟨r, hr⟩ := chain_head ht h2
  simpa using h3.1 (by rw [hr]; simp)
theorem UnderAt.step {l : List Blk} {low id x : ID} {n : Nat} (ht : Tree l) (h : UnderAt l low id x n) (hx : x ≠ low) : ∃ hn : n < l.length, UnderAt l low id l[n].par (idxI (names l) l[n].par) := by
  obtain ⟨h1, _, h3⟩ := h
  rcases idx_names (l := l) (x := x) with ⟨hi, _⟩ | ⟨m, hm, hml, hnm⟩
  · omega
  · have : m = n := by omega
    subst this
    refine ⟨hml, rfl, par_mem ht hml, ?_⟩
    rw [← h3, ← hnm, chain_cons ht hml]
    simp only [List.mem_cons]
    constructor
    · exact .inr
    · rintro (e | e)
      · exact absurd (hnm.symm.trans e.symm) hx
      · exact e
end Go.Proofs.Ytdocgemfedohdaa
/-! The walks of slices.Min, slices.Max, duty.May, and marigoldref05's May, Has, Weight. -/
namespace Go.Proofs.Ytdocgemfedohdaa
open Go.RowKit
structure Cfg where
  W : List Int
  seed : Int
  epoch : Int
  num : Int
  den : Int
def cfgv (A : Option Addr) (k : Nat) (c : Cfg) : Value := .agg #[.slice A c.W.length k, .int .u64 c.seed, .int .i64 c.epoch, .int .i64 c.num, .int .i64 c.den]
/-- A conf that may be. -/
def MayC (c : Cfg) : Prop := (1 ≤ c.W.length ∧ c.W.length ≤ 12 ∧ (∀ x ∈ c.W, 0 ≤ x ∧ x ≤ 1099511627776)) ∧ 1 ≤ c.epoch ∧ c.epoch ≤ 8 ∧ 0 ≤ c.num ∧ c.num ≤ c.den ∧ 1 ≤ c.den ∧ c.den ≤ 1000
instance (c : Cfg) : Decidable (MayC c) := by unfold MayC; exact inferInstance
set_option maxRecDepth 100000 in
set_option maxHeartbeats 1000000 in
theorem min_any (l : List Int) (A : Option Addr) (c : Nat) (w : World) (hr : Rd 1 encI w A l) (hne : 0 < l.length) :
    Calls Try.prog 61 #[.slice A l.length c] w fun e w' => ∃ m, e = .returned (.int .i64 m) ∧ m ∈ l ∧ (∀ x ∈ l, m ≤ x) ∧ Below w.heap.size w w' := by
  have hm := hr.1
  obtain ⟨b0, o0, rfl, hbo0, d0⟩ := hr.atI hne
  have hn1 : ¬ (l.length : Int) < 1 := by omega
  have hn2 : ¬ l.length < 1 := by omega
  go_enter Try.func61, Try.ntmps61
  rw [Nat.add_zero] at d0
  go_wp2_with fail
  go_loopw [3, 4] (fun v i wr => ∃ (k : Nat) (m : Int), 1 ≤ k ∧ k ≤ l.length ∧ i = .int .i64 k ∧ v = .int .i64 m ∧ m ∈ l ∧ (∀ x ∈ l.take k, m ≤ x) ∧ wr = w) (fun _ i _ => l.length - (intOf i).toNat)
  case atStart => exact ⟨1, l[0], Nat.le_refl _, hne, rfl, rfl, List.getElem_mem _, by rw [show (1 : Nat) = 0 + 1 from rfl, ← List.take_append_getElem hne]; simp, rfl⟩
  case round =>
    obtain ⟨k, m, hk1, hk, rfl, rfl, hmem, hall, rfl⟩ := hrel
    have hall' := Lib.hid hall
    clear hall
    by_cases hlt : k < l.length
    · obtain ⟨b, o, he, _, d⟩ := hr.atI hlt
      cases he
      obtain ⟨x, hx⟩ : ∃ x, l[k] = x := ⟨_, rfl⟩
      have hxm : x ∈ l := by rw [← hx]; exact List.getElem_mem hlt
      have hst : ∀ z, (z ≤ m ∧ z ≤ x) → ∀ y ∈ l.take (k + 1), z ≤ y := by
        intro z hz y hy
        rw [← List.take_append_getElem hlt, hx] at hy
        rcases List.mem_append.1 hy with h | h
        · have := hall'.out y h; omega
        · simp only [List.mem_singleton] at h; omega
      rw [hx] at d
      have hst' := Lib.hid hst
      clear hx hst
      go_wp2_with fail
      go_roundw
      case rel => exact ⟨k + 1, if x < m then x else m, by omega, hlt, by go_num, rfl, by split <;> assumption, hst'.out _ (by split <;> omega), trivial⟩
      case measure => simp [intOf]; omega
    · obtain rfl : k = l.length := by omega
      rw [List.take_length] at hall'
      go_wp2_with fail
      go_ret
      exact ⟨m, rfl, hmem, hall'.out, Below.refl _ _⟩
set_option maxRecDepth 100000 in
set_option maxHeartbeats 1000000 in
theorem max_any (l : List Int) (A : Option Addr) (c : Nat) (w : World) (hr : Rd 1 encI w A l) (hne : 0 < l.length) :
    Calls Try.prog 62 #[.slice A l.length c] w fun e w' => ∃ m, e = .returned (.int .i64 m) ∧ m ∈ l ∧ (∀ x ∈ l, x ≤ m) ∧ Below w.heap.size w w' := by
  have hm := hr.1
  obtain ⟨b0, o0, rfl, hbo0, d0⟩ := hr.atI hne
  have hn1 : ¬ (l.length : Int) < 1 := by omega
  have hn2 : ¬ l.length < 1 := by omega
  go_enter Try.func62, Try.ntmps62
  rw [Nat.add_zero] at d0
  go_wp2_with fail
  go_loopw [3, 4] (fun v i wr => ∃ (k : Nat) (m : Int), 1 ≤ k ∧ k ≤ l.length ∧ i = .int .i64 k ∧ v = .int .i64 m ∧ m ∈ l ∧ (∀ x ∈ l.take k, x ≤ m) ∧ wr = w) (fun _ i _ => l.length - (intOf i).toNat)
  case atStart => exact ⟨1, l[0], Nat.le_refl _, hne, rfl, rfl, List.getElem_mem _, by rw [show (1 : Nat) = 0 + 1 from rfl, ← List.take_append_getElem hne]; simp, rfl⟩
  case round =>
    obtain ⟨k, m, hk1, hk, rfl, rfl, hmem, hall, rfl⟩ := hrel
    have hall' := Lib.hid hall
    clear hall
    by_cases hlt : k < l.length
    · obtain ⟨b, o, he, _, d⟩ := hr.atI hlt
      cases he
      obtain ⟨x, hx⟩ : ∃ x, l[k] = x := ⟨_, rfl⟩
      have hxm : x ∈ l := by rw [← hx]; exact List.getElem_mem hlt
      have hst : ∀ z, (m ≤ z ∧ x ≤ z) → ∀ y ∈ l.take (k + 1), y ≤ z := by
        intro z hz y hy
        rw [← List.take_append_getElem hlt, hx] at hy
        rcases List.mem_append.1 hy with h | h
        · have := hall'.out y h; omega
        · simp only [List.mem_singleton] at h; omega
      rw [hx] at d
      have hst' := Lib.hid hst
      clear hx hst
      go_wp2_with fail
      go_roundw
      case rel => exact ⟨k + 1, if m < x then x else m, by omega, hlt, by go_num, rfl, by split <;> assumption, hst'.out _ (by split <;> omega), trivial⟩
      case measure => simp [intOf]; omega
    · obtain rfl : k = l.length := by omega
      rw [List.take_length] at hall'
      go_wp2_with fail
      go_ret
      exact ⟨m, rfl, hmem, hall'.out, Below.refl _ _⟩
def CfgOk (c : Cfg) : Prop := c.W.length ≤ 9223372036854775807
theorem mayC_W {c : Cfg} (h1 : 1 ≤ c.W.length) (h2 : c.W.length ≤ 12) {lo hi : Int} (hlo : lo ∈ c.W ∧ ∀ x ∈ c.W, lo ≤ x) (hhi : hi ∈ c.W ∧ ∀ x ∈ c.W, x ≤ hi) :
    decide (MayC c) = (decide (0 ≤ lo) && decide (hi ≤ 1099511627776) && decide (1 ≤ c.epoch ∧ c.epoch ≤ 8 ∧ 0 ≤ c.num ∧ c.num ≤ c.den ∧ 1 ≤ c.den ∧ c.den ≤ 1000)) := by
  rw [Bool.eq_iff_iff]
  simp only [Bool.and_eq_true, decide_eq_true_eq]
  constructor
  · rintro ⟨⟨_, _, h⟩, hr⟩
    exact ⟨⟨(h lo hlo.1).1, (h hi hhi.1).2⟩, hr⟩
  · rintro ⟨⟨h3, h4⟩, hr⟩
    exact ⟨⟨h1, h2, fun x hx => ⟨by have := hlo.2 x hx; omega, by have := hhi.2 x hx; omega⟩⟩, hr⟩
set_option maxRecDepth 100000 in
set_option maxHeartbeats 2000000 in
theorem dmay_any (c : Cfg) (A : Option Addr) (k : Nat) (w : World) (hr : Rd 1 encI w A c.W) :
    Calls Try.prog 34 #[cfgv A k c] w fun e w' => e = .returned (.bool (decide (MayC c))) ∧ Below w.heap.size w w' := by
  have hm := hr.1
  unfold cfgv
  have hW : ∃ W, w.alloc (.cells #[.slice A c.W.length k, .int .u64 c.seed, .int .i64 c.epoch, .int .i64 c.num, .int .i64 c.den] 25) = W := ⟨_, rfl⟩
  obtain ⟨W, hW⟩ := hW
  have hB : Below w.heap.size w W := by subst hW; exact (Below.refl _ w).alloc (Nat.le_refl _) _
  have hb : W.heap[w.heap.size]? = some (.cells #[.slice A c.W.length k, .int .u64 c.seed, .int .i64 c.epoch, .int .i64 c.num, .int .i64 c.den] 25 (0, 0)) := by subst hW; exact ha_at rfl
  have c0 := blk_cell hb 0
  by_cases h1 : 1 ≤ c.W.length ∧ c.W.length ≤ 12
  · obtain ⟨h1, h2⟩ := h1
    have hmw := fun lo hi => mayC_W (c := c) (lo := lo) (hi := hi) h1 h2
    obtain ⟨r, hrr⟩ : ∃ r, decide (MayC c) = r := ⟨_, rfl⟩
    have hneg : ∀ lo, lo ∈ c.W → lo < 0 → decide (MayC c) = false := fun lo hm hl => by
      simp only [decide_eq_false_iff_not]
      rintro ⟨⟨_, _, h⟩, _⟩
      have := (h lo hm).1
      omega
    rw [hrr]
    simp only [hrr] at hmw hneg
    have hneg' := Lib.hid hneg
    clear hneg
    have hmw' := Lib.hid hmw
    clear hmw hrr
    have hmin := fun W (hW : Below w.heap.size w W) => min_any c.W A k W (hr.below hW) h1
    have hmax := fun W (hW : Below w.heap.size w W) => max_any c.W A k W (hr.below hW) h1
    have h3 : ((c.W.length : Int) == 0) = false := by simp; intro e; rw [e] at h1; simp at h1
    have h4 : ¬ (12 : Int) < (c.W.length : Int) := by omega
    go_enter Try.func34, Try.ntmps34
    go_wp2_with (first | (go_at_call 61; refine (hmin _ hB).mono ?_; rintro e w1 ⟨lo, rfl, hlo1, hlo2, hb1⟩; have hB1 := below_call hB hB.size hb1; have hbb1 := bl_own hb1 hb; have e0 := blk_cell hbb1 0; have e2 := blk_cell hbb1 2; have e3 := blk_cell hbb1 3; have e4 := blk_cell hbb1 4; have hlo := Lib.hid (And.intro hlo1 hlo2); clear hlo1 hlo2) | (go_at_call 62; refine (hmax _ hB1).mono ?_; rintro e w2 ⟨hi, rfl, hhi1, hhi2, hb2⟩; have hB2 := below_call hB1 hB1.size hb2; have hbb2 := bl_own hb2 hbb1; have f0 := blk_cell hbb2 0; have f2 := blk_cell hbb2 2; have f3 := blk_cell hbb2 3; have f4 := blk_cell hbb2 4; have hhi := Lib.hid (And.intro hhi1 hhi2); clear hhi1 hhi2))
    all_goals go_ret
    all_goals
      first
        | (refine ⟨ret_bool ?_, hB2⟩
           rw [hmw'.out _ _ hlo.out hhi.out, Bool.eq_iff_iff]
           simp only [Bool.and_eq_true, decide_eq_true_eq, Bool.false_eq_true, false_iff]
           omega)
        | (refine ⟨ret_bool (Eq.symm (hneg'.out lo hlo.out.1 (by assumption))), hB1⟩)
  · have hres : decide (MayC c) = false := by
      simp only [decide_eq_false_iff_not]
      rintro ⟨⟨h2, h3, _⟩, _⟩
      exact h1 ⟨h2, h3⟩
    have hres' := Lib.hid hres
    clear hres
    rcases Nat.lt_or_ge 12 c.W.length with h2 | h2
    · clear h1
      go_enter Try.func34, Try.ntmps34
      go_wp2_with fail
      all_goals (go_ret; exact ⟨ret_bool hres'.out.symm, hB⟩)
    · obtain h3 : c.W.length = 0 := by omega
      clear h1 h2
      rw [h3] at c0 hW hb ⊢
      have h3' := Lib.hid h3
      clear h3
      go_enter Try.func34, Try.ntmps34
      go_wp2_with fail
      go_ret
      exact ⟨ret_bool hres'.out.symm, hB⟩
set_option maxRecDepth 100000 in
set_option maxHeartbeats 2000000 in
theorem rcmay_any (c : Cfg) (A : Option Addr) (k : Nat) (w : World) (hr : Rd 1 encI w A c.W) :
    Calls Try.prog 29 #[cfgv A k c] w fun e w' => e = .returned (.bool (decide (MayC c))) ∧ Below w.heap.size w w' := by
  have hm := hr.1
  unfold cfgv
  have hW : ∃ W, w.alloc (.cells #[.slice A c.W.length k, .int .u64 c.seed, .int .i64 c.epoch, .int .i64 c.num, .int .i64 c.den] 25) = W := ⟨_, rfl⟩
  obtain ⟨W, hW⟩ := hW
  have hB : Below w.heap.size w W := by subst hW; exact (Below.refl _ w).alloc (Nat.le_refl _) _
  have hb : W.heap[w.heap.size]? = some (.cells #[.slice A c.W.length k, .int .u64 c.seed, .int .i64 c.epoch, .int .i64 c.num, .int .i64 c.den] 25 (0, 0)) := by subst hW; exact ha_at rfl
  have c0 := blk_cell hb 0
  have c2 := blk_cell hb 2
  have c3 := blk_cell hb 3
  have c4 := blk_cell hb 4
  have hneg : ∀ x, x ∈ c.W → ¬ (0 ≤ x ∧ x ≤ 1099511627776) → decide (MayC c) = false := fun x hm hl => by
    simp only [decide_eq_false_iff_not]
    rintro ⟨⟨_, _, h⟩, _⟩
    exact hl (h x hm)
  have hfin : (∀ x ∈ c.W, 0 ≤ x ∧ x ≤ 1099511627776) → decide (MayC c) = decide ((1 ≤ c.W.length ∧ c.W.length ≤ 12) ∧ 1 ≤ c.epoch ∧ c.epoch ≤ 8 ∧ 0 ≤ c.num ∧ c.num ≤ c.den ∧ 1 ≤ c.den ∧ c.den ≤ 1000) := fun h => by
    rw [Bool.eq_iff_iff]
    simp only [decide_eq_true_eq]
    exact ⟨fun ⟨⟨h1, h2, _⟩, h3⟩ => ⟨⟨h1, h2⟩, h3⟩, fun ⟨⟨h1, h2⟩, h3⟩ => ⟨⟨h1, h2, h⟩, h3⟩⟩
  obtain ⟨r, hrr⟩ : ∃ r, decide (MayC c) = r := ⟨_, rfl⟩
  rw [hrr]
  simp only [hrr] at hneg hfin
  have hneg' := Lib.hid hneg
  have hfin' := Lib.hid hfin
  clear hneg hfin hrr
  go_enter Try.func29, Try.ntmps29
  go_wp2_with fail
  go_loop [4] (fun i => ∃ i0 : Nat, i0 ≤ c.W.length ∧ i = .int .i64 i0 ∧ Hid (∀ x ∈ c.W.take i0, 0 ≤ x ∧ x ≤ 1099511627776)) (fun i => c.W.length - (intOf i).toNat)
  case atStart => exact ⟨0, Nat.zero_le _, rfl, Lib.hid (by simp)⟩
  case round =>
    obtain ⟨i, hi, rfl, hall⟩ := hrel
    by_cases hlt : i < c.W.length
    · obtain ⟨b, o, rfl, hbo, d⟩ := (hr.below hB).atI hlt
      have hmem := List.getElem_mem hlt
      have hst : (0 ≤ c.W[i] ∧ c.W[i] ≤ 1099511627776) → ∀ x ∈ c.W.take (i + 1), 0 ≤ x ∧ x ≤ 1099511627776 := fun hx y hy => by
        rw [← List.take_append_getElem hlt] at hy
        rcases List.mem_append.1 hy with h | h
        · exact hall.out y h
        · simp only [List.mem_singleton] at h; subst h; exact hx
      obtain ⟨x, hx⟩ : ∃ x, c.W[i] = x := ⟨_, rfl⟩
      rw [hx] at d hst hmem
      have hst' := Lib.hid hst
      have hmem' := Lib.hid hmem
      clear hst hx hmem
      go_wp2_with fail
      all_goals
        first
          | (go_ret; exact ⟨ret_bool (Eq.symm (hneg'.out x hmem'.out (by omega))), hB⟩)
          | (go_round; (case rel => exact ⟨i + 1, hlt, by go_num, Lib.hid (hst'.out (by omega))⟩); (case measure => simp [intOf]; omega))
    · obtain rfl : i = c.W.length := by omega
      rw [List.take_length] at hall
      go_wp2_with fail
      all_goals
        go_ret
        refine ⟨ret_bool ?_, hB⟩
        rw [hfin'.out hall.out, Bool.eq_iff_iff]
        simp only [decide_eq_true_eq, Bool.false_eq_true, false_iff]
        omega
set_option maxRecDepth 100000 in
set_option maxHeartbeats 1000000 in
theorem rhas_any (x : Int) (xs : List Int) (A : Option Addr) (c : Nat) (w : World) (hr : Rd 1 encI w A xs) :
    Calls Try.prog 81 #[.slice A xs.length c, .int .i64 x] w fun e w' => e = .returned (.bool (decide (x ∈ xs))) ∧ w' = w := by
  go_enter Try.func81, Try.ntmps81
  go_wp2_with fail
  have hm := hr.1
  go_loop [5] (fun i => ∃ k : Nat, k ≤ xs.length ∧ i = .int .i64 k ∧ Hid (x ∉ xs.take k)) (fun i => xs.length - (intOf i).toNat)
  case atStart => exact ⟨0, Nat.zero_le _, rfl, Lib.hid (by simp)⟩
  case round =>
    obtain ⟨k, hk, rfl, hno⟩ := hrel
    by_cases hlt : k < xs.length
    · obtain ⟨b, o, rfl, hbo, d⟩ := hr.atI hlt
      have hmem := List.getElem_mem hlt
      have hst := fun h : ¬ x = xs[k] => not_mem_step hlt hno.out h
      obtain ⟨y, hy⟩ : ∃ y, xs[k] = y := ⟨_, rfl⟩
      rw [hy] at d hst hmem
      by_cases hx : x = y
      · have hd : decide (x ∈ xs) = true := by rw [hx]; simpa using hmem
        have hd' := Lib.hid hd
        have he : (y == x) = true := by simp [hx]
        clear hst hx hmem hd hy
        go_wp2_with fail
        go_ret
        exact ⟨ret_bool hd'.out.symm, rfl⟩
      · have hst' := Lib.hid (hst hx)
        have he : (y == x) = false := by simpa using fun e => hx e.symm
        clear hst hx hmem hy
        go_wp2_with fail
        go_round
        case rel => exact ⟨k + 1, hlt, by go_num, hst'⟩
        case measure => simp [intOf]; omega
    · obtain rfl : k = xs.length := by omega
      have hd' := Lib.hid (show decide (x ∈ xs) = false by simpa using hno.out)
      go_wp2_with fail
      go_ret
      exact ⟨ret_bool hd'.out.symm, rfl⟩
end Go.Proofs.Ytdocgemfedohdaa
