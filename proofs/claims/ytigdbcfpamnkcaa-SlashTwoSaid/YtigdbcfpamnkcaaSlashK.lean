/- SlashTwo, walked. -/
import Derived.Test.YtigdbcfpamnkcaaSlashH
namespace Go.Proofs.Ytigdbcfpamnkcaa
open Go.RowKit
def mkL (f e1 e2 : Int) (r : ID) : Lnk := ⟨f, ⟨e1, ⟨0, 0⟩⟩, ⟨e2, r⟩⟩
theorem guilty_pair {a b : Lnk} (h : Pair a b) : guiltyL [a, b] = [a.frm] := by
  refine (guiltyL_eq (v := [a, b]) (g := [a.frm]) ⟨⟨by simp, trivial⟩, fun f => ?_⟩).symm
  rw [List.mem_singleton]
  constructor
  · rintro rfl
    exact ⟨a, by simp, b, by simp, h, rfl⟩
  · rintro ⟨x, hx, y, hy, _, rfl⟩
    simp only [List.mem_cons, List.not_mem_nil, or_false] at hx
    rcases hx with rfl | rfl
    · rfl
    · exact h.1.symm
theorem guilty_same (a : Lnk) : guiltyL [a, a] = [] := (guiltyL_eq (v := [a, a]) (g := []) ⟨trivial, fun f => by simp [guilt_twice]⟩).symm
theorem two_one {who a b : Int} {x y : ID} : guiltyL [mkL who a b x, mkL who a b y] = if x = y then [] else [who] := by
  by_cases h : x = y
  · subst h; rw [if_pos rfl]; exact guilty_same _
  · rw [if_neg h]
    exact guilty_pair ⟨rfl, .inr (.inr ⟨fun e => h (by have := congrArg (·.tgt.root) e; exact this), rfl⟩)⟩
theorem two_wide {who a b c : Int} {x y : ID} (h1 : a < b) : Pair (mkL who a (c + 1) x) (mkL who b c y) := ⟨rfl, .inl ⟨h1, by show c < c + 1; omega⟩⟩
theorem al_cell {w : World} {a : Addr} {v : Value} (h : w.cell? a = some v) (o : Obj) : (w.alloc o).cell? a = some v := ((Below.refl _ w).alloc (Nat.le_refl _) o |>.cell (World.block_lt_of_cell? w a h)).trans h
theorem two_lay {w : World} (x y : Lnk) (T : TypeId) : Below w.heap.size w (((w.alloc (.cells #[.int .i64 x.frm, .int .i64 x.src.epoch, .int .u64 x.src.root.hi, .int .u64 x.src.root.lo, .int .i64 x.tgt.epoch, .int .u64 x.tgt.root.hi, .int .u64 x.tgt.root.lo] T)).alloc (.cells #[.int .i64 y.frm, .int .i64 y.src.epoch, .int .u64 y.src.root.hi, .int .u64 y.src.root.lo, .int .i64 y.tgt.epoch, .int .u64 y.tgt.root.hi, .int .u64 y.tgt.root.lo] T)).alloc (.cells #[.int .i64 x.frm, .int .i64 x.src.epoch, .int .u64 x.src.root.hi, .int .u64 x.src.root.lo, .int .i64 x.tgt.epoch, .int .u64 x.tgt.root.hi, .int .u64 x.tgt.root.lo, .int .i64 y.frm, .int .i64 y.src.epoch, .int .u64 y.src.root.hi, .int .u64 y.src.root.lo, .int .i64 y.tgt.epoch, .int .u64 y.tgt.root.hi, .int .u64 y.tgt.root.lo] T)) ∧
    (((w.alloc (.cells #[.int .i64 x.frm, .int .i64 x.src.epoch, .int .u64 x.src.root.hi, .int .u64 x.src.root.lo, .int .i64 x.tgt.epoch, .int .u64 x.tgt.root.hi, .int .u64 x.tgt.root.lo] T)).alloc (.cells #[.int .i64 y.frm, .int .i64 y.src.epoch, .int .u64 y.src.root.hi, .int .u64 y.src.root.lo, .int .i64 y.tgt.epoch, .int .u64 y.tgt.root.hi, .int .u64 y.tgt.root.lo] T)).alloc (.cells #[.int .i64 x.frm, .int .i64 x.src.epoch, .int .u64 x.src.root.hi, .int .u64 x.src.root.lo, .int .i64 x.tgt.epoch, .int .u64 x.tgt.root.hi, .int .u64 x.tgt.root.lo, .int .i64 y.frm, .int .i64 y.src.epoch, .int .u64 y.src.root.hi, .int .u64 y.src.root.lo, .int .i64 y.tgt.epoch, .int .u64 y.tgt.root.hi, .int .u64 y.tgt.root.lo] T)).heap[w.heap.size]? = some (.cells #[.int .i64 x.frm, .int .i64 x.src.epoch, .int .u64 x.src.root.hi, .int .u64 x.src.root.lo, .int .i64 x.tgt.epoch, .int .u64 x.tgt.root.hi, .int .u64 x.tgt.root.lo] T (0, 0)) ∧
    (((w.alloc (.cells #[.int .i64 x.frm, .int .i64 x.src.epoch, .int .u64 x.src.root.hi, .int .u64 x.src.root.lo, .int .i64 x.tgt.epoch, .int .u64 x.tgt.root.hi, .int .u64 x.tgt.root.lo] T)).alloc (.cells #[.int .i64 y.frm, .int .i64 y.src.epoch, .int .u64 y.src.root.hi, .int .u64 y.src.root.lo, .int .i64 y.tgt.epoch, .int .u64 y.tgt.root.hi, .int .u64 y.tgt.root.lo] T)).alloc (.cells #[.int .i64 x.frm, .int .i64 x.src.epoch, .int .u64 x.src.root.hi, .int .u64 x.src.root.lo, .int .i64 x.tgt.epoch, .int .u64 x.tgt.root.hi, .int .u64 x.tgt.root.lo, .int .i64 y.frm, .int .i64 y.src.epoch, .int .u64 y.src.root.hi, .int .u64 y.src.root.lo, .int .i64 y.tgt.epoch, .int .u64 y.tgt.root.hi, .int .u64 y.tgt.root.lo] T)).heap[w.heap.size + 1]? = some (.cells #[.int .i64 y.frm, .int .i64 y.src.epoch, .int .u64 y.src.root.hi, .int .u64 y.src.root.lo, .int .i64 y.tgt.epoch, .int .u64 y.tgt.root.hi, .int .u64 y.tgt.root.lo] T (0, 0)) ∧
    Rd 7 encLnk (((w.alloc (.cells #[.int .i64 x.frm, .int .i64 x.src.epoch, .int .u64 x.src.root.hi, .int .u64 x.src.root.lo, .int .i64 x.tgt.epoch, .int .u64 x.tgt.root.hi, .int .u64 x.tgt.root.lo] T)).alloc (.cells #[.int .i64 y.frm, .int .i64 y.src.epoch, .int .u64 y.src.root.hi, .int .u64 y.src.root.lo, .int .i64 y.tgt.epoch, .int .u64 y.tgt.root.hi, .int .u64 y.tgt.root.lo] T)).alloc (.cells #[.int .i64 x.frm, .int .i64 x.src.epoch, .int .u64 x.src.root.hi, .int .u64 x.src.root.lo, .int .i64 x.tgt.epoch, .int .u64 x.tgt.root.hi, .int .u64 x.tgt.root.lo, .int .i64 y.frm, .int .i64 y.src.epoch, .int .u64 y.src.root.hi, .int .u64 y.src.root.lo, .int .i64 y.tgt.epoch, .int .u64 y.tgt.root.hi, .int .u64 y.tgt.root.lo] T)) (some ⟨w.heap.size + 1 + 1, 0, none⟩) [x, y] :=
  ⟨((((Below.refl _ w).alloc (by simp) _).alloc (by simp) _).alloc (by simp; omega) _), ha_lt (ha_lt (ha_at rfl)), ha_lt (ha_at (by simp)), Rd_flat (k := 7) (enc := encLnk) (xs := [x, y]) encLnk_len (by simp) (ha_at (by simp)) rfl⟩
theorem two_lay2 {w : World} (x y : Lnk) (T : TypeId) : Below w.heap.size w (((w.alloc (.cells #[.int .i64 x.frm, .int .i64 x.src.epoch, .int .u64 x.src.root.hi, .int .u64 x.src.root.lo, .int .i64 x.tgt.epoch, .int .u64 x.tgt.root.hi, .int .u64 x.tgt.root.lo] T)).alloc (.cells #[.int .i64 y.frm, .int .i64 y.src.epoch, .int .u64 y.src.root.hi, .int .u64 y.src.root.lo, .int .i64 y.tgt.epoch, .int .u64 y.tgt.root.hi, .int .u64 y.tgt.root.lo] T)).alloc (.cells #[.int .i64 y.frm, .int .i64 y.src.epoch, .int .u64 y.src.root.hi, .int .u64 y.src.root.lo, .int .i64 y.tgt.epoch, .int .u64 y.tgt.root.hi, .int .u64 y.tgt.root.lo, .int .i64 x.frm, .int .i64 x.src.epoch, .int .u64 x.src.root.hi, .int .u64 x.src.root.lo, .int .i64 x.tgt.epoch, .int .u64 x.tgt.root.hi, .int .u64 x.tgt.root.lo] T)) ∧
    (((w.alloc (.cells #[.int .i64 x.frm, .int .i64 x.src.epoch, .int .u64 x.src.root.hi, .int .u64 x.src.root.lo, .int .i64 x.tgt.epoch, .int .u64 x.tgt.root.hi, .int .u64 x.tgt.root.lo] T)).alloc (.cells #[.int .i64 y.frm, .int .i64 y.src.epoch, .int .u64 y.src.root.hi, .int .u64 y.src.root.lo, .int .i64 y.tgt.epoch, .int .u64 y.tgt.root.hi, .int .u64 y.tgt.root.lo] T)).alloc (.cells #[.int .i64 y.frm, .int .i64 y.src.epoch, .int .u64 y.src.root.hi, .int .u64 y.src.root.lo, .int .i64 y.tgt.epoch, .int .u64 y.tgt.root.hi, .int .u64 y.tgt.root.lo, .int .i64 x.frm, .int .i64 x.src.epoch, .int .u64 x.src.root.hi, .int .u64 x.src.root.lo, .int .i64 x.tgt.epoch, .int .u64 x.tgt.root.hi, .int .u64 x.tgt.root.lo] T)).heap[w.heap.size]? = some (.cells #[.int .i64 x.frm, .int .i64 x.src.epoch, .int .u64 x.src.root.hi, .int .u64 x.src.root.lo, .int .i64 x.tgt.epoch, .int .u64 x.tgt.root.hi, .int .u64 x.tgt.root.lo] T (0, 0)) ∧
    (((w.alloc (.cells #[.int .i64 x.frm, .int .i64 x.src.epoch, .int .u64 x.src.root.hi, .int .u64 x.src.root.lo, .int .i64 x.tgt.epoch, .int .u64 x.tgt.root.hi, .int .u64 x.tgt.root.lo] T)).alloc (.cells #[.int .i64 y.frm, .int .i64 y.src.epoch, .int .u64 y.src.root.hi, .int .u64 y.src.root.lo, .int .i64 y.tgt.epoch, .int .u64 y.tgt.root.hi, .int .u64 y.tgt.root.lo] T)).alloc (.cells #[.int .i64 y.frm, .int .i64 y.src.epoch, .int .u64 y.src.root.hi, .int .u64 y.src.root.lo, .int .i64 y.tgt.epoch, .int .u64 y.tgt.root.hi, .int .u64 y.tgt.root.lo, .int .i64 x.frm, .int .i64 x.src.epoch, .int .u64 x.src.root.hi, .int .u64 x.src.root.lo, .int .i64 x.tgt.epoch, .int .u64 x.tgt.root.hi, .int .u64 x.tgt.root.lo] T)).heap[w.heap.size + 1]? = some (.cells #[.int .i64 y.frm, .int .i64 y.src.epoch, .int .u64 y.src.root.hi, .int .u64 y.src.root.lo, .int .i64 y.tgt.epoch, .int .u64 y.tgt.root.hi, .int .u64 y.tgt.root.lo] T (0, 0)) ∧
    Rd 7 encLnk (((w.alloc (.cells #[.int .i64 x.frm, .int .i64 x.src.epoch, .int .u64 x.src.root.hi, .int .u64 x.src.root.lo, .int .i64 x.tgt.epoch, .int .u64 x.tgt.root.hi, .int .u64 x.tgt.root.lo] T)).alloc (.cells #[.int .i64 y.frm, .int .i64 y.src.epoch, .int .u64 y.src.root.hi, .int .u64 y.src.root.lo, .int .i64 y.tgt.epoch, .int .u64 y.tgt.root.hi, .int .u64 y.tgt.root.lo] T)).alloc (.cells #[.int .i64 y.frm, .int .i64 y.src.epoch, .int .u64 y.src.root.hi, .int .u64 y.src.root.lo, .int .i64 y.tgt.epoch, .int .u64 y.tgt.root.hi, .int .u64 y.tgt.root.lo, .int .i64 x.frm, .int .i64 x.src.epoch, .int .u64 x.src.root.hi, .int .u64 x.src.root.lo, .int .i64 x.tgt.epoch, .int .u64 x.tgt.root.hi, .int .u64 x.tgt.root.lo] T)) (some ⟨w.heap.size + 1 + 1, 0, none⟩) [y, x] :=
  ⟨((((Below.refl _ w).alloc (by simp) _).alloc (by simp) _).alloc (by simp; omega) _), ha_lt (ha_lt (ha_at rfl)), ha_lt (ha_at (by simp)), Rd_flat (k := 7) (enc := encLnk) (xs := [y, x]) encLnk_len (by simp) (ha_at (by simp)) rfl⟩
set_option maxRecDepth 100000 in
set_option maxHeartbeats 4000000 in
theorem twobad_any (who a b c : Int) (x y : ID) (w : World) (hbad : a < 0 ∨ b ≤ a ∨ c ≤ b ∨ 1099511627776 < c) :
    Calls Try.prog 7 #[.int .i64 who, .int .i64 a, .int .i64 b, .int .i64 c, idv x, idv y] w fun e w' => e = .returned (.bool true) ∧ Below w.heap.size w w' := by
  have haw := fun V => awake_any V
  unfold idv
  have hB : Below w.heap.size w ((w.alloc (.cells #[.int .u64 x.hi, .int .u64 x.lo] 24)).alloc (.cells #[.int .u64 y.hi, .int .u64 y.lo] 24)) := ((Below.refl _ w).alloc (Nat.le_refl _) _).alloc (by simp) _
  obtain ⟨q1, hq1⟩ : ∃ q, decide (a < 0) = q := ⟨_, rfl⟩
  obtain ⟨q2, hq2⟩ : ∃ q, decide (b ≤ a) = q := ⟨_, rfl⟩
  obtain ⟨q3, hq3⟩ : ∃ q, decide (c ≤ b) = q := ⟨_, rfl⟩
  obtain ⟨q4, hq4⟩ : ∃ q, decide (1099511627776 < c) = q := ⟨_, rfl⟩
  have hor : (q1 || (q2 || (q3 || q4))) = true := by
    rw [← hq1, ← hq2, ← hq3, ← hq4]
    simp only [Bool.or_eq_true, decide_eq_true_eq]
    exact hbad
  clear hbad
  cases q1 <;> cases q2 <;> cases q3 <;> cases q4
  case false.false.false.false => cases hor
  all_goals
    clear hor
    go_enter Try.func7, Try.ntmps7
    go_wp2_with (go_at_call 8; with_reducible refine (haw _).mono ?_; clear haw; rintro e w1 ⟨rfl, hb1⟩; have hB1 := below_call hB hB.size hb1)
    go_ret
    exact ⟨rfl, hB1⟩
set_option maxRecDepth 100000 in
set_option maxHeartbeats 4000000 in
theorem two_any (who a b c : Int) (x y : ID) (w : World) (h0 : 0 ≤ a) (h1 : a < b) (h2 : b < c) (h3 : c ≤ 1099511627776) :
    Calls Try.prog 7 #[.int .i64 who, .int .i64 a, .int .i64 b, .int .i64 c, idv x, idv y] w fun e w' => e = .returned (.bool true) ∧ Below w.heap.size w w' := by
  have haw := fun V => awake_any V
  have hne := neq_idw x y
  have heq := eql_idw x y
  have hg1 := fun V A' (hR : Rd 7 encLnk V A' [mkL who a b x, mkL who a b y]) => guilty_any _ A' 2 V hR (Nat.le_refl _) (by decide) (by simp)
  have hg2 := fun V A' (hR : Rd 7 encLnk V A' [mkL who b c y, mkL who a (c + 1) x]) => guilty_any _ A' 2 V hR (Nat.le_refl _) (by decide) (by simp)
  have hp := fun V => pair_any (mkL who a (c + 1) x) (mkL who b c y) V
  rw [two_one, show [mkL who a b x, mkL who a b y].length = 2 from rfl] at hg1
  rw [guilty_pair (pair_symm.1 (two_wide h1)), show (mkL who b c y).frm = who from rfl, show [mkL who b c y, mkL who a (c + 1) x].length = 2 from rfl] at hg2
  rw [show decide (Pair (mkL who a (c + 1) x) (mkL who b c y)) = true from by simpa using two_wide h1] at hp
  dsimp only [lnkv, mkL] at hp
  unfold idv
  have hsum : IntKind.i64.wrap (c + 1) = c + 1 := Go.IntWalk.i64_in _ (by omega)
  have hW : ∃ W, (w.alloc (.cells #[.int .u64 x.hi, .int .u64 x.lo] 24)).alloc (.cells #[.int .u64 y.hi, .int .u64 y.lo] 24) = W := ⟨_, rfl⟩
  obtain ⟨W, hW⟩ := hW
  have hB : Below w.heap.size w W := by subst hW; exact ((Below.refl _ w).alloc (Nat.le_refl _) _).alloc (by simp) _
  have b0 : W.heap[w.heap.size]? = some (.cells #[.int .u64 x.hi, .int .u64 x.lo] 24 (0, 0)) := by subst hW; exact ha_lt (ha_at rfl)
  have b1 : W.heap[w.heap.size + 1]? = some (.cells #[.int .u64 y.hi, .int .u64 y.lo] 24 (0, 0)) := by subst hW; exact ha_at (by simp)
  obtain ⟨q, hq⟩ : ∃ q, decide (x = y) = q := ⟨_, rfl⟩
  have hlen : (if x = y then [] else [who] : List Int) = if q then [] else [who] := by rw [← hq]; by_cases h : x = y <;> simp [h]
  rw [hlen] at hg1
  rw [hq] at hne heq
  have hn1 : ¬ a < 0 := by omega
  have hn2 : ¬ b ≤ a := by omega
  have hn3 : ¬ c ≤ b := by omega
  have hn4 : ¬ 1099511627776 < c := by omega
  clear hq hlen
  cases q
  all_goals
    simp only [Bool.false_eq_true, if_false, if_true] at hg1
    go_enter Try.func7, Try.ntmps7
    go_wp2_with (first
      | (go_at_call 8; with_reducible refine (haw _).mono ?_; clear haw; rintro e w1 ⟨rfl, hb1⟩; have hB1 := below_call hB hB.size hb1; have g0 := bl_own hb1 b0; have g1 := bl_own hb1 b1; obtain ⟨c0, c1, _, _⟩ := blk2 g0; obtain ⟨d0, d1, _, _⟩ := blk2 g1; have e0 := al_cell d0; have e1 := al_cell d1; obtain ⟨hBX, r0, r1, hRX⟩ := two_lay (w := w1) (mkL who a b x) (mkL who a b y) 28; dsimp only [mkL] at hBX r0 r1; have hgx := hg1 _ _ hRX; dsimp only [mkL] at hgx)
      | (go_at_call 10; with_reducible refine hgx.mono ?_; clear hg1 hgx hRX e0 e1 c0 c1 d0 d1; rintro e w2 ⟨u1, rfl, ho1, hb2⟩; have hC2 := hBX.trans (hb2.mono hBX.size); clear hBX r0 r1 hb2; have hB2 := below_call hB1 hB1.size hC2; have g2 := bl_own hC2 g0; have g3 := bl_own hC2 g1; obtain ⟨c0, c1, _, _⟩ := blk2 g2; obtain ⟨d0, d1, _, _⟩ := blk2 g3; have e0 := al_cell d0; have e1 := al_cell d1; obtain ⟨hBX, r0, r1, hRX⟩ := two_lay2 (w := w2) (mkL who a (c + 1) x) (mkL who b c y) 28; dsimp only [mkL] at hBX r0 r1; have hgx := hg2 _ _ hRX; dsimp only [mkL] at hgx; obtain ⟨A1, k1, hu1, hR1⟩ := ho1.rd encI_len; subst hu1)
      | (go_at_call 10; with_reducible refine hgx.mono ?_; clear hg2 hgx hRX e0 e1 c0 c1 d0 d1; rintro e w3 ⟨u2, rfl, ho2, hb3⟩; have hC3 := hBX.trans (hb3.mono hBX.size); have s0 := bl_own hb3 r0; have s1 := bl_own hb3 r1; clear hBX r0 r1 hb3; have hB3 := below_call hB2 hB2.size hC3; have g4 := bl_own hC3 g2; have g5 := bl_own hC3 g3; obtain ⟨c0, c1, _, _⟩ := blk2 g4; obtain ⟨d0, d1, _, _⟩ := blk2 g5; obtain ⟨s2, s3, s4, s5, s6, s7, s8⟩ := blkL s0; obtain ⟨t2, t3, t4, t5, t6, t7, t8⟩ := blkL s1; obtain ⟨A2, k2, hu2, hR2⟩ := ho2.rd encI_len; subst hu2; obtain ⟨p2, o2, he2, _, y2⟩ := hR2.atI (i := 0) (by simp); subst he2; rw [Nat.add_zero] at y2; simp only [List.getElem_cons_zero] at y2)
      | (go_at_call 12; with_reducible refine (hp _).mono ?_; clear hp; rintro e w4 ⟨rfl, hb4⟩; have hB4 := below_call hB3 hB3.size hb4; obtain ⟨c0, c1, _, _⟩ := blk2 (bl_own hb4 g4); obtain ⟨d0, d1, _, _⟩ := blk2 (bl_own hb4 g5); (try (obtain ⟨p1, o1, he1, _, y1⟩ := ((hR1.below hC3).below hb4).atI (i := 0) (by simp); subst he1; rw [Nat.add_zero] at y1; simp only [List.getElem_cons_zero] at y1))))
    go_ret
    exact ⟨rfl, hB4⟩
theorem twoall_any (who a b c : Int) (x y : ID) (w : World) :
    Calls Try.prog 7 #[.int .i64 who, .int .i64 a, .int .i64 b, .int .i64 c, idv x, idv y] w fun e w' => e = .returned (.bool true) ∧ Below w.heap.size w w' := by
  by_cases h : a < 0 ∨ b ≤ a ∨ c ≤ b ∨ 1099511627776 < c
  · exact twobad_any who a b c x y w h
  · exact two_any who a b c x y w (by omega) (by omega) (by omega) (by omega)
end Go.Proofs.Ytigdbcfpamnkcaa
