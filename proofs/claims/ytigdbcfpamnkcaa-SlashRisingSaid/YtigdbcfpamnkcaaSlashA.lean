/- Two votes that nobody may have both, walked. -/
import Derived.Test.YtigdbcfpamnkcaaSlashP
import Derived.Test.YtigdbcfpamnkcaaKeys
import Derived.Test.YtigdbcfpamnkcaaEnc
import Derived.Lib.SliceRun
namespace Go.Proofs.Ytigdbcfpamnkcaa
open Go.RowKit
theorem encLnk_len (x : Lnk) : (encLnk x).length = 7 := rfl
theorem encLnk_one (x : Lnk) : ∀ u ∈ encLnk x, u.oneCell' = true := by intro u hu; simp [encLnk] at hu; rcases hu with rfl | rfl | rfl | rfl | rfl | rfl | rfl <;> rfl
theorem infoL : (Try.prog.info? 28).map (fun i => (i.zero, i.size, i.bytes)) = some (some (.agg #[.int .i64 0, .int .i64 0, .int .u64 0, .int .u64 0, .int .i64 0, .int .u64 0, .int .u64 0]), 7, 56) := by kernel_rfl
theorem Rd.atL {w : World} {A : Option Addr} {xs : List Lnk} (h : Rd 7 encLnk w A xs) {i : Nat} (hi : i < xs.length) :
    ∃ b o, A = some ⟨b, o, none⟩ ∧ b < w.heap.size ∧ w.cell? ⟨b, o + i * 7, none⟩ = some (.int .i64 xs[i].frm) ∧ w.cell? ⟨b, o + i * 7 + 1, none⟩ = some (.int .i64 xs[i].src.epoch) ∧
      w.cell? ⟨b, o + i * 7 + 2, none⟩ = some (.int .u64 xs[i].src.root.hi) ∧ w.cell? ⟨b, o + i * 7 + 3, none⟩ = some (.int .u64 xs[i].src.root.lo) ∧ w.cell? ⟨b, o + i * 7 + 4, none⟩ = some (.int .i64 xs[i].tgt.epoch) ∧
      w.cell? ⟨b, o + i * 7 + 5, none⟩ = some (.int .u64 xs[i].tgt.root.hi) ∧ w.cell? ⟨b, o + i * 7 + 6, none⟩ = some (.int .u64 xs[i].tgt.root.lo) := by
  obtain ⟨b, o, hA, hlt, hc⟩ := h.at hi
  exact ⟨b, o, hA, hlt, hc 0 _ rfl, hc 1 _ rfl, hc 2 _ rfl, hc 3 _ rfl, hc 4 _ rfl, hc 5 _ rfl, hc 6 _ rfl⟩
theorem blkL {w : World} {b : Nat} {x0 x1 x2 x3 x4 x5 x6 : Value} {T : TypeId} (h : w.heap[b]? = some (.cells #[x0, x1, x2, x3, x4, x5, x6] T (0, 0))) :
    w.cell? ⟨b, 0, none⟩ = some x0 ∧ w.cell? ⟨b, 1, none⟩ = some x1 ∧ w.cell? ⟨b, 2, none⟩ = some x2 ∧ w.cell? ⟨b, 3, none⟩ = some x3 ∧ w.cell? ⟨b, 4, none⟩ = some x4 ∧ w.cell? ⟨b, 5, none⟩ = some x5 ∧ w.cell? ⟨b, 6, none⟩ = some x6 :=
  ⟨blk_cell h 0, blk_cell h 1, blk_cell h 2, blk_cell h 3, blk_cell h 4, blk_cell h 5, blk_cell h 6⟩
def chkv (x : Chk) : Value := .agg #[.int .i64 x.epoch, .int .u64 x.root.hi, .int .u64 x.root.lo]
theorem eqlIn_chk (d : Nat) (x y : Chk) (w : World) : (Op.equalIn (d + 3) 26 (chkv x) (chkv y)).run Try.prog w = .ok (decide (x = y)) w := by
  have u := Try.underlying26
  have hid := fun (a b c e : Int) w => show (Op.equalIn (d + 2) 24 (.agg #[.int .u64 a, .int .u64 b]) (.agg #[.int .u64 c, .int .u64 e])).run Try.prog w = .ok (decide ((⟨a, b⟩ : ID) = ⟨c, e⟩)) w from eqlIn_id d ⟨a, b⟩ ⟨c, e⟩ w
  have u3 := Try.underlying3
  have u25 := Try.underlying24
  have p := fun cs off v h w => part_int (P := Try.prog) u3 cs off v h w
  have p25 := fun (a b c : Int) w => show (part 24 #[.int .i64 a, .int .u64 b, .int .u64 c] 1).run Try.prog w = .ok (.agg #[.int .u64 b, .int .u64 c]) w by
    simp [part, isAgg, run_underlying u25, Try.sizeOf24]
  unfold chkv
  rw [run_equalIn_struct _ _ _ _ _ (by kernel_rfl) (by kernel_rfl)]
  simp only [Program.fieldsOf, u]
  obtain ⟨x1, x2, x3⟩ := x
  obtain ⟨y1, y2, y3⟩ := y
  by_cases h1 : x1 = y1 <;> by_cases h2 : x2 = y2 <;> by_cases h3 : x3 = y3 <;> simp [Op.eqFields, p, p25, hid, run_equalIn_int _ _ _ _ _ _ _ u3, h1, h2, h3]
theorem eqlIn_lnk (d : Nat) (x y : Lnk) (w : World) : (Op.equalIn (d + 4) 28 (lnkv x) (lnkv y)).run Try.prog w = .ok (decide (x = y)) w := by
  have u := Try.underlying28
  have hid := fun (a b c a' b' c' : Int) w => show (Op.equalIn (d + 3) 26 (.agg #[.int .i64 a, .int .u64 b, .int .u64 c]) (.agg #[.int .i64 a', .int .u64 b', .int .u64 c'])).run Try.prog w = .ok (decide ((⟨a, b, c⟩ : Chk) = ⟨a', b', c'⟩)) w from eqlIn_chk d ⟨a, b, c⟩ ⟨a', b', c'⟩ w
  have u3 := Try.underlying3
  have u25 := Try.underlying26
  have p := fun cs off v h w => part_int (P := Try.prog) u3 cs off v h w
  have p1 := fun (a b c e f g h : Int) w => show (part 26 #[.int .i64 a, .int .i64 b, .int .u64 c, .int .u64 e, .int .i64 f, .int .u64 g, .int .u64 h] 1).run Try.prog w = .ok (.agg #[.int .i64 b, .int .u64 c, .int .u64 e]) w by
    simp [part, isAgg, run_underlying u25, Try.sizeOf26]
  have p2 := fun (a b c e f g h : Int) w => show (part 26 #[.int .i64 a, .int .i64 b, .int .u64 c, .int .u64 e, .int .i64 f, .int .u64 g, .int .u64 h] 4).run Try.prog w = .ok (.agg #[.int .i64 f, .int .u64 g, .int .u64 h]) w by
    simp [part, isAgg, run_underlying u25, Try.sizeOf26]
  unfold lnkv
  rw [run_equalIn_struct _ _ _ _ _ (by kernel_rfl) (by kernel_rfl)]
  simp only [Program.fieldsOf, u]
  obtain ⟨x1, ⟨x2, x3, x4⟩, ⟨x5, x6, x7⟩⟩ := x
  obtain ⟨y1, ⟨y2, y3, y4⟩, ⟨y5, y6, y7⟩⟩ := y
  by_cases e0 : x1 = y1 <;> by_cases e1 : (⟨x2, x3, x4⟩ : Chk) = ⟨y2, y3, y4⟩ <;> by_cases e2 : (⟨x5, x6, x7⟩ : Chk) = ⟨y5, y6, y7⟩ <;> simp [Op.eqFields, p, p1, p2, hid, run_equalIn_int _ _ _ _ _ _ _ u3, e0, e1, e2]
theorem eqlIn_vt (d : Nat) (x y : Lnk) (w : World) : (Op.equalIn (d + 5) 46 (lnkv x) (lnkv y)).run Try.prog w = .ok (decide (x = y)) w := by
  have u := Try.underlying46
  have hid := fun w => eqlIn_lnk d x y w
  have u25 := Try.underlying28
  have p1 := fun (z : Lnk) w => show (part 28 #[.int .i64 z.frm, .int .i64 z.src.epoch, .int .u64 z.src.root.hi, .int .u64 z.src.root.lo, .int .i64 z.tgt.epoch, .int .u64 z.tgt.root.hi, .int .u64 z.tgt.root.lo] 0).run Try.prog w = .ok (.agg #[.int .i64 z.frm, .int .i64 z.src.epoch, .int .u64 z.src.root.hi, .int .u64 z.src.root.lo, .int .i64 z.tgt.epoch, .int .u64 z.tgt.root.hi, .int .u64 z.tgt.root.lo]) w by
    simp [part, isAgg, run_underlying u25, Try.sizeOf28]
  unfold lnkv at *
  rw [run_equalIn_struct _ _ _ _ _ (by kernel_rfl) (by kernel_rfl)]
  simp only [Program.fieldsOf, u]
  by_cases e0 : x = y
  · subst e0; simp [Op.eqFields, p1, hid]
  · simp [Op.eqFields, p1, hid, e0]
theorem neq_vtw (x y : Lnk) (w : World) : (binOp .neq 46 (.agg #[.int .i64 x.frm, .int .i64 x.src.epoch, .int .u64 x.src.root.hi, .int .u64 x.src.root.lo, .int .i64 x.tgt.epoch, .int .u64 x.tgt.root.hi, .int .u64 x.tgt.root.lo]) (.agg #[.int .i64 y.frm, .int .i64 y.src.epoch, .int .u64 y.src.root.hi, .int .u64 y.src.root.lo, .int .i64 y.tgt.epoch, .int .u64 y.tgt.root.hi, .int .u64 y.tgt.root.lo])).run Try.prog w = .ok (.bool (!decide (x = y))) w := by
  have h := eqlIn_vt 9995 x y w
  unfold lnkv at h
  rw [run_neq_struct, h]
  rfl
theorem neq_lnkw (x y : Lnk) (w : World) : (binOp .neq 28 (.agg #[.int .i64 x.frm, .int .i64 x.src.epoch, .int .u64 x.src.root.hi, .int .u64 x.src.root.lo, .int .i64 x.tgt.epoch, .int .u64 x.tgt.root.hi, .int .u64 x.tgt.root.lo]) (.agg #[.int .i64 y.frm, .int .i64 y.src.epoch, .int .u64 y.src.root.hi, .int .u64 y.src.root.lo, .int .i64 y.tgt.epoch, .int .u64 y.tgt.root.hi, .int .u64 y.tgt.root.lo])).run Try.prog w = .ok (.bool (!decide (x = y))) w := by
  have h := eqlIn_lnk 9996 x y w
  unfold lnkv at h
  rw [run_neq_struct, h]
  rfl
theorem spans_dec (a b : Lnk) : decide (Spans a b) = decide (a.src.epoch < b.src.epoch ∧ b.tgt.epoch < a.tgt.epoch) := rfl
set_option maxRecDepth 100000 in
set_option maxHeartbeats 1000000 in
theorem rspans_any (a b : Lnk) (w : World) : Calls Try.prog 14 #[lnkv a, lnkv b] w fun e w' => e = .returned (.bool (decide (Spans a b))) ∧ Below w.heap.size w w' := by
  unfold lnkv
  have hW : ∃ W, ((w.alloc (.cells #[.int .i64 a.frm, .int .i64 a.src.epoch, .int .u64 a.src.root.hi, .int .u64 a.src.root.lo, .int .i64 a.tgt.epoch, .int .u64 a.tgt.root.hi, .int .u64 a.tgt.root.lo] 28)).alloc (.cells #[.int .i64 b.frm, .int .i64 b.src.epoch, .int .u64 b.src.root.hi, .int .u64 b.src.root.lo, .int .i64 b.tgt.epoch, .int .u64 b.tgt.root.hi, .int .u64 b.tgt.root.lo] 28)) = W := ⟨_, rfl⟩
  obtain ⟨W, hW⟩ := hW
  have hB : Below w.heap.size w W := by subst hW; exact (((Below.refl _ w).alloc (by simp) _).alloc (by simp) _)
  have b0 : W.heap[w.heap.size]? = some (.cells #[.int .i64 a.frm, .int .i64 a.src.epoch, .int .u64 a.src.root.hi, .int .u64 a.src.root.lo, .int .i64 a.tgt.epoch, .int .u64 a.tgt.root.hi, .int .u64 a.tgt.root.lo] 28 (0, 0)) := by subst hW; exact ha_lt (ha_at (by simp))
  obtain ⟨c0, c1, c2, c3, c4, c5, c6⟩ := blkL b0
  have b1 : W.heap[w.heap.size + 1]? = some (.cells #[.int .i64 b.frm, .int .i64 b.src.epoch, .int .u64 b.src.root.hi, .int .u64 b.src.root.lo, .int .i64 b.tgt.epoch, .int .u64 b.tgt.root.hi, .int .u64 b.tgt.root.lo] 28 (0, 0)) := by subst hW; exact ha_at (by simp)
  obtain ⟨d0, d1, d2, d3, d4, d5, d6⟩ := blkL b1
  go_enter Try.func14, Try.ntmps14
  go_wp2_with fail
  all_goals
    go_ret
    refine ⟨ret_bool ?_, hB⟩
    rw [Bool.eq_iff_iff]
    simp only [decide_eq_true_eq, Bool.false_eq_true, false_iff]
    unfold Spans
    omega
set_option maxRecDepth 100000 in
set_option maxHeartbeats 1000000 in
theorem spans_any (a b : Lnk) (w : World) : Calls Try.prog 20 #[lnkv a, lnkv b] w fun e w' => e = .returned (.bool (decide (Spans a b))) ∧ Below w.heap.size w w' := by
  unfold lnkv
  have hW : ∃ W, ((w.alloc (.cells #[.int .i64 a.frm, .int .i64 a.src.epoch, .int .u64 a.src.root.hi, .int .u64 a.src.root.lo, .int .i64 a.tgt.epoch, .int .u64 a.tgt.root.hi, .int .u64 a.tgt.root.lo] 46)).alloc (.cells #[.int .i64 b.frm, .int .i64 b.src.epoch, .int .u64 b.src.root.hi, .int .u64 b.src.root.lo, .int .i64 b.tgt.epoch, .int .u64 b.tgt.root.hi, .int .u64 b.tgt.root.lo] 46)) = W := ⟨_, rfl⟩
  obtain ⟨W, hW⟩ := hW
  have hB : Below w.heap.size w W := by subst hW; exact (((Below.refl _ w).alloc (by simp) _).alloc (by simp) _)
  have b0 : W.heap[w.heap.size]? = some (.cells #[.int .i64 a.frm, .int .i64 a.src.epoch, .int .u64 a.src.root.hi, .int .u64 a.src.root.lo, .int .i64 a.tgt.epoch, .int .u64 a.tgt.root.hi, .int .u64 a.tgt.root.lo] 46 (0, 0)) := by subst hW; exact ha_lt (ha_at (by simp))
  obtain ⟨c0, c1, c2, c3, c4, c5, c6⟩ := blkL b0
  have b1 : W.heap[w.heap.size + 1]? = some (.cells #[.int .i64 b.frm, .int .i64 b.src.epoch, .int .u64 b.src.root.hi, .int .u64 b.src.root.lo, .int .i64 b.tgt.epoch, .int .u64 b.tgt.root.hi, .int .u64 b.tgt.root.lo] 46 (0, 0)) := by subst hW; exact ha_at (by simp)
  obtain ⟨d0, d1, d2, d3, d4, d5, d6⟩ := blkL b1
  go_enter Try.func20, Try.ntmps20
  go_wp2_with fail
  all_goals
    go_ret
    refine ⟨ret_bool ?_, hB⟩
    rw [Bool.eq_iff_iff]
    simp only [decide_eq_true_eq, Bool.false_eq_true, false_iff]
    unfold Spans
    omega
set_option maxRecDepth 100000 in
set_option maxHeartbeats 1000000 in
theorem spanned_any (a b : Lnk) (w : World) : Calls Try.prog 21 #[lnkv a, lnkv b] w fun e w' => e = .returned (.bool (decide (Spans b a))) ∧ Below w.heap.size w w' := by
  have hs := fun V => spans_any b a V
  unfold lnkv at *
  have hW : ∃ W, ((w.alloc (.cells #[.int .i64 a.frm, .int .i64 a.src.epoch, .int .u64 a.src.root.hi, .int .u64 a.src.root.lo, .int .i64 a.tgt.epoch, .int .u64 a.tgt.root.hi, .int .u64 a.tgt.root.lo] 46)).alloc (.cells #[.int .i64 b.frm, .int .i64 b.src.epoch, .int .u64 b.src.root.hi, .int .u64 b.src.root.lo, .int .i64 b.tgt.epoch, .int .u64 b.tgt.root.hi, .int .u64 b.tgt.root.lo] 46)) = W := ⟨_, rfl⟩
  obtain ⟨W, hW⟩ := hW
  have hB : Below w.heap.size w W := by subst hW; exact (((Below.refl _ w).alloc (by simp) _).alloc (by simp) _)
  have b0 : W.heap[w.heap.size]? = some (.cells #[.int .i64 a.frm, .int .i64 a.src.epoch, .int .u64 a.src.root.hi, .int .u64 a.src.root.lo, .int .i64 a.tgt.epoch, .int .u64 a.tgt.root.hi, .int .u64 a.tgt.root.lo] 46 (0, 0)) := by subst hW; exact ha_lt (ha_at (by simp))
  obtain ⟨c0, c1, c2, c3, c4, c5, c6⟩ := blkL b0
  have b1 : W.heap[w.heap.size + 1]? = some (.cells #[.int .i64 b.frm, .int .i64 b.src.epoch, .int .u64 b.src.root.hi, .int .u64 b.src.root.lo, .int .i64 b.tgt.epoch, .int .u64 b.tgt.root.hi, .int .u64 b.tgt.root.lo] 46 (0, 0)) := by subst hW; exact ha_at (by simp)
  obtain ⟨d0, d1, d2, d3, d4, d5, d6⟩ := blkL b1
  obtain ⟨q, hq⟩ : ∃ q, decide (Spans b a) = q := ⟨_, rfl⟩
  rw [hq] at hs ⊢
  clear hq
  go_enter Try.func21, Try.ntmps21
  go_wp2_with (go_at_call 20; with_reducible refine (hs _).mono ?_; clear hs; rintro e w1 ⟨rfl, hb1⟩; have hB1 := below_call hB hB.size hb1)
  go_ret
  exact ⟨rfl, hB1⟩
def Twice (a b : Lnk) : Prop := a ≠ b ∧ a.tgt.epoch = b.tgt.epoch
instance (a b : Lnk) : Decidable (Twice a b) := by unfold Twice; exact inferInstance
set_option maxRecDepth 100000 in
set_option maxHeartbeats 1000000 in
theorem twice_any (a b : Lnk) (w : World) : Calls Try.prog 22 #[lnkv a, lnkv b] w fun e w' => e = .returned (.bool (decide (Twice a b))) ∧ Below w.heap.size w w' := by
  have hne := neq_vtw a b
  unfold lnkv Twice
  have hW : ∃ W, ((w.alloc (.cells #[.int .i64 a.frm, .int .i64 a.src.epoch, .int .u64 a.src.root.hi, .int .u64 a.src.root.lo, .int .i64 a.tgt.epoch, .int .u64 a.tgt.root.hi, .int .u64 a.tgt.root.lo] 46)).alloc (.cells #[.int .i64 b.frm, .int .i64 b.src.epoch, .int .u64 b.src.root.hi, .int .u64 b.src.root.lo, .int .i64 b.tgt.epoch, .int .u64 b.tgt.root.hi, .int .u64 b.tgt.root.lo] 46)) = W := ⟨_, rfl⟩
  obtain ⟨W, hW⟩ := hW
  have hB : Below w.heap.size w W := by subst hW; exact (((Below.refl _ w).alloc (by simp) _).alloc (by simp) _)
  have b0 : W.heap[w.heap.size]? = some (.cells #[.int .i64 a.frm, .int .i64 a.src.epoch, .int .u64 a.src.root.hi, .int .u64 a.src.root.lo, .int .i64 a.tgt.epoch, .int .u64 a.tgt.root.hi, .int .u64 a.tgt.root.lo] 46 (0, 0)) := by subst hW; exact ha_lt (ha_at (by simp))
  obtain ⟨c0, c1, c2, c3, c4, c5, c6⟩ := blkL b0
  have b1 : W.heap[w.heap.size + 1]? = some (.cells #[.int .i64 b.frm, .int .i64 b.src.epoch, .int .u64 b.src.root.hi, .int .u64 b.src.root.lo, .int .i64 b.tgt.epoch, .int .u64 b.tgt.root.hi, .int .u64 b.tgt.root.lo] 46 (0, 0)) := by subst hW; exact ha_at (by simp)
  obtain ⟨d0, d1, d2, d3, d4, d5, d6⟩ := blkL b1
  by_cases he : a = b
  · have hd : decide (a = b) = true := by simpa using he
    rw [hd] at hne
    have he' := Lib.hid he
    clear he hd
    go_enter Try.func22, Try.ntmps22
    go_wp2_with fail
    go_ret
    exact ⟨ret_bool (by simp [he'.out]), hB⟩
  · have hd : decide (a = b) = false := by simpa using he
    rw [hd] at hne
    have he' := Lib.hid he
    clear he hd
    go_enter Try.func22, Try.ntmps22
    go_wp2_with fail
    go_ret
    exact ⟨ret_bool (by rw [Bool.eq_iff_iff]; simp [he'.out]), hB⟩
end Go.Proofs.Ytigdbcfpamnkcaa
