/- The walk of duty.sum over duty.those. -/
import Derived.Test.YtkccakaaklemdaaDuty3
namespace Go.Proofs.Ytkccakaaklemdaa
open Go.RowKit Go.Shelf
attribute [local go_sem] Oper.semAt_some
theorem blk_setCell_other (W : World) (p q : Addr) (v : Value) (h : q.block ≠ p.block) : (W.setCell p v).cell? q = W.cell? q := by simp only [World.cell?, heap_setCell_other W p q.block v h]
/-- What those weigh of whom p is so. -/
def sumC (c : Cfg) (p : Nat → Bool) : Int := if MayC c then wsumTo c.W p c.W.length else 0
def encF {m : Nat} (x : Fin m) : Array Value := #[.int .i64 (x.val : Int)]
/-- The iterator of those of whom p is so. -/
def ThoseK (F : Fence) (n : Nat) (Bc Bf n₀ : Nat) (m : Nat) (p : Nat → Bool) (w : World) : Prop :=
  SeqStopsK F n Try.prog 53 #[.pointer (some ⟨Bc, 0, none⟩), .pointer (some ⟨Bf, 0, none⟩)] (encF (m := m)) (Below n₀) (fun ys => ys = those m p m) (fun pre => ∃ k, k < m ∧ p k = true ∧ pre = those m p (k + 1)) m w
set_option maxRecDepth 100000 in
set_option maxHeartbeats 2000000 in
theorem sum_any (c : Cfg) (A : Option Addr) (k Bc Bf : Nat) (p : Nat → Bool) (w : World) (hr : Rd 1 encI w A c.W)
    (hseq : ∀ W, Below w.heap.size w W → ThoseK Fence.wide 2 Bc Bf w.heap.size c.W.length p W) :
    Calls Try.prog 38 #[cfgv A k c, .func (.func 53) #[] #[.pointer (some ⟨Bc, 0, none⟩), .pointer (some ⟨Bf, 0, none⟩)]] w fun e w' => e = .returned (.int .i64 (sumC c p)) ∧ Below w.heap.size w w' := by
  have hm := hr.1
  have hmay := fun W (hW : Below w.heap.size w W) => dmay_any c A k W (hr.below hW)
  have hmx : Try.prog.follows .mixedOrders = true := by kernel_rfl
  unfold cfgv at *
  have hW : ∃ W, w.alloc (.cells #[.slice A c.W.length k, .int .u64 c.seed, .int .i64 c.epoch, .int .i64 c.num, .int .i64 c.den] 25) = W := ⟨_, rfl⟩
  obtain ⟨W, hW⟩ := hW
  have hB : Below w.heap.size w W := by subst hW; exact (Below.refl _ w).alloc (Nat.le_refl _) _
  have hb : W.heap[w.heap.size]? = some (.cells #[.slice A c.W.length k, .int .u64 c.seed, .int .i64 c.epoch, .int .i64 c.num, .int .i64 c.den] 25 (0, 0)) := by subst hW; exact ha_at rfl
  have hsz : W.heap.size = w.heap.size + 1 := by subst hW; simp
  have c0 := blk_cell hb 0
  have hV : ∃ V, W.alloc (.cells #[.int .i64 0] 3) = V := ⟨_, rfl⟩
  obtain ⟨V, hV⟩ := hV
  have hBV : Below w.heap.size w V := by subst hV; exact hB.alloc hB.size _
  have hbV : V.heap[w.heap.size]? = some (.cells #[.slice A c.W.length k, .int .u64 c.seed, .int .i64 c.epoch, .int .i64 c.num, .int .i64 c.den] 25 (0, 0)) := by subst hV; exact ha_lt hb
  have hbn : V.heap[w.heap.size + 1]? = some (.cells #[.int .i64 0] 3 (0, 0)) := by subst hV; rw [← hsz]; exact ha_at rfl
  obtain ⟨cn, fn⟩ := blk1 hbn
  have hU : ∃ U, V.setCell ⟨w.heap.size + 1, 0, none⟩ (.int .i64 0) = U := ⟨_, rfl⟩
  obtain ⟨U, hU⟩ := hU
  have hBU : Below w.heap.size w U := by subst hU; exact hBV.setCell (p := ⟨w.heap.size + 1, 0, none⟩) (by simp) _
  have hbU : U.heap[w.heap.size]? = some (.cells #[.slice A c.W.length k, .int .u64 c.seed, .int .i64 c.epoch, .int .i64 c.num, .int .i64 c.den] 25 (0, 0)) := by subst hU; exact grown_own (grown_set _ _ _) hbV (by simp)
  have hbn2 : U.heap[w.heap.size + 1]? = some (.cells #[.int .i64 0] 3 (0, 0)) := by subst hU; exact Boxed.set _ hbn
  have d0 := blk_cell hbU 0
  have d1 := blk_cell hbU 1
  have d2 := blk_cell hbU 2
  have d3 := blk_cell hbU 3
  have d4 := blk_cell hbU 4
  obtain ⟨dn, gn⟩ := blk1 hbn2
  have hmay := hmay U hBU
  by_cases hmc : MayC c
  · have hd : decide (MayC c) = true := by simpa using hmc
    rw [hd] at hmay
    unfold sumC
    rw [if_pos hmc]
    have hWx := Lib.hid hmc.W
    have hlen := hmc.len
    clear hmc hd
    refine (callsIn_wide (n := 3)).1 ?_
    refine callsIn_of_wp_marks Try.func38 rfl trivial ?_ rfl
    simp only [Try.ntmps38, List.size_toArray, List.length_cons, List.length_nil, Nat.reduceAdd, Nat.reduceSub, Array.replicate_succ, Array.replicate_zero, List.push_toArray, List.append_toArray, List.nil_append, List.cons_append]
    gi_wp2_with (refine ⟨trivial, ?_⟩; gi_at_call 52; refine (callsIn_wide.2 hmay).mono ?_; clear hmay; rintro e w1 ⟨rfl, hb1⟩)
    have hB1 := below_call hBU hBU.size hb1
    have hbb := bl_own hb1 hbU
    have hbn1 := bl_own hb1 hbn2
    refine wpIn_rangeFunc_ownG rfl (by decide) (gf := 53) (lb := #[.pointer (some ⟨Bc, 0, none⟩), .pointer (some ⟨Bf, 0, none⟩)]) rfl trivial (enters_of Try.func53 (by kernel_rfl) rfl)
      (hseq w1 hB1) belowK_t (belowK_b hB1.size) (Below.refl _ _) (fun _ => rfl)
      (fun pre W => (W.cell? ⟨w.heap.size + 1, 0, none⟩ = some (.int .i64 (sumF c.W pre)) ∧ W.frozen? ⟨w.heap.size + 1, 0, none⟩ = false ∧ W.cell? ⟨w.heap.size, 0, none⟩ = some (.slice A c.W.length k)) ∧ Below w.heap.size w W)
      (fun _ _ _ => False)
      (OwnFrom.and (Own.from (fun s A B row hs hg hr => ⟨cell_kept hs.1 hg hr, (frozen_kept hs.1 hg hr).trans hs.2.1, cell_kept hs.2.2 hg hr⟩) _) (ownFrom_below (Nat.le_refl _) hB1.size))
      (fun _ _ _ _ _ hs _ _ => hs)
      ⟨⟨(blk1 hbn1).1, (blk1 hbn1).2, blk_cell hbb 0⟩, hB1⟩
      (fun x => { tmps := #[.agg #[.slice A c.W.length k, .int .u64 c.seed, .int .i64 c.epoch, .int .i64 c.num, .int .i64 c.den], .func (.func 53) #[] #[.pointer (some ⟨Bc, 0, none⟩), .pointer (some ⟨Bf, 0, none⟩)], .pointer (some ⟨w.heap.size, 0, none⟩), undef, .int .i64 0, .pointer (some ⟨w.heap.size + 1, 0, none⟩), .int .i64 (x.val : Int), .agg #[.slice A c.W.length k, .int .u64 c.seed, .int .i64 c.epoch, .int .i64 c.num, .int .i64 c.den], .bool true, .bool false, undef, .func (.func 53) #[] #[.pointer (some ⟨Bc, 0, none⟩), .pointer (some ⟨Bf, 0, none⟩)], .int .i64 (x.val : Int), undef, undef, undef, undef, undef, undef, undef, undef], defers := [] }) ?assign ?body ?done ?stop
    case assign =>
      intro l x W K hK
      unfold encF
      gi_wp2
      exact hK
    case body =>
      rintro l pre x W ⟨⟨hcn, hfn, hcc⟩, hBW⟩ hpl
      obtain ⟨b, o, rfl, hbo, d⟩ := (hr.below hBW).atI x.2
      have hbd := sumF_bd hWx.out pre
      have hsn := show sumF c.W (pre ++ [x]) = sumF c.W pre + c.W[x.val] from sumF_snoc c.W pre x
      obtain ⟨hy0, hy1⟩ := hWx.out _ (List.getElem_mem x.2)
      obtain ⟨y, hy⟩ : ∃ y, c.W[x.val] = y := ⟨_, rfl⟩
      rw [hy] at d hsn hy0 hy1
      clear hy
      obtain ⟨s, hs⟩ : ∃ s, sumF c.W pre = s := ⟨_, rfl⟩
      rw [hs] at hcn hbd hsn
      obtain ⟨hb1, hb2⟩ := hbd
      have hx12 := x.2
      have hb3 : s ≤ 13194139533312 := by omega
      have hsn' := Lib.hid hsn
      clear hsn hs
      gi_wp2
      gi_region_with_o fail
      all_goals gi_wp2
      all_goals (try go_bits)
      all_goals
        exact ⟨((KeepsOthers.setCell _ _ _).trans (KeepsOthers.drew _)).from _, ((Below.refl w.heap.size W).setCell (p := ⟨w.heap.size + 1, 0, none⟩) (by simp) _).drew,
          ⟨by rw [hsn'.out, cell_drew_own]; exact World.cell?_setCell_same' _ _ _ (by rw [hcn]; rfl), by rw [frozen_drew_own, World.frozen?_setCell]; exact hfn, by rw [cell_drew_own]; exact (Eq.trans (blk_setCell_other _ _ _ _ (by simp)) hcc)⟩, (hBW.setCell (p := ⟨w.heap.size + 1, 0, none⟩) (by simp) _).drew⟩
    case done =>
      rintro D ys W hD rfl ⟨⟨hcn, _, _⟩, hBW⟩ hK
      rw [sumF_those c.W p _ (Nat.le_refl _)] at hcn
      gi_wp2
      refine ⟨by simp, .inl ⟨_, _, rfl, run_takeDeferred hK, ?_⟩⟩
      exact ⟨_, results_tmp rfl _ _ _, rfl, hBW.trans (belowK_b (w := w1) hB1.size W D _ _ hD hK rfl rfl)⟩
    case stop =>
      rintro D c pre W _ _ h _
      exact h.elim
  · have hd : decide (MayC c) = false := by simpa using hmc
    rw [hd] at hmay
    unfold sumC
    rw [if_neg hmc]
    clear hmc hd
    go_enter Try.func38, Try.ntmps38
    go_wp2_with (go_at_call 52; refine hmay.mono ?_; clear hmay; rintro e w1 ⟨rfl, hb1⟩; have hB1 := below_call hBU hBU.size hb1; obtain ⟨dn1, gn1⟩ := blk1 (bl_own hb1 hbn2))
    go_ret
    exact ⟨rfl, hB1⟩
end Go.Proofs.Ytkccakaaklemdaa
