/- HG: several texts in one. -/
import Derived.RangeFuncNested
import Derived.RangeFuncBound
import Derived.RangeFuncCalls
import Derived.RangeFuncLeaves
import Derived.Shelf.Abstract
import Derived.Shelf.RegionOpen
import Derived.WalkKit
import Derived.OwnWalkIn
import Derived.TacticsInMore
import Derived.LoopNIn
import Derived.LoopIn
import Derived.Test.YtdocgemfedohdaaHF
import Derived.Test.YtdocgemfedohdaaHA
import Derived.Test.YtdocgemfedohdaaHB
/-! The walks of duty.those's iterator, and of duty.sum over it. -/
namespace Go.Proofs.Ytdocgemfedohdaa
open Go.RowKit Go.Shelf
attribute [local go_sem] Oper.semAt_some
/-- Those below k, of m, of which p is so. -/
def those (m : Nat) (p : Nat → Bool) : Nat → List (Fin m)
  | 0 => []
  | k + 1 => if h : k < m then (if p k then those m p k ++ [⟨k, h⟩] else those m p k) else those m p k
theorem those_len (m : Nat) (p : Nat → Bool) (k : Nat) : (those m p k).length ≤ k := by
  induction k with
  | zero => simp [those]
  | succ k ih => simp only [those]; split <;> (try split) <;> (try simp only [List.length_append, List.length_singleton]) <;> omega
theorem those_yes {m k : Nat} {p : Nat → Bool} (h : k < m) (hp : p k = true) : those m p (k + 1) = those m p k ++ [⟨k, h⟩] := by simp [those, h, hp]
theorem those_no {m k : Nat} {p : Nat → Bool} (hp : p k = false) : those m p (k + 1) = those m p k := by simp [those, hp]
/-- What some weigh. -/
def sumF (W : List Int) (l : List (Fin W.length)) : Int := l.foldl (fun s i => s + W[i]) 0
theorem sumF_snoc (W : List Int) (l : List (Fin W.length)) (i : Fin W.length) : sumF W (l ++ [i]) = sumF W l + W[i] := by simp [sumF]
theorem sumF_those (W : List Int) (p : Nat → Bool) (k : Nat) (hk : k ≤ W.length) : sumF W (those W.length p k) = wsumTo W p k := by
  induction k with
  | zero => rfl
  | succ k ih =>
    have h : k < W.length := hk
    have ih := ih (by omega)
    cases hp : p k with
    | true => rw [those_yes h hp, sumF_snoc, ih]; simp [wsumTo, hp, h]
    | false => rw [those_no hp, ih]; simp [wsumTo, hp]
theorem sumF_bd {W : List Int} (h : ∀ x ∈ W, 0 ≤ x ∧ x ≤ 1099511627776) (l : List (Fin W.length)) : 0 ≤ sumF W l ∧ sumF W l ≤ l.length * 1099511627776 := by
  suffices H : ∀ (l : List (Fin W.length)) (s : Int), s ≤ l.foldl (fun s i => s + W[i]) s ∧ l.foldl (fun s i => s + W[i]) s ≤ s + l.length * 1099511627776 by
    have := H l 0; simpa [sumF] using this
  intro l
  induction l with
  | nil => intro s; simp
  | cons i l ih =>
    intro s
    have := ih (s + W[i])
    have hx := h W[i] (List.getElem_mem _)
    simp only [List.foldl_cons, List.length_cons]
    omega
/-- A conf lies in a block. -/
def ConfAt (w : World) (B : Nat) (A : Option Addr) (k : Nat) (c : Cfg) : Prop := w.heap[B]? = some (.cells #[.slice A c.W.length k, .int .u64 c.seed, .int .i64 c.epoch, .int .i64 c.num, .int .i64 c.den] 25 (0, 0))
theorem ConfAt.own {w w' : World} {B : Nat} {A : Option Addr} {k : Nat} {c : Cfg} (h : ConfAt w B A k c) (hb : Below w.heap.size w w') : ConfAt w' B A k c := bl_own hb h
set_option maxRecDepth 100000 in
set_option maxHeartbeats 2000000 in
/-- duty.those's closure, where what is asked of each is whether a map has it. -/
theorem those1_wt (F : Fence) (n : Nat) (h47 : F.fn 70) (hpf : F.fn 47) (hro : F.round = none) (hn : 1 ≤ n) (l Bc Bf n₀ : Nat) (c : Cfg) (A : Option Addr) (kc : Nat) (Bm : Nat) (p : Nat → Bool) (J Jx : List (Fin c.W.length) → World → Prop)
    (W : World) (hA : Rd 1 encI W A c.W) (hc : ConfAt W Bc A kc c) (hf : W.heap[Bf]? = some (.cells #[.func (.func 47) #[] #[.pointer (some ⟨Bm, 0, none⟩)]] 74 (0, 0))) (_ : n₀ ≤ W.heap.size) (_ : Bc < n₀) (hfn : Bf < n₀)
    (hP : ∀ (i : Nat) W', i < c.W.length → Below n₀ W W' → CallsIn F (n - 1) Try.prog 47 #[.int .i64 (i : Int), .pointer (some ⟨Bm, 0, none⟩)] W' fun e w' => e = .returned (.bool (p i)) ∧ w' = W')
    (hY : ∀ pre (x : Fin c.W.length) W, J pre W → pre.length < c.W.length → YieldAt F (n - 1) Try.prog l #[.int .i64 (x.val : Int)] W fun e W' =>
      (e = .returned (.bool true) ∧ J (pre ++ [x]) W' ∧ Below n₀ W W') ∨ (e = .returned (.bool false) ∧ Jx (pre ++ [x]) W')) (h0 : J [] W) :
    CallsIn F n Try.prog 70 #[.func (.yield l) #[] #[], .pointer (some ⟨Bc, 0, none⟩), .pointer (some ⟨Bf, 0, none⟩)] W fun e W' => (∃ v, e = .returned v) ∧
      ((∃ ys, ys = those c.W.length p c.W.length ∧ J ys W') ∨ (∃ pre, (∃ k, k < c.W.length ∧ p k = true ∧ pre = those c.W.length p (k + 1)) ∧ Jx pre W')) := by
  have hm := hA.1
  have c0 := blk_cell hc 0
  have hf0 := blk_cell hf 0
  refine callsIn_of_wp Try.func70 rfl h47 ?_ hro
  simp only [Try.ntmps70, List.size_toArray, List.length_cons, List.length_nil, Nat.reduceAdd, Nat.reduceSub, Array.replicate_succ, Array.replicate_zero, List.push_toArray, List.append_toArray, List.nil_append, List.cons_append]
  gi_wp2
  gi_loopw [8, 4] (fun i _x wr => ∃ k : Nat, k ≤ c.W.length ∧ i = .int .i64 k ∧ J (those c.W.length p k) wr ∧ Below n₀ W wr)
    (fun i _ _ => c.W.length - (intOf i).toNat)
  case atStart => exact ⟨0, Nat.zero_le _, rfl, h0, Below.refl _ _⟩
  case round =>
    obtain ⟨k, hk, rfl, hJs, hnx⟩ := hrel
    have hfx : wr.heap[Bf]? = some (.cells #[.func (.func 47) #[] #[.pointer (some ⟨Bm, 0, none⟩)]] 74 (0, 0)) := bl_blk hnx hf hfn
    have e0 := blk_cell hfx 0
    by_cases hlt : k < c.W.length
    · have hPk := hP k wr hlt hnx
      have hlen := those_len c.W.length p k
      cases hpk : p k with
      | true =>
        rw [hpk] at hPk
        obtain ⟨fn, tmps, assign, body, hy, hR⟩ := hY _ ⟨k, hlt⟩ wr hJs (Nat.lt_of_le_of_lt hlen hlt)
        dsimp only at hy
        have hth := Lib.hid (those_yes hlt hpk)
        have hpk' := Lib.hid hpk
        clear hpk hlen
        gi_wp2_with (gi_at_call 47; refine hPk.mono ?_; clear hPk; rintro e w' ⟨rfl, rfl⟩)
        refine hR.mono ?_
        rintro e W3 (⟨rfl, hJ3, hk3⟩ | ⟨rfl, hJx3⟩)
        · gi_wp2
          go_roundw
          case rel => exact ⟨k + 1, hlt, by go_num, by rw [hth.out]; exact hJ3, hnx.trans hk3⟩
          case measure => simp [intOf]; omega
        · gi_wp2
          refine bodyPost_ret (results_none rfl _ _ _) rfl ?_
          exact ⟨⟨_, rfl⟩, .inr ⟨_, ⟨k, hlt, hpk'.out, hth.out.symm⟩, hJx3⟩⟩
      | false =>
        rw [hpk] at hPk
        have hth := Lib.hid (those_no (m := c.W.length) hpk)
        clear hpk hlen
        gi_wp2_with (gi_at_call 47; refine hPk.mono ?_; clear hPk; rintro e w' ⟨rfl, rfl⟩)
        refine ⟨fun _ h => (by cases h), ?_⟩
        gi_wp2
        go_roundw
        case rel => exact ⟨k + 1, hlt, by go_num, by rw [hth.out]; exact hJs, hnx⟩
        case measure => simp [intOf]; omega
    · obtain rfl : k = c.W.length := by omega
      gi_wp2
      go_end0
      exact ⟨⟨_, rfl⟩, .inl ⟨_, rfl, hJs⟩⟩
set_option maxRecDepth 100000 in
set_option maxHeartbeats 2000000 in
/-- duty.those's closure, where what is asked of each is nothing. -/
theorem those1_tt (F : Fence) (n : Nat) (h47 : F.fn 70) (hpf : F.fn 48) (hro : F.round = none) (hn : 1 ≤ n) (l Bc Bf n₀ : Nat) (c : Cfg) (A : Option Addr) (kc : Nat) (p : Nat → Bool) (J Jx : List (Fin c.W.length) → World → Prop)
    (W : World) (hA : Rd 1 encI W A c.W) (hc : ConfAt W Bc A kc c) (hf : W.heap[Bf]? = some (.cells #[.func (.func 48) #[] #[]] 74 (0, 0))) (_ : n₀ ≤ W.heap.size) (_ : Bc < n₀) (hfn : Bf < n₀)
    (hP : ∀ (i : Nat) W', i < c.W.length → Below n₀ W W' → CallsIn F (n - 1) Try.prog 48 #[.int .i64 (i : Int)] W' fun e w' => e = .returned (.bool (p i)) ∧ w' = W')
    (hY : ∀ pre (x : Fin c.W.length) W, J pre W → pre.length < c.W.length → YieldAt F (n - 1) Try.prog l #[.int .i64 (x.val : Int)] W fun e W' =>
      (e = .returned (.bool true) ∧ J (pre ++ [x]) W' ∧ Below n₀ W W') ∨ (e = .returned (.bool false) ∧ Jx (pre ++ [x]) W')) (h0 : J [] W) :
    CallsIn F n Try.prog 70 #[.func (.yield l) #[] #[], .pointer (some ⟨Bc, 0, none⟩), .pointer (some ⟨Bf, 0, none⟩)] W fun e W' => (∃ v, e = .returned v) ∧
      ((∃ ys, ys = those c.W.length p c.W.length ∧ J ys W') ∨ (∃ pre, (∃ k, k < c.W.length ∧ p k = true ∧ pre = those c.W.length p (k + 1)) ∧ Jx pre W')) := by
  have hm := hA.1
  have c0 := blk_cell hc 0
  have hf0 := blk_cell hf 0
  refine callsIn_of_wp Try.func70 rfl h47 ?_ hro
  simp only [Try.ntmps70, List.size_toArray, List.length_cons, List.length_nil, Nat.reduceAdd, Nat.reduceSub, Array.replicate_succ, Array.replicate_zero, List.push_toArray, List.append_toArray, List.nil_append, List.cons_append]
  gi_wp2
  gi_loopw [8, 4] (fun i _x wr => ∃ k : Nat, k ≤ c.W.length ∧ i = .int .i64 k ∧ J (those c.W.length p k) wr ∧ Below n₀ W wr)
    (fun i _ _ => c.W.length - (intOf i).toNat)
  case atStart => exact ⟨0, Nat.zero_le _, rfl, h0, Below.refl _ _⟩
  case round =>
    obtain ⟨k, hk, rfl, hJs, hnx⟩ := hrel
    have hfx : wr.heap[Bf]? = some (.cells #[.func (.func 48) #[] #[]] 74 (0, 0)) := bl_blk hnx hf hfn
    have e0 := blk_cell hfx 0
    by_cases hlt : k < c.W.length
    · have hPk := hP k wr hlt hnx
      have hlen := those_len c.W.length p k
      cases hpk : p k with
      | true =>
        rw [hpk] at hPk
        obtain ⟨fn, tmps, assign, body, hy, hR⟩ := hY _ ⟨k, hlt⟩ wr hJs (Nat.lt_of_le_of_lt hlen hlt)
        dsimp only at hy
        have hth := Lib.hid (those_yes hlt hpk)
        have hpk' := Lib.hid hpk
        clear hpk hlen
        gi_wp2_with (gi_at_call 48; refine hPk.mono ?_; clear hPk; rintro e w' ⟨rfl, rfl⟩)
        refine hR.mono ?_
        rintro e W3 (⟨rfl, hJ3, hk3⟩ | ⟨rfl, hJx3⟩)
        · gi_wp2
          go_roundw
          case rel => exact ⟨k + 1, hlt, by go_num, by rw [hth.out]; exact hJ3, hnx.trans hk3⟩
          case measure => simp [intOf]; omega
        · gi_wp2
          refine bodyPost_ret (results_none rfl _ _ _) rfl ?_
          exact ⟨⟨_, rfl⟩, .inr ⟨_, ⟨k, hlt, hpk'.out, hth.out.symm⟩, hJx3⟩⟩
      | false =>
        rw [hpk] at hPk
        have hth := Lib.hid (those_no (m := c.W.length) hpk)
        clear hpk hlen
        gi_wp2_with (gi_at_call 48; refine hPk.mono ?_; clear hPk; rintro e w' ⟨rfl, rfl⟩)
        refine ⟨fun _ h => (by cases h), ?_⟩
        gi_wp2
        go_roundw
        case rel => exact ⟨k + 1, hlt, by go_num, by rw [hth.out]; exact hJs, hnx⟩
        case measure => simp [intOf]; omega
    · obtain rfl : k = c.W.length := by omega
      gi_wp2
      go_end0
      exact ⟨⟨_, rfl⟩, .inl ⟨_, rfl, hJs⟩⟩
end Go.Proofs.Ytdocgemfedohdaa
/-! The walk of duty.sum over duty.those. -/
namespace Go.Proofs.Ytdocgemfedohdaa
open Go.RowKit Go.Shelf
attribute [local go_sem] Oper.semAt_some
theorem blk_setCell_other (W : World) (p q : Addr) (v : Value) (h : q.block ≠ p.block) : (W.setCell p v).cell? q = W.cell? q := by simp only [World.cell?, heap_setCell_other W p q.block v h]
/-- What those weigh of whom p is so. -/
def sumC (c : Cfg) (p : Nat → Bool) : Int := if MayC c then wsumTo c.W p c.W.length else 0
def encF {m : Nat} (x : Fin m) : Array Value := #[.int .i64 (x.val : Int)]
/-- The iterator of those of whom p is so. -/
def ThoseK (F : Fence) (n : Nat) (Bc Bf n₀ : Nat) (m : Nat) (p : Nat → Bool) (w : World) : Prop :=
  SeqStopsK F n Try.prog 70 #[.pointer (some ⟨Bc, 0, none⟩), .pointer (some ⟨Bf, 0, none⟩)] (encF (m := m)) (Below n₀) (fun ys => ys = those m p m) (fun pre => ∃ k, k < m ∧ p k = true ∧ pre = those m p (k + 1)) m w
set_option maxRecDepth 100000 in
set_option maxHeartbeats 2000000 in
theorem sum_any (c : Cfg) (A : Option Addr) (k Bc Bf : Nat) (p : Nat → Bool) (w : World) (hr : Rd 1 encI w A c.W)
    (hseq : ∀ W, Below w.heap.size w W → ThoseK Fence.wide 2 Bc Bf w.heap.size c.W.length p W) :
    Calls Try.prog 45 #[cfgv A k c, .func (.func 70) #[] #[.pointer (some ⟨Bc, 0, none⟩), .pointer (some ⟨Bf, 0, none⟩)]] w fun e w' => e = .returned (.int .i64 (sumC c p)) ∧ Below w.heap.size w w' := by
  have hm := hr.1
  have hmay := fun W (hW : Below w.heap.size w W) => dmay_any c A k W (hr.below hW)
  have hmx : Try.prog.follows .mixedOrders = true := by kernel_rfl
  unfold cfgv at *
  have hW : ∃ W, w.alloc (.cells #[.slice A c.W.length k, .int .u64 c.seed, .int .i64 c.epoch, .int .i64 c.num, .int .i64 c.den] 25) = W := ⟨_, rfl⟩
  obtain ⟨W, hW⟩ := hW
  have hB : Below w.heap.size w W := by subst hW; exact (Below.refl _ w).alloc (Nat.le_refl _) _
  have hb : W.heap[w.heap.size]? = some (.cells #[.slice A c.W.length k, .int .u64 c.seed, .int .i64 c.epoch, .int .i64 c.num, .int .i64 c.den] 25 (0, 0)) := by subst hW; exact ha_at rfl
  have hsz : W.heap.size = w.heap.size + 1 := by subst hW; simp
  have c0 := blk_cell hb 0
  have hV : ∃ V, W.alloc (.cells #[.int .i64 0] 3) = V := ⟨_, rfl⟩
  obtain ⟨V, hV⟩ := hV
  have hBV : Below w.heap.size w V := by subst hV; exact hB.alloc hB.size _
  have hbV : V.heap[w.heap.size]? = some (.cells #[.slice A c.W.length k, .int .u64 c.seed, .int .i64 c.epoch, .int .i64 c.num, .int .i64 c.den] 25 (0, 0)) := by subst hV; exact ha_lt hb
  have hbn : V.heap[w.heap.size + 1]? = some (.cells #[.int .i64 0] 3 (0, 0)) := by subst hV; rw [← hsz]; exact ha_at rfl
  obtain ⟨cn, fn⟩ := blk1 hbn
  have hU : ∃ U, V.setCell ⟨w.heap.size + 1, 0, none⟩ (.int .i64 0) = U := ⟨_, rfl⟩
  obtain ⟨U, hU⟩ := hU
  have hBU : Below w.heap.size w U := by subst hU; exact hBV.setCell (p := ⟨w.heap.size + 1, 0, none⟩) (by simp) _
  have hbU : U.heap[w.heap.size]? = some (.cells #[.slice A c.W.length k, .int .u64 c.seed, .int .i64 c.epoch, .int .i64 c.num, .int .i64 c.den] 25 (0, 0)) := by subst hU; exact grown_own (grown_set _ _ _) hbV (by simp)
  have hbn2 : U.heap[w.heap.size + 1]? = some (.cells #[.int .i64 0] 3 (0, 0)) := by subst hU; exact Boxed.set _ hbn
  have d0 := blk_cell hbU 0
  have d1 := blk_cell hbU 1
  have d2 := blk_cell hbU 2
  have d3 := blk_cell hbU 3
  have d4 := blk_cell hbU 4
  obtain ⟨dn, gn⟩ := blk1 hbn2
  have hmay := hmay U hBU
  by_cases hmc : MayC c
  · have hd : decide (MayC c) = true := by simpa using hmc
    rw [hd] at hmay
    unfold sumC
    rw [if_pos hmc]
    have hWx := Lib.hid hmc.W
    have hlen := hmc.len
    clear hmc hd
    refine (callsIn_wide (n := 3)).1 ?_
    refine callsIn_of_wp_marks Try.func45 rfl trivial ?_ rfl
    simp only [Try.ntmps45, List.size_toArray, List.length_cons, List.length_nil, Nat.reduceAdd, Nat.reduceSub, Array.replicate_succ, Array.replicate_zero, List.push_toArray, List.append_toArray, List.nil_append, List.cons_append]
    gi_wp2_with (refine ⟨trivial, ?_⟩; gi_at_call 34; refine (callsIn_wide.2 hmay).mono ?_; clear hmay; rintro e w1 ⟨rfl, hb1⟩)
    have hB1 := below_call hBU hBU.size hb1
    have hbb := bl_own hb1 hbU
    have hbn1 := bl_own hb1 hbn2
    refine wpIn_rangeFunc_ownG rfl (by decide) (gf := 70) (lb := #[.pointer (some ⟨Bc, 0, none⟩), .pointer (some ⟨Bf, 0, none⟩)]) rfl trivial (enters_of Try.func70 (by kernel_rfl) rfl)
      (hseq w1 hB1) belowK_t (belowK_b hB1.size) (Below.refl _ _) (fun _ => rfl)
      (fun pre W => (W.cell? ⟨w.heap.size + 1, 0, none⟩ = some (.int .i64 (sumF c.W pre)) ∧ W.frozen? ⟨w.heap.size + 1, 0, none⟩ = false ∧ W.cell? ⟨w.heap.size, 0, none⟩ = some (.slice A c.W.length k)) ∧ Below w.heap.size w W)
      (fun _ _ _ => False)
      (OwnFrom.and (Own.from (fun s A B row hs hg hr => ⟨cell_kept hs.1 hg hr, (frozen_kept hs.1 hg hr).trans hs.2.1, cell_kept hs.2.2 hg hr⟩) _) (ownFrom_below (Nat.le_refl _) hB1.size))
      (fun _ _ _ _ _ hs _ _ => hs)
      ⟨⟨(blk1 hbn1).1, (blk1 hbn1).2, blk_cell hbb 0⟩, hB1⟩
      (fun x => { tmps := #[.agg #[.slice A c.W.length k, .int .u64 c.seed, .int .i64 c.epoch, .int .i64 c.num, .int .i64 c.den], .func (.func 70) #[] #[.pointer (some ⟨Bc, 0, none⟩), .pointer (some ⟨Bf, 0, none⟩)], .pointer (some ⟨w.heap.size, 0, none⟩), undef, .int .i64 0, .pointer (some ⟨w.heap.size + 1, 0, none⟩), .int .i64 (x.val : Int), .agg #[.slice A c.W.length k, .int .u64 c.seed, .int .i64 c.epoch, .int .i64 c.num, .int .i64 c.den], .bool true, .bool false, undef, .func (.func 70) #[] #[.pointer (some ⟨Bc, 0, none⟩), .pointer (some ⟨Bf, 0, none⟩)], .int .i64 (x.val : Int), undef, undef, undef, undef, undef, undef, undef, undef], defers := [] }) ?assign ?body ?done ?stop
    case assign =>
      intro l x W K hK
      unfold encF
      gi_wp2
      exact hK
    case body =>
      rintro l pre x W ⟨⟨hcn, hfn, hcc⟩, hBW⟩ hpl
      obtain ⟨b, o, rfl, hbo, d⟩ := (hr.below hBW).atI x.2
      have hbd := sumF_bd hWx.out pre
      have hsn := show sumF c.W (pre ++ [x]) = sumF c.W pre + c.W[x.val] from sumF_snoc c.W pre x
      obtain ⟨hy0, hy1⟩ := hWx.out _ (List.getElem_mem x.2)
      obtain ⟨y, hy⟩ : ∃ y, c.W[x.val] = y := ⟨_, rfl⟩
      rw [hy] at d hsn hy0 hy1
      clear hy
      obtain ⟨s, hs⟩ : ∃ s, sumF c.W pre = s := ⟨_, rfl⟩
      rw [hs] at hcn hbd hsn
      obtain ⟨hb1, hb2⟩ := hbd
      have hx12 := x.2
      have hb3 : s ≤ 13194139533312 := by omega
      have hsn' := Lib.hid hsn
      clear hsn hs
      gi_wp2
      gi_region_with_o fail
      all_goals gi_wp2
      all_goals (try go_bits)
      all_goals
        exact ⟨((KeepsOthers.setCell _ _ _).trans (KeepsOthers.drew _)).from _, ((Below.refl w.heap.size W).setCell (p := ⟨w.heap.size + 1, 0, none⟩) (by simp) _).drew,
          ⟨by rw [hsn'.out, cell_drew_own]; exact World.cell?_setCell_same' _ _ _ (by rw [hcn]; rfl), by rw [frozen_drew_own, World.frozen?_setCell]; exact hfn, by rw [cell_drew_own]; exact (Eq.trans (blk_setCell_other _ _ _ _ (by simp)) hcc)⟩, (hBW.setCell (p := ⟨w.heap.size + 1, 0, none⟩) (by simp) _).drew⟩
    case done =>
      rintro D ys W hD rfl ⟨⟨hcn, _, _⟩, hBW⟩ hK
      rw [sumF_those c.W p _ (Nat.le_refl _)] at hcn
      gi_wp2
      refine ⟨by simp, .inl ⟨_, _, rfl, run_takeDeferred hK, ?_⟩⟩
      exact ⟨_, results_tmp rfl _ _ _, rfl, hBW.trans (belowK_b (w := w1) hB1.size W D _ _ hD hK rfl rfl)⟩
    case stop =>
      rintro D c pre W _ _ h _
      exact h.elim
  · have hd : decide (MayC c) = false := by simpa using hmc
    rw [hd] at hmay
    unfold sumC
    rw [if_neg hmc]
    clear hmc hd
    go_enter Try.func45, Try.ntmps45
    go_wp2_with (go_at_call 34; refine hmay.mono ?_; clear hmay; rintro e w1 ⟨rfl, hb1⟩; have hB1 := below_call hBU hBU.size hb1; obtain ⟨dn1, gn1⟩ := blk1 (bl_own hb1 hbn2))
    go_ret
    exact ⟨rfl, hB1⟩
end Go.Proofs.Ytdocgemfedohdaa
/-! The walks of duty.Weight, duty.Total. -/
namespace Go.Proofs.Ytdocgemfedohdaa
open Go.RowKit Go.Shelf
set_option maxRecDepth 100000 in
set_option maxHeartbeats 1000000 in
theorem weight1_any (i : Int) (Bm M : Nat) (m : List (Int × Bool)) (w : World) (hM : MapIs (Value.int .i64) Value.bool w M m) (hb : w.heap[Bm]? = some (.cells #[.map (some M)] 69 (0, 0))) :
    Calls Try.prog 47 #[.int .i64 i, .pointer (some ⟨Bm, 0, none⟩)] w fun e w' => e = .returned (.bool ((mget m i).getD false)) ∧ w' = w := by
  have c0 := blk_cell hb 0
  go_enter Try.func47, Try.ntmps47
  go_wp2_with (at_lookup; refine wp_lookup (x := i) rfl rfl KeyI Try.underlying69 (Try.zeroValue4 _) rfl rfl hM (r := .bool ((mget m i).getD false)) (by cases mget m i <;> rfl) ?_)
  go_ret
  exact ⟨rfl, rfl⟩
set_option maxRecDepth 100000 in
theorem total1_any (i : Int) (w : World) :
    Calls Try.prog 48 #[.int .i64 i] w fun e w' => e = .returned (.bool true) ∧ w' = w := by
  go_enter Try.func48, Try.ntmps48
  go_wp2_with fail
  go_ret
  exact ⟨rfl, rfl⟩
theorem thoseK_wt (c : Cfg) (A : Option Addr) (k Bc Bf Bm M n₀ : Nat) (m : List (Int × Bool)) (p : Nat → Bool) (W : World) (hA : Rd 1 encI W A c.W) (hc : ConfAt W Bc A k c) (hf : W.heap[Bf]? = some (.cells #[.func (.func 47) #[] #[.pointer (some ⟨Bm, 0, none⟩)]] 74 (0, 0)))
    (hM : MapIs (Value.int .i64) Value.bool W M m) (hb : W.heap[Bm]? = some (.cells #[.map (some M)] 69 (0, 0))) (hp : ∀ i : Nat, (mget m (i : Int)).getD false = p i)
    (hn : n₀ ≤ W.heap.size) (h1 : Bc < n₀) (h2 : Bf < n₀) (h3 : Bm < n₀) (h4 : M < n₀) : ThoseK Fence.wide 2 Bc Bf n₀ c.W.length p W := by
  intro l J Jx W' hW' _ _ hY h0
  refine those1_wt Fence.wide 2 trivial trivial rfl (by decide) l Bc Bf n₀ c A k Bm p J Jx W' (hA.below hW') (hc.own hW') (bl_own hW' hf) (Nat.le_trans hn hW'.size) h1 h2 ?_ hY h0
  intro i W'' _ hb''
  refine callsIn_wide.2 ?_
  rw [← hp i]
  exact weight1_any i Bm M m W'' (MapIs_same (MapIs_below hM hW') (hb''.block M h4)) (bl_blk hb'' (bl_own hW' hb) h3)
theorem thoseK_tt (c : Cfg) (A : Option Addr) (k Bc Bf n₀ : Nat) (W : World) (hA : Rd 1 encI W A c.W) (hc : ConfAt W Bc A k c) (hf : W.heap[Bf]? = some (.cells #[.func (.func 48) #[] #[]] 74 (0, 0)))
    (hn : n₀ ≤ W.heap.size) (h1 : Bc < n₀) (h2 : Bf < n₀) : ThoseK Fence.wide 2 Bc Bf n₀ c.W.length (fun _ => true) W := by
  intro l J Jx W' hW' _ _ hY h0
  refine those1_tt Fence.wide 2 trivial trivial rfl (by decide) l Bc Bf n₀ c A k (fun _ => true) J Jx W' (hA.below hW') (hc.own hW') (bl_own hW' hf) (Nat.le_trans hn hW'.size) h1 h2 ?_ hY h0
  intro i W'' _ hb''
  exact callsIn_wide.2 (total1_any i W'')
set_option maxRecDepth 100000 in
set_option maxHeartbeats 1000000 in
theorem those_any (c : Cfg) (A : Option Addr) (k : Nat) (w : World) (pf : Nat) (cap : Array Value) :
    Calls Try.prog 46 #[cfgv A k c, .func (.func pf) #[] cap] w fun e w' => e = .returned (.func (.func 70) #[] #[.pointer (some ⟨w.heap.size, 0, none⟩), .pointer (some ⟨w.heap.size + 1, 0, none⟩)]) ∧
      ConfAt w' w.heap.size A k c ∧ w'.heap[w.heap.size + 1]? = some (.cells #[.func (.func pf) #[] cap] 74 (0, 0)) ∧ w'.heap.size = w.heap.size + 2 ∧ Below w.heap.size w w' := by
  unfold cfgv
  go_enter Try.func46, Try.ntmps46
  go_wp2_with fail
  go_ret
  refine ⟨rfl, ha_lt (ha_at rfl), ha_at (by simp), by simp, ((Below.refl _ w).alloc (Nat.le_refl _) _).alloc (by simp) _⟩
set_option maxRecDepth 100000 in
set_option maxHeartbeats 2000000 in
theorem dtotal_any (c : Cfg) (A : Option Addr) (k : Nat) (w : World) (hr : Rd 1 encI w A c.W) :
    Calls Try.prog 25 #[cfgv A k c] w fun e w' => e = .returned (.int .i64 (totalC c)) ∧ Below w.heap.size w w' := by
  have hm := hr.1
  have hth := fun W => those_any c A k W 48 #[]
  have hsum := fun W (hW : Below w.heap.size w W) (B : Nat) (hs : W.heap.size = B + 2) (hc : ConfAt W B A k c) (hf : W.heap[B + 1]? = some (.cells #[.func (.func 48) #[] #[]] 74 (0, 0))) =>
    sum_any c A k B (B + 1) (fun _ => true) W (hr.below hW) (fun W' hW' => thoseK_tt c A k B (B + 1) W.heap.size W' ((hr.below hW).below hW') (hc.own hW') (bl_own hW' hf) hW'.size (by omega) (by omega))
  unfold cfgv at *
  have hW : ∃ W, w.alloc (.cells #[.slice A c.W.length k, .int .u64 c.seed, .int .i64 c.epoch, .int .i64 c.num, .int .i64 c.den] 25) = W := ⟨_, rfl⟩
  obtain ⟨W, hW⟩ := hW
  have hB : Below w.heap.size w W := by subst hW; exact (Below.refl _ w).alloc (Nat.le_refl _) _
  have hb : W.heap[w.heap.size]? = some (.cells #[.slice A c.W.length k, .int .u64 c.seed, .int .i64 c.epoch, .int .i64 c.num, .int .i64 c.den] 25 (0, 0)) := by subst hW; exact ha_at rfl
  have c0 := blk_cell hb 0
  have c1 := blk_cell hb 1
  have c2 := blk_cell hb 2
  have c3 := blk_cell hb 3
  have c4 := blk_cell hb 4
  go_enter Try.func25, Try.ntmps25
  go_wp2_with fail
  go_region_held3 (fun W' => W'.cell? ⟨w.heap.size, 0, none⟩ = some (.slice A c.W.length k) ∧ W'.cell? ⟨w.heap.size, 1, none⟩ = some (.int .u64 c.seed) ∧ W'.cell? ⟨w.heap.size, 2, none⟩ = some (.int .i64 c.epoch) ∧ W'.cell? ⟨w.heap.size, 3, none⟩ = some (.int .i64 c.num) ∧ W'.cell? ⟨w.heap.size, 4, none⟩ = some (.int .i64 c.den)) (first | exact ⟨c0, c1, c2, c3, c4⟩ | exact ⟨d0, d1, d2, d3, d4⟩ | exact ⟨e0, e1, e2, e3, e4⟩) ((first
    | (go_at_call 46; refine (hth _).mono ?_; rintro e w1 ⟨rfl, k1, k2, k3, hb1⟩; have hb1' := bl_own hb1 hb; have d0 := blk_cell hb1' 0; have d1 := blk_cell hb1' 1; have d2 := blk_cell hb1' 2; have d3 := blk_cell hb1' 3; have d4 := blk_cell hb1' 4; have hB1 := below_call hB.drew hB.size hb1)
    | (go_at_call 45; refine (hsum _ hB1 _ k3 k1 k2).mono ?_; rintro e w2 ⟨rfl, hb2⟩; have hb2' := bl_own hb2 hb1'; have e0 := blk_cell hb2' 0; have e1 := blk_cell hb2' 1; have e2 := blk_cell hb2' 2; have e3 := blk_cell hb2' 3; have e4 := blk_cell hb2' 4)))
  go_wp2
  go_ret
  exact ⟨rfl, below_call hB1 hB1.size hb2⟩
theorem mget_mput {κ ν : Type} [DecidableEq κ] (m : List (κ × ν)) (x y : κ) (v : ν) : mget (mput m x v) y = if x = y then some v else mget m y := by
  unfold mput
  by_cases h : (mget m x).isSome
  · rw [if_pos h]
    by_cases hxy : x = y
    · subst hxy
      rw [if_pos rfl]
      unfold mget at *
      rw [Option.isSome_map] at h
      obtain ⟨p, hp⟩ := Option.isSome_iff_exists.1 h
      have : (List.map (fun p : κ × ν => if p.1 = x then (p.1, v) else p) m).find? (fun p => decide (p.1 = x)) = some (p.1, v) := by
        rw [List.find?_map]
        have e : ((fun p : κ × ν => decide (p.1 = x)) ∘ fun p : κ × ν => if p.1 = x then (p.1, v) else p) = fun p => decide (p.1 = x) := by
          funext q; simp only [Function.comp]; split <;> rfl
        rw [e, hp]
        have := List.find?_some hp
        simp only [decide_eq_true_eq] at this
        simp [this]
      rw [this]; rfl
    · rw [if_neg hxy]
      unfold mget
      rw [List.find?_map]
      have e : ((fun p : κ × ν => decide (p.1 = y)) ∘ fun p : κ × ν => if p.1 = x then (p.1, v) else p) = fun p => decide (p.1 = y) := by
        funext q; simp only [Function.comp]; split <;> rfl
      rw [e]
      cases hp : m.find? (fun p => decide (p.1 = y)) with
      | none => rfl
      | some p =>
        have := List.find?_some hp
        simp only [decide_eq_true_eq] at this
        have hx : ¬ p.1 = x := fun e => hxy (e.symm.trans this)
        simp [hx]
  · rw [if_neg h]
    have hn : mget m x = none := by simpa using h
    by_cases hxy : x = y
    · subst hxy
      rw [if_pos rfl]
      unfold mget at *
      rw [List.find?_append]
      rw [Option.map_eq_none_iff] at hn
      simp [hn]
    · rw [if_neg hxy]
      unfold mget
      rw [List.find?_append]
      simp [hxy]
set_option maxRecDepth 100000 in
set_option maxHeartbeats 2000000 in
theorem dweight_any (c : Cfg) (who : List Int) (A A2 : Option Addr) (k k2 : Nat) (w : World) (hr : Rd 1 encI w A c.W) (hr2 : Rd 1 encI w A2 who) :
    Calls Try.prog 24 #[cfgv A k c, .slice A2 who.length k2] w fun e w' => e = .returned (.int .i64 (weightC c who)) ∧ Below w.heap.size w w' := by
  have hm := hr.1
  have hm2 := hr2.1
  have hmm := @run_makeMap Try.prog
  unfold cfgv
  go_enter Try.func24, Try.ntmps24
  go_wp2_with fail
  have hW : ∃ W, (((w.alloc (.cells #[.slice A c.W.length k, .int .u64 c.seed, .int .i64 c.epoch, .int .i64 c.num, .int .i64 c.den] 25)).alloc (.map #[] 0)).alloc (.cells #[.map (some (w.heap.size + 1))] 69)) = W := ⟨_, rfl⟩
  obtain ⟨W, hW⟩ := hW
  have hM0 : MapIs (Value.int .i64) Value.bool W (w.heap.size + 1) ([] : List (Int × Bool)) := by subst hW; exact MapIs_alloc (MapIs_new _ _ (ha_at (by simp))) _
  have hc0 : ConfAt W w.heap.size A k c := by subst hW; exact ha_lt (ha_lt (ha_at rfl))
  have hb0 : W.heap[w.heap.size + 1 + 1]? = some (.cells #[.map (some (w.heap.size + 1))] 69 (0, 0)) := by subst hW; exact ha_at (by simp)
  have hB0 : Below w.heap.size w W := by subst hW; exact (((Below.refl _ w).alloc (Nat.le_refl _) _).alloc (by simp) _).alloc (by simp <;> omega) _
  rw [hW]
  clear hW
  go_loopw [7, 11] (fun x i wr => ∃ (j : Nat) (m : List (Int × Bool)), j ≤ who.length ∧ i = .int .i64 j ∧ MapIs (Value.int .i64) Value.bool wr (w.heap.size + 1) m ∧ Hid (∀ x, mget m x = if x ∈ who.take j then some true else none) ∧ ConfAt wr w.heap.size A k c ∧ wr.heap[w.heap.size + 1 + 1]? = some (.cells #[.map (some (w.heap.size + 1))] 69 (0, 0)) ∧ Below w.heap.size w wr)
    (fun _ i _ => who.length - (intOf i).toNat)
  case atStart => exact ⟨0, [], Nat.zero_le _, rfl, hM0, Lib.hid (by simp [mget]), hc0, hb0, hB0⟩
  case round =>
    obtain ⟨j, m, hj, rfl, hM, hmm', hc, hb, hB⟩ := hrel
    obtain ⟨cb, fb⟩ := blk1 hb
    by_cases hlt : j < who.length
    · obtain ⟨b, o, rfl, hbo, d⟩ := (hr2.below hB).atI hlt
      have hst : ∀ y, mget (mput m who[j] true) y = if y ∈ who.take (j + 1) then some true else none := fun y => by
        rw [mget_mput, hmm'.out, ← List.take_append_getElem hlt]
        simp only [List.mem_append, List.mem_singleton]
        by_cases h1 : who[j] = y
        · simp [h1]
        · have : ¬ y = who[j] := fun e => h1 e.symm
          simp [h1, this]
      obtain ⟨x, hx⟩ : ∃ x, who[j] = x := ⟨_, rfl⟩
      rw [hx] at d hst
      have hst' := Lib.hid hst
      clear hst hx
      go_wp2_with (at_mapUpdate; refine wp_update rfl (.inl rfl) KeyI Try.underlying69 rfl (x := x) rfl (v := true) rfl hM ?_; intro w4 hM4 hg4 hz4)
      go_roundw
      case rel => exact ⟨j + 1, mput m x true, hlt, by go_num, hM4, hst', grown_own hg4 hc (by simp), grown_own hg4 hb (by simp), below_step hB hB.size hg4 (by simp)⟩
      case measure => simp [intOf]; omega
    · obtain rfl : j = who.length := by omega
      rw [List.take_length] at hmm'
      go_wp2_with fail
      have hth := fun W => those_any c A k W 47 #[.pointer (some ⟨w.heap.size + 1 + 1, 0, none⟩)]
      have hp : ∀ i : Nat, (mget m (i : Int)).getD false = decide ((i : Int) ∈ who) := fun i => by
        rw [hmm'.out]; by_cases h : (i : Int) ∈ who <;> simp [h]
      have hBk := lt_of_block hb
      have hMlt := MapIs_lt hM
      have hsum := fun W (hW : Below wr.heap.size wr W) (B : Nat) (hs : W.heap.size = B + 2) (hc : ConfAt W B A k c) (hf : W.heap[B + 1]? = some (.cells #[.func (.func 47) #[] #[.pointer (some ⟨w.heap.size + 1 + 1, 0, none⟩)]] 74 (0, 0))) =>
        sum_any c A k B (B + 1) (fun i => decide ((i : Int) ∈ who)) W ((hr.below hB).below hW) (fun W' hW' => thoseK_wt c A k B (B + 1) (w.heap.size + 1 + 1) (w.heap.size + 1) W.heap.size m _ W' (((hr.below hB).below hW).below hW') (hc.own hW') (bl_own hW' hf) (MapIs_below (MapIs_below hM hW) hW') (bl_own hW' (bl_own hW hb)) hp hW'.size (by omega) (by omega) (by have := hW.size; omega) (by have := hW.size; omega))
      unfold cfgv at hth hsum
      have hpp := hmm'
      clear hmm' hp hpp
      have c0 := blk_cell hc 0
      have c1 := blk_cell hc 1
      have c2 := blk_cell hc 2
      have c3 := blk_cell hc 3
      have c4 := blk_cell hc 4
      go_region_held3 (fun W' => W'.cell? ⟨w.heap.size, 0, none⟩ = some (.slice A c.W.length k) ∧ W'.cell? ⟨w.heap.size, 1, none⟩ = some (.int .u64 c.seed) ∧ W'.cell? ⟨w.heap.size, 2, none⟩ = some (.int .i64 c.epoch) ∧ W'.cell? ⟨w.heap.size, 3, none⟩ = some (.int .i64 c.num) ∧ W'.cell? ⟨w.heap.size, 4, none⟩ = some (.int .i64 c.den)) (first | exact ⟨c0, c1, c2, c3, c4⟩ | exact ⟨d0, d1, d2, d3, d4⟩ | exact ⟨e0, e1, e2, e3, e4⟩) ((first
        | (go_at_call 46; refine (hth _).mono ?_; rintro e w1 ⟨rfl, k1, k2, k3, hb1⟩; have hb1' := bl_own hb1 hc; have d0 := blk_cell hb1' 0; have d1 := blk_cell hb1' 1; have d2 := blk_cell hb1' 2; have d3 := blk_cell hb1' 3; have d4 := blk_cell hb1' 4; have hBw := below_call ((Below.refl wr.heap.size wr).drew) (Nat.le_refl _) hb1)
        | (go_at_call 45; refine (hsum _ hBw _ k3 k1 k2).mono ?_; rintro e w2 ⟨rfl, hb2⟩; have hb2' := bl_own hb2 hb1'; have e0 := blk_cell hb2' 0; have e1 := blk_cell hb2' 1; have e2 := blk_cell hb2' 2; have e3 := blk_cell hb2' 3; have e4 := blk_cell hb2' 4)))
      go_wp2
      go_ret
      exact ⟨rfl, below_call (below_call hB hB.size hBw) (Nat.le_trans hB.size hBw.size) hb2⟩
end Go.Proofs.Ytdocgemfedohdaa
/-! The walk of weigh.On's closures. -/
namespace Go.Proofs.Ytdocgemfedohdaa
open Go.RowKit
theorem grown_below {w w' : World} (h : Below w.heap.size w w') (row : Option Nat) : w.grownBy w' row := ⟨h.os, h.tape, h.output, h.size, fun k hk _ => h.block k hk⟩
/-- What a cache holds is true. -/
def CacheOk (l : List Blk) (id : ID) (m : List (ID × Bool)) : Prop := ∀ x r, mget m x = some r → r = decide (id ∈ chain l x)
end Go.Proofs.Ytdocgemfedohdaa
/-! The walks of weigh.told, weigh.On, weigh.All. -/
namespace Go.Proofs.Ytdocgemfedohdaa
open Go.RowKit
/-- Who has a vote for id, or for what stands on it. -/
def whoOn (l : List Blk) (vs : List Vote) (id : ID) : List Int := (vs.filter fun v => decide (id ∈ chain l v.head)).map Vote.frm
theorem whoOn_snoc {l : List Blk} {vs : List Vote} {id : ID} {k : Nat} (hlt : k < vs.length) : whoOn l (vs.take (k + 1)) id = whoOn l (vs.take k) id ++ (if id ∈ chain l vs[k].head then [vs[k].frm] else []) := by
  unfold whoOn
  rw [← List.take_append_getElem hlt, List.filter_append, List.map_append]
  by_cases h : id ∈ chain l vs[k].head <;> simp [h]
theorem whoOn_len (l : List Blk) (vs : List Vote) (id : ID) : (whoOn l vs id).length ≤ vs.length := by
  unfold whoOn
  rw [List.length_map]
  exact List.length_filter_le _ _
theorem grown_row {w w1 w2 : World} {M : Nat} {r : Option Nat} (h : w.grownBy w1 (some M)) (hg : w1.grownBy w2 r) (hr : ∀ k, r = some k → w.heap.size ≤ k) : w.grownBy w2 (some M) :=
  ⟨hg.os.trans h.os, hg.tape.trans h.tape, hg.output.trans h.output, Nat.le_trans h.size hg.size, fun k hk hne => (hg.block k (Nat.lt_of_lt_of_le hk h.size) (fun e => by have := hr k e.symm; omega)).trans (h.block k hk hne)⟩
def onC (c : Cfg) (l : List Blk) (vs : List Vote) (id : ID) : Int := weightC c (whoOn l vs id)
end Go.Proofs.Ytdocgemfedohdaa
