/- The walks of duty.those's iterator, and of duty.sum over it. -/
import Derived.RangeFuncNested
import Derived.RangeFuncBound
import Derived.RangeFuncCalls
import Derived.RangeFuncLeaves
import Derived.Shelf.Abstract
import Derived.Shelf.RegionOpen
import Derived.WalkKit
import Derived.OwnWalkIn
import Derived.TacticsInMore
import Derived.LoopNIn
import Derived.LoopIn
import Derived.Test.YtkccakaaklemdaaDuty2
namespace Go.Proofs.Ytkccakaaklemdaa
open Go.RowKit Go.Shelf
attribute [local go_sem] Oper.semAt_some
/-- Those below k, of m, of which p is so. -/
def those (m : Nat) (p : Nat → Bool) : Nat → List (Fin m)
  | 0 => []
  | k + 1 => if h : k < m then (if p k then those m p k ++ [⟨k, h⟩] else those m p k) else those m p k
theorem those_len (m : Nat) (p : Nat → Bool) (k : Nat) : (those m p k).length ≤ k := by
  induction k with
  | zero => simp [those]
  | succ k ih => simp only [those]; split <;> (try split) <;> (try simp only [List.length_append, List.length_singleton]) <;> omega
theorem those_yes {m k : Nat} {p : Nat → Bool} (h : k < m) (hp : p k = true) : those m p (k + 1) = those m p k ++ [⟨k, h⟩] := by simp [those, h, hp]
theorem those_no {m k : Nat} {p : Nat → Bool} (hp : p k = false) : those m p (k + 1) = those m p k := by simp [those, hp]
/-- What some weigh. -/
def sumF (W : List Int) (l : List (Fin W.length)) : Int := l.foldl (fun s i => s + W[i]) 0
theorem sumF_snoc (W : List Int) (l : List (Fin W.length)) (i : Fin W.length) : sumF W (l ++ [i]) = sumF W l + W[i] := by simp [sumF]
theorem sumF_those (W : List Int) (p : Nat → Bool) (k : Nat) (hk : k ≤ W.length) : sumF W (those W.length p k) = wsumTo W p k := by
  induction k with
  | zero => rfl
  | succ k ih =>
    have h : k < W.length := hk
    have ih := ih (by omega)
    cases hp : p k with
    | true => rw [those_yes h hp, sumF_snoc, ih]; simp [wsumTo, hp, h]
    | false => rw [those_no hp, ih]; simp [wsumTo, hp]
theorem sumF_bd {W : List Int} (h : ∀ x ∈ W, 0 ≤ x ∧ x ≤ 1099511627776) (l : List (Fin W.length)) : 0 ≤ sumF W l ∧ sumF W l ≤ l.length * 1099511627776 := by
  suffices H : ∀ (l : List (Fin W.length)) (s : Int), s ≤ l.foldl (fun s i => s + W[i]) s ∧ l.foldl (fun s i => s + W[i]) s ≤ s + l.length * 1099511627776 by
    have := H l 0; simpa [sumF] using this
  intro l
  induction l with
  | nil => intro s; simp
  | cons i l ih =>
    intro s
    have := ih (s + W[i])
    have hx := h W[i] (List.getElem_mem _)
    simp only [List.foldl_cons, List.length_cons]
    omega
/-- A conf lies in a block. -/
def ConfAt (w : World) (B : Nat) (A : Option Addr) (k : Nat) (c : Cfg) : Prop := w.heap[B]? = some (.cells #[.slice A c.W.length k, .int .u64 c.seed, .int .i64 c.epoch, .int .i64 c.num, .int .i64 c.den] 25 (0, 0))
theorem ConfAt.own {w w' : World} {B : Nat} {A : Option Addr} {k : Nat} {c : Cfg} (h : ConfAt w B A k c) (hb : Below w.heap.size w w') : ConfAt w' B A k c := bl_own hb h
set_option maxRecDepth 100000 in
set_option maxHeartbeats 2000000 in
/-- duty.those's closure, where what is asked of each is whether a map has it. -/
theorem those1_wt (F : Fence) (n : Nat) (h47 : F.fn 53) (hpf : F.fn 40) (hro : F.round = none) (hn : 1 ≤ n) (l Bc Bf n₀ : Nat) (c : Cfg) (A : Option Addr) (kc : Nat) (Bm : Nat) (p : Nat → Bool) (J Jx : List (Fin c.W.length) → World → Prop)
    (W : World) (hA : Rd 1 encI W A c.W) (hc : ConfAt W Bc A kc c) (hf : W.heap[Bf]? = some (.cells #[.func (.func 40) #[] #[.pointer (some ⟨Bm, 0, none⟩)]] 75 (0, 0))) (_ : n₀ ≤ W.heap.size) (_ : Bc < n₀) (hfn : Bf < n₀)
    (hP : ∀ (i : Nat) W', i < c.W.length → Below n₀ W W' → CallsIn F (n - 1) Try.prog 40 #[.int .i64 (i : Int), .pointer (some ⟨Bm, 0, none⟩)] W' fun e w' => e = .returned (.bool (p i)) ∧ w' = W')
    (hY : ∀ pre (x : Fin c.W.length) W, J pre W → pre.length < c.W.length → YieldAt F (n - 1) Try.prog l #[.int .i64 (x.val : Int)] W fun e W' =>
      (e = .returned (.bool true) ∧ J (pre ++ [x]) W' ∧ Below n₀ W W') ∨ (e = .returned (.bool false) ∧ Jx (pre ++ [x]) W')) (h0 : J [] W) :
    CallsIn F n Try.prog 53 #[.func (.yield l) #[] #[], .pointer (some ⟨Bc, 0, none⟩), .pointer (some ⟨Bf, 0, none⟩)] W fun e W' => (∃ v, e = .returned v) ∧
      ((∃ ys, ys = those c.W.length p c.W.length ∧ J ys W') ∨ (∃ pre, (∃ k, k < c.W.length ∧ p k = true ∧ pre = those c.W.length p (k + 1)) ∧ Jx pre W')) := by
  have hm := hA.1
  have c0 := blk_cell hc 0
  have hf0 := blk_cell hf 0
  refine callsIn_of_wp Try.func53 rfl h47 ?_ hro
  simp only [Try.ntmps53, List.size_toArray, List.length_cons, List.length_nil, Nat.reduceAdd, Nat.reduceSub, Array.replicate_succ, Array.replicate_zero, List.push_toArray, List.append_toArray, List.nil_append, List.cons_append]
  gi_wp2
  gi_loopw [8, 4] (fun i _x wr => ∃ k : Nat, k ≤ c.W.length ∧ i = .int .i64 k ∧ J (those c.W.length p k) wr ∧ Below n₀ W wr)
    (fun i _ _ => c.W.length - (intOf i).toNat)
  case atStart => exact ⟨0, Nat.zero_le _, rfl, h0, Below.refl _ _⟩
  case round =>
    obtain ⟨k, hk, rfl, hJs, hnx⟩ := hrel
    have hfx : wr.heap[Bf]? = some (.cells #[.func (.func 40) #[] #[.pointer (some ⟨Bm, 0, none⟩)]] 75 (0, 0)) := bl_blk hnx hf hfn
    have e0 := blk_cell hfx 0
    by_cases hlt : k < c.W.length
    · have hPk := hP k wr hlt hnx
      have hlen := those_len c.W.length p k
      cases hpk : p k with
      | true =>
        rw [hpk] at hPk
        obtain ⟨fn, tmps, assign, body, hy, hR⟩ := hY _ ⟨k, hlt⟩ wr hJs (Nat.lt_of_le_of_lt hlen hlt)
        dsimp only at hy
        have hth := Lib.hid (those_yes hlt hpk)
        have hpk' := Lib.hid hpk
        clear hpk hlen
        gi_wp2_with (gi_at_call 40; refine hPk.mono ?_; clear hPk; rintro e w' ⟨rfl, rfl⟩)
        refine hR.mono ?_
        rintro e W3 (⟨rfl, hJ3, hk3⟩ | ⟨rfl, hJx3⟩)
        · gi_wp2
          go_roundw
          case rel => exact ⟨k + 1, hlt, by go_num, by rw [hth.out]; exact hJ3, hnx.trans hk3⟩
          case measure => simp [intOf]; omega
        · gi_wp2
          refine bodyPost_ret (results_none rfl _ _ _) rfl ?_
          exact ⟨⟨_, rfl⟩, .inr ⟨_, ⟨k, hlt, hpk'.out, hth.out.symm⟩, hJx3⟩⟩
      | false =>
        rw [hpk] at hPk
        have hth := Lib.hid (those_no (m := c.W.length) hpk)
        clear hpk hlen
        gi_wp2_with (gi_at_call 40; refine hPk.mono ?_; clear hPk; rintro e w' ⟨rfl, rfl⟩)
        refine ⟨fun _ h => (by cases h), ?_⟩
        gi_wp2
        go_roundw
        case rel => exact ⟨k + 1, hlt, by go_num, by rw [hth.out]; exact hJs, hnx⟩
        case measure => simp [intOf]; omega
    · obtain rfl : k = c.W.length := by omega
      gi_wp2
      go_end0
      exact ⟨⟨_, rfl⟩, .inl ⟨_, rfl, hJs⟩⟩
end Go.Proofs.Ytkccakaaklemdaa
