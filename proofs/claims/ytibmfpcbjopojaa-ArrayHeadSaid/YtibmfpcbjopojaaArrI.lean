/- Which arrays are plain, walked. -/
import Derived.Test.YtibmfpcbjopojaaArrH
namespace Go.Proofs.Ytibmfpcbjopojaa
open Go.RowKit
def PlainAt (a : List Item) (k : Nat) : Prop := (itm a k).id ≠ zid ∧ findI a (itm a k).id = k ∧ -1 ≤ (itm a k).par ∧ (itm a k).par < k ∧ 0 ≤ (itm a k).own ∧ (itm a k).own ≤ 1125899906842624
def Plain (a : List Item) : Prop := ∀ k, k < a.length → PlainAt a k
instance (a : List Item) (k : Nat) : Decidable (PlainAt a k) := by unfold PlainAt; exact inferInstance
instance (a : List Item) : Decidable (Plain a) := by unfold Plain; exact inferInstance
instance (a : List Item) (k : Nat) : Decidable (WEq a k) := by unfold WEq; exact inferInstance
instance (a : List Item) (k : Nat) : Decidable (BEq a k) := by unfold BEq; exact inferInstance
instance (a : List Item) : Decidable (Settled a) := by unfold Settled; exact inferInstance
theorem Plain.parOk {a : List Item} (h : Plain a) : ParOk a := fun i hi => ⟨(h i hi).2.2.1, (h i hi).2.2.2.1⟩
set_option maxRecDepth 100000 in
set_option maxHeartbeats 1000000 in
theorem plain_any (a : List Item) (A : Option Addr) (c : Nat) (w : World) (hr : Rd 7 encItem w A a) :
    Calls Try.prog 84 #[.slice A a.length c] w fun e w' => e = .returned (.bool (decide (Plain a ∧ a.length ≤ 60))) ∧ Below w.heap.size w w' := by
  have hm := hr.1
  have hB0 := Below.refl w.heap.size w
  have hfind := fun id V (hV : Below w.heap.size w V) => find_any a id A c V (hr.below hV)
  unfold idv at hfind
  obtain ⟨res, hres⟩ : ∃ res, decide (Plain a ∧ a.length ≤ 60) = res := ⟨_, rfl⟩
  rw [hres]
  have hres' := Lib.hid hres
  clear hres
  go_enter Try.func84, Try.ntmps84
  go_wp2_with fail
  go_loopw [3, 4, 7] (fun x3 x4 i wr => ∃ k : Nat, k ≤ a.length ∧ i = .int .i64 k ∧ (∀ j, j < k → PlainAt a j) ∧ Below w.heap.size w wr) (fun _ _ i _ => a.length - (intOf i).toNat)
  case atStart => exact ⟨0, Nat.zero_le _, rfl, fun j hj => by omega, hB0⟩
  case round =>
    obtain ⟨k, hk, rfl, hno, hB⟩ := hrel
    by_cases hlt : k < a.length
    · obtain ⟨b, o, rfl, _, c0, c1, c2, c3, c4, c5, c6⟩ := (hr.below hB).atItem hlt
      have hpl : PlainAt a k ↔ (itm a k).id ≠ zid ∧ findI a (itm a k).id = k ∧ -1 ≤ (itm a k).par ∧ (itm a k).par < k ∧ 0 ≤ (itm a k).own ∧ (itm a k).own ≤ 1125899906842624 := Iff.rfl
      have hfk := hfind (itm a k).id
      have heq := eql_idz (itm a k).id
      have hpn : ¬ PlainAt a k → res = false := fun h => by rw [← hres'.out]; exact decide_eq_false (fun h2 => h (h2.1 k hlt))
      have hpy : PlainAt a k → ∀ j, j < k + 1 → PlainAt a j := fun h j hj => if e2 : j = k then by subst e2; exact h else hno j (by omega)
      obtain ⟨f, hf⟩ : ∃ f, findI a (itm a k).id = f := ⟨_, rfl⟩
      rw [hf] at hpl hfk
      clear hf hno hfind
      generalize PlainAt a k = PL at hpl hpn hpy
      generalize itm a k = x at c0 c1 c2 c3 c4 c5 c6 hpl hfk heq
      obtain ⟨q, hq⟩ : ∃ q, decide (x.id = zid) = q := ⟨_, rfl⟩
      have hqx : x.id = zid ↔ q = true := by rw [← hq]; simp
      rw [hq] at heq
      rw [show (x.id ≠ zid ∧ f = k ∧ -1 ≤ x.par ∧ x.par < k ∧ 0 ≤ x.own ∧ x.own ≤ 1125899906842624) ↔ (q = false ∧ f = k ∧ -1 ≤ x.par ∧ x.par < k ∧ 0 ≤ x.own ∧ x.own ≤ 1125899906842624) by rw [Ne, hqx]; simp] at hpl
      have hpl' := Lib.hid hpl
      have hpn' := Lib.hid hpn
      have hpy' := Lib.hid hpy
      clear hq hqx hpl hpn hpy
      have hBX : Below wr.heap.size wr (wr.alloc (.cells #[.int .u64 x.id.hi, .int .u64 x.id.lo, .int .i64 x.par, .int .i64 x.own, .int .i64 x.w, .int .i64 x.best, .int .i64 x.head] 103)) := (Below.refl _ wr).alloc (Nat.le_refl _) _
      have hB1 := below_call hB hB.size hBX
      cases q with
      | true =>
        go_wp2_with fail
        go_ret
        exact ⟨ret_bool (hpn'.out (fun h => by have := hpl'.out.1 h; simp at this)).symm, hB1⟩
      | false =>
        go_wp2_with (go_at_call 60; refine (hfk _ hB1).mono ?_; clear hfk; rintro e w1 ⟨rfl, hb1⟩; have hB2 := below_call hB1 hB1.size hb1; obtain ⟨d0, d1, d2, d3, d4, d5, d6⟩ := blk7 (bl_own hb1 (ha_at (w := wr) (o := .cells #[.int .u64 x.id.hi, .int .u64 x.id.lo, .int .i64 x.par, .int .i64 x.own, .int .i64 x.w, .int .i64 x.best, .int .i64 x.head] 103) rfl)))
        all_goals
          first
            | (go_ret
               exact ⟨ret_bool (hpn'.out (fun h => by obtain ⟨_, h1, h2, h3, h4, h5⟩ := hpl'.out.1 h; omega)).symm, hB2⟩)
            | (go_roundw
               case rel => exact ⟨k + 1, hlt, by go_num, hpy'.out (hpl'.out.2 ⟨trivial, by omega, by omega, by omega, by omega, by omega⟩), hB2⟩
               case measure => simp [intOf]; omega)
    · obtain rfl : k = a.length := by omega
      have hd : res = decide (a.length ≤ 60) := by rw [← hres'.out, Bool.eq_iff_iff]; simp only [decide_eq_true_eq]; exact ⟨fun h => h.2, fun h => ⟨hno, h⟩⟩
      have hd' := Lib.hid hd
      clear hd hno hfind
      go_wp2_with fail
      go_ret
      exact ⟨ret_bool (by rw [hd'.out]; rw [Bool.eq_iff_iff]; simp only [decide_eq_true_eq]; omega), hB⟩
end Go.Proofs.Ytibmfpcbjopojaa
