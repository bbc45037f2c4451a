/- A block more is put behind, walked. -/
import Derived.Test.YtibmfpcbjopojaaArrE
namespace Go.Proofs.Ytibmfpcbjopojaa
open Go.RowKit
def newItem (id : ID) (par : Int) (n : Nat) : Item := ⟨id, par, 0, 0, -1, n⟩
theorem Pre_put {a : List Item} {id : ID} {par : Int} (hp : ParOk a) (hs : Settled a) (h1 : -1 ≤ par) (h2 : par < a.length) : Pre (a ++ [newItem id par a.length]) a.length := by
  have old : ∀ k, k < a.length → itm (a ++ [newItem id par a.length]) k = itm a k := fun k hk => itm_app a _ k hk
  have new : itm (a ++ [newItem id par a.length]) a.length = newItem id par a.length := itm_new a _
  have hl : (a ++ [newItem id par a.length]).length = a.length + 1 := by simp
  have hpar : ParOk (a ++ [newItem id par a.length]) := fun i hi => by
    by_cases e : i < a.length
    · rw [old i e]; exact hp i e
    · obtain rfl : i = a.length := by omega
      rw [new]; exact ⟨h1, h2⟩
  generalize a ++ [newItem id par a.length] = b at old new hl hpar
  have hws : ∀ p : Int, wsum b p b.length = wsum a p a.length := fun p => by
    rw [hl]
    unfold wsum
    rw [sumR, new, show (if (newItem id par a.length).par = p then (newItem id par a.length).w else 0) = 0 by split <;> rfl, Int.add_zero]
    exact sumR_congr (fun k hk => by rw [old k hk])
  refine ⟨hpar, by omega, fun i hi => ?_, fun i hi hu => ?_⟩
  · unfold WEq
    rw [hws]
    by_cases e : i < a.length
    · rw [old i e]; exact (hs i e).1
    · obtain rfl : i = a.length := by omega
      rw [new]
      rw [show wsum a (a.length : Int) a.length = 0 from sumR_zero (fun k hk => if_neg (by have := (hp k hk).2; omega))]
      rfl
  · have hne : i < a.length := by
      rcases Nat.lt_or_ge i a.length with h | h
      · exact h
      · have e : i = a.length := by omega
        subst e
        exact absurd (Up_self b _) hu
    have hpi : par ≠ i := fun e => hu (Up_iff.2 (.inr (by rw [new]; show Up b par i; rw [e]; exact Up_self b i)))
    obtain ⟨b1, b2⟩ := (hs i hne).2
    have hb : best b i = best a i := by
      unfold best
      rw [hl, bestTo, new, if_neg (fun h => hpi h.1)]
      exact bestTo_congr (fun k hk => by rw [old k hk]) (fun k hk _ => by rw [old k hk]; exact ⟨rfl, rfl⟩)
    refine ⟨by rw [hb, old i hne, b1], ?_⟩
    rw [old i hne, b2]
    unfold headOf
    rw [hb]
    rcases bestTo_spec a i a.length with h | ⟨j, j1, j2, j3⟩
    · have h' : best a i = -1 := h
      rw [if_pos h', if_pos h']
    · have h' : best a i = j := j3
      rw [h', if_neg (by omega), if_neg (by omega)]
      simp only [Int.toNat_natCast]
      rw [old j j1]
theorem Own.lies {α : Type} {w : World} {base : Nat} {e : TypeId} {k : Nat} {enc : α → List Value} {v : Value} {xs : List α} (h : Own w base e k enc v xs) (hne : 0 < xs.length) : ∃ g cap, v = .slice (some ⟨g, 0, none⟩) xs.length cap := by
  obtain ⟨h1, h2⟩ := h
  rcases h2 with ⟨_, h0⟩ | ⟨g, cap, cur, he, _⟩
  · omega
  · exact ⟨g, cap, he⟩
theorem grown_comb {w w1 w2 : World} {r1 r2 : Option Nat} (h1 : w.grownBy w1 r1) (hr : r2 = r1 ∨ ∃ j, r2 = some j ∧ w.heap.size ≤ j) (h2 : w1.grownBy w2 r2) : w.grownBy w2 r1 :=
  ⟨h2.os.trans h1.os, h2.tape.trans h1.tape, h2.output.trans h1.output, Nat.le_trans h1.size h2.size, fun k hk hne => (h2.block k (Nat.lt_of_lt_of_le hk h1.size) (by
    rcases hr with e | ⟨j, e, hj⟩
    · rw [e]; exact hne
    · rw [e]; intro e2; injection e2 with e2; omega)).trans (h1.block k hk hne)⟩
set_option maxRecDepth 100000 in
set_option maxHeartbeats 1000000 in
theorem put_any (a : List Item) (id : ID) (par : Int) (hl : a.length ≤ 100) (hp : ParOk a) (hs : Settled a) (h1 : -1 ≤ par) (h2 : par < a.length) (hb : ∀ k, k < a.length → (-1152921504606846976 ≤ (itm a k).w ∧ (itm a k).w ≤ 1152921504606846976))
    (base : Nat) (v : Value) (w : World) (ho : Own w base 103 7 encItem v a) (hbase : base ≤ w.heap.size) :
    Calls Try.prog 59 #[v, idv id, .int .i64 par] w fun e w' => (∃ b g cap, e = .returned (.slice (some ⟨g, 0, none⟩) (a.length + 1) cap) ∧ J (a ++ [newItem id par a.length]) a.length 0 (-1) b ∧ Own w' base 103 7 encItem (.slice (some ⟨g, 0, none⟩) (a.length + 1) cap) b) ∧ w.grownBy w' v.ownBlock := by
  have hpre := Pre_put (id := id) hp hs h1 h2
  have hun := Try.underlying100
  obtain ⟨A, c, hv, hR⟩ := ho.rd encItem_len
  have hr0 : ∀ k, v.ownBlock = some k → base ≤ k := fun k hk => (ho.base k hk).1
  subst hv
  unfold idv
  have hW : ∃ W, w.alloc (.cells #[.int .u64 id.hi, .int .u64 id.lo] 29) = W := ⟨_, rfl⟩
  obtain ⟨W, hW⟩ := hW
  have hB : Below w.heap.size w W := by subst hW; exact (Below.refl _ w).alloc (Nat.le_refl _) _
  have b0 : W.heap[w.heap.size]? = some (.cells #[.int .u64 id.hi, .int .u64 id.lo] 29 (0, 0)) := by subst hW; exact ha_at rfl
  obtain ⟨c0, c1, _, _⟩ := blk2 b0
  have hW5 : Below W.heap.size W (W.alloc (.cells #[.int .u64 id.hi, .int .u64 id.lo, .int .i64 par, .int .i64 0, .int .i64 0, .int .i64 (-1), .int .i64 a.length] 103)) := (Below.refl _ W).alloc (Nat.le_refl _) _
  have hB5 := below_call hB hB.size hW5
  have ho5 := ho.below hB5
  have hlen : (a ++ [newItem id par a.length]).length = a.length + 1 := by simp
  have hxe : (#[.int .u64 id.hi, .int .u64 id.lo, .int .i64 par, .int .i64 0, .int .i64 0, .int .i64 (-1), .int .i64 a.length] : Array Value) = (encItem (newItem id par a.length)).toArray := rfl
  have hxe' := Lib.hid hxe
  clear hxe
  have hadd := fun V g cap (hoV : Own V base 103 7 encItem (.slice (some ⟨g, 0, none⟩) (a ++ [newItem id par a.length]).length cap) (a ++ [newItem id par a.length])) => add_any (a ++ [newItem id par a.length]) a.length 0 hpre (fun k hk => by
    by_cases e : k < a.length
    · rw [itm_app a _ k e]; exact hb k e
    · obtain rfl : k = a.length := by omega
      rw [itm_new]; unfold newItem; simp) (by rw [itm_new]; unfold newItem; simp) (by omega) g cap base V hoV
  rw [hlen] at hadd
  have hll : a.length + 1 ≤ maxLen := by unfold maxLen; omega
  have hsz5 : base ≤ (W.alloc (.cells #[.int .u64 id.hi, .int .u64 id.lo, .int .i64 par, .int .i64 0, .int .i64 0, .int .i64 (-1), .int .i64 a.length] 103)).heap.size := Nat.le_trans hbase (hB5.size)
  have hgx := fun W' (hg : (W.alloc (.cells #[.int .u64 id.hi, .int .u64 id.lo, .int .i64 par, .int .i64 0, .int .i64 0, .int .i64 (-1), .int .i64 a.length] 103)).grownBy W' (Value.slice A a.length c).ownBlock) => grown_trans (grownB hB5 (Value.slice A a.length c).ownBlock) hg
  go_enter Try.func59, Try.ntmps59
  go_wp2_with (first
    | (at_builtin; refine wp_append1 rfl rfl hun infoIt rfl (by decide) encItem_len encItem_one rfl ho5 (g := W.heap.size) (c := 1) rfl (y := newItem id par a.length) (ha_at rfl) hxe'.out (by omega) hll hsz5 ?_; intro v6 w6 ho6 hg6 hat6; obtain ⟨g, cap, hv6⟩ := ho6.lies (by omega); rw [hlen] at hv6; subst hv6; have ha6 := hadd w6 g cap ho6; have hg6' := hgx w6 hg6)
    | (go_at_call 61; refine ha6.mono ?_; clear ha6; rintro e w7 ⟨rfl, ⟨b, hj, ho7⟩, hg7⟩))
  go_ret
  exact ⟨⟨b, g, cap, rfl, hj, ho7⟩, grown_comb hg6' (hat6.imp (fun h => h) (fun h => ⟨_, h, hB5.size⟩)) hg7⟩
end Go.Proofs.Ytibmfpcbjopojaa
