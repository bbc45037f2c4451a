/- Weight is put on a place, walked. -/
import Derived.Test.YtibmfpcbjopojaaArrD
namespace Go.Proofs.Ytibmfpcbjopojaa
open Go.RowKit
theorem J_parok {a0 a : List Item} {at' : Nat} {by' cur : Int} (hp : ParOk a0) (h : J a0 at' by' cur a) : ParOk a := fun i hi => by
  rw [(h.sk i hi).2.1]
  exact hp i (by rw [← h.len]; exact hi)
theorem bump_parok {a : List Item} {c : Nat} {y : Int} (hp : ParOk a) (hc : c < a.length) : ParOk (bump a c y) := fun i hi => by
  rw [bump_len] at hi
  unfold bump
  rw [itm_set _ _ _ _ hc]
  by_cases e : i = c
  · subst e; rw [if_pos rfl]; exact hp i hi
  · rw [if_neg e]; exact hp i hi
set_option maxRecDepth 100000 in
set_option maxHeartbeats 1000000 in
theorem add_any (a : List Item) (i : Nat) (y : Int) (h : Pre a i) (hb : ∀ k, k < a.length → (-1152921504606846976 ≤ (itm a k).w ∧ (itm a k).w ≤ 1152921504606846976)) (ho0 : -1152921504606846976 ≤ (itm a i).own ∧ (itm a i).own ≤ 1152921504606846976) (hy : -1152921504606846976 ≤ y ∧ y ≤ 1152921504606846976)
    (g cap base : Nat) (w : World) (ho : Own w base 103 7 encItem (.slice (some ⟨g, 0, none⟩) a.length cap) a) :
    Calls Try.prog 61 #[.slice (some ⟨g, 0, none⟩) a.length cap, .int .i64 i, .int .i64 y] w fun e w' => e = .returned (.tuple #[]) ∧ (∃ b, J a i y (-1) b ∧ Own w' base 103 7 encItem (.slice (some ⟨g, 0, none⟩) a.length cap) b) ∧ w.grownBy w' (some g) := by
  have hi := h.lt
  have hp := h.par
  have hj := J_start (by' := y) h
  have hm := (ho.rdg encItem_len).1
  obtain ⟨_, _, _, c3, _, _, _⟩ := ho.atItem hi
  have f3 := ho.free (i * 7 + 3)
  have hw1 : IntKind.i64.wrap ((itm a i).own + y) = (itm a i).own + y := Go.IntWalk.i64_in _ (by omega)
  have ho1 := ho.setF hi 3 (by omega) (.int .i64 ((itm a i).own + y)) { itm a i with own := (itm a i).own + y } rfl
  generalize a.set i { itm a i with own := (itm a i).own + y } = b1 at hj ho1
  clear h
  go_enter Try.func61, Try.ntmps61
  go_wp2_with fail
  go_loopw [1] (fun v wr => ∃ (b : List Item) (cur : Int), v = .int .i64 cur ∧ J a i y cur b ∧ Own wr base 103 7 encItem (.slice (some ⟨g, 0, none⟩) a.length cap) b ∧ w.grownBy wr (some g)) (fun v _ => (intOf v + 1).toNat)
  case atStart => exact ⟨b1, i, rfl, hj, ho1, grown_set _ _ _⟩
  case round =>
    clear ho1 hj
    obtain ⟨b, cur, rfl, hj, ho2, hg2⟩ := hrel
    rcases hj.on with rfl | ⟨c, rfl, hc, hu⟩
    · go_wp2_with fail
      go_end0
      exact ⟨rfl, ⟨b, hj, ho2⟩, hg2⟩
    · have hlen := hj.len
      have hj2 := J_step hp hc hj
      have hpc := hp c (by omega)
      have hwc := hj.tr2 c hc (.inr (Up_self a c))
      have hbc := hb c (by omega)
      rw [← hwc] at hbc
      obtain ⟨_, _, _, _, c4, _, _⟩ := ho2.atItem hc
      have f4 := ho2.free (c * 7 + 4)
      have hw2 : IntKind.i64.wrap ((itm b c).w + y) = (itm b c).w + y := Go.IntWalk.i64_in _ (by omega)
      have ho3 := ho2.setF hc 4 (by omega) (.int .i64 ((itm b c).w + y)) { itm b c with w := (itm b c).w + y } rfl
      rw [show b.set c { itm b c with w := (itm b c).w + y } = bump b c y from rfl] at ho3
      have hset := settle_any (bump b c y) c (by rw [bump_len]; exact hc) (bump_parok (J_parok hp hj) hc) g cap base _ (by rw [bump_len, hlen]; exact ho3)
      rw [bump_len, hlen] at hset
      generalize settleP (bump b c y) c = d at hj2 hset
      have hdl := hj2.len
      have hpar := (hj2.sk c (by omega)).2.1
      obtain ⟨p, hpe⟩ : ∃ p, (itm a c).par = p := ⟨_, rfl⟩
      rw [hpe] at hj2 hpar hpc
      have hj3 := Lib.hid hj2
      clear hj hj2 hu hwc
      go_wp2_with (go_at_call 88; refine hset.mono ?_; clear hset; rintro e w1 ⟨rfl, ho4, hg4⟩; obtain ⟨_, _, d2, _, _, _, _⟩ := ho4.atItem (i := c) (by omega); rw [hpar] at d2)
      go_roundw
      case rel => exact ⟨d, p, rfl, hj3.out, ho4, grown_trans hg2 (grown_trans (grown_set _ _ _) hg4)⟩
      case measure => simp [intOf]; omega
end Go.Proofs.Ytibmfpcbjopojaa
