/- Which arrays may be: array.May, walked. -/
import Derived.Test.YtibmfpcbjopojaaArrI
namespace Go.Proofs.Ytibmfpcbjopojaa
open Go.RowKit
def MayA (a : List Item) : Prop := a.length ≤ 60 ∧ Plain a ∧ Settled a
instance (a : List Item) : Decidable (MayA a) := by unfold MayA; exact inferInstance
/-- The first k blocks of a, without weights. -/
def Bare (a : List Item) (k : Nat) (l : List Item) : Prop := l.length = k ∧ Settled l ∧ ∀ j, j < k → (itm l j).id = (itm a j).id ∧ (itm l j).par = (itm a j).par ∧ (itm l j).own = 0 ∧ (itm l j).w = 0
/-- All blocks of a, with the own weights of the first k. -/
def Laden (a : List Item) (k : Nat) (l : List Item) : Prop := l.length = a.length ∧ Settled l ∧ ∀ j, j < a.length → (itm l j).id = (itm a j).id ∧ (itm l j).par = (itm a j).par ∧ (itm l j).own = if j < k then (itm a j).own else 0
theorem Bare.par {a l : List Item} {k : Nat} (hp : Plain a) (hk : k ≤ a.length) (h : Bare a k l) : ParOk l := fun i hi => by
  rw [h.1] at hi
  rw [(h.2.2 i hi).2.1]
  exact hp.parOk i (by omega)
theorem J_w {a0 a : List Item} {i : Nat} (h : J a0 i 0 (-1) a) {j : Nat} (hj : j < a.length) : (itm a j).w = (itm a0 j).w := by
  by_cases hu : Up a0 i j
  · rw [h.tr1 j hj hu Up_none]; omega
  · exact h.tr2 j hj (.inl hu)
theorem Bare.step {a l b : List Item} {k : Nat} (hk : k < a.length) (h : Bare a k l) (hj : J (l ++ [newItem (itm a k).id (itm a k).par l.length]) l.length 0 (-1) b) : Bare a (k + 1) b := by
  obtain ⟨h1, h2, h3⟩ := h
  have hl := hj.len
  simp at hl
  refine ⟨by omega, J_end hj, fun j hjk => ?_⟩
  obtain ⟨s1, s2, s3⟩ := hj.sk j (by omega)
  have hw := J_w hj (j := j) (by omega)
  have s3' : (itm b j).own = (itm (l ++ [newItem (itm a k).id (itm a k).par l.length]) j).own := by rw [s3]; split <;> omega
  rw [s1, s2, s3', hw]
  by_cases e : j < k
  · rw [itm_app _ _ _ (by omega)]
    exact h3 j e
  · obtain rfl : j = k := by omega
    rw [show j = l.length from h1.symm, itm_new]
    exact ⟨rfl, rfl, rfl, rfl⟩
theorem Bare.laden {a l : List Item} (h : Bare a a.length l) : Laden a 0 l := ⟨h.1, h.2.1, fun j hj => by obtain ⟨h1, h2, h3, _⟩ := h.2.2 j hj; exact ⟨h1, h2, by rw [h3]; rfl⟩⟩
theorem Laden.par {a l : List Item} {k : Nat} (hp : Plain a) (h : Laden a k l) : ParOk l := fun i hi => by
  rw [h.1] at hi
  rw [(h.2.2 i hi).2.1]
  exact hp.parOk i hi
theorem Laden.own {a l : List Item} {k : Nat} (hp : Plain a) (h : Laden a k l) {i : Nat} (hi : i < l.length) : 0 ≤ (itm l i).own ∧ (itm l i).own ≤ 1125899906842624 := by
  rw [h.1] at hi
  rw [(h.2.2 i hi).2.2]
  have := (hp i hi).2.2.2.2
  split <;> omega
theorem Laden.w {a l : List Item} {k : Nat} (hp : Plain a) (hl : a.length ≤ 100) (h : Laden a k l) {i : Nat} (hi : i < l.length) : -1152921504606846976 ≤ (itm l i).w ∧ (itm l i).w ≤ 1152921504606846976 := by
  have := w_bound (h.par hp) (fun i hi => (h.2.1 i hi).1) (fun i hi => h.own hp hi) hi
  rw [h.1] at this
  omega
theorem Laden.step {a l b : List Item} {k : Nat} (hk : k < a.length) (h : Laden a k l) (hj : J l k (itm a k).own (-1) b) : Laden a (k + 1) b := by
  obtain ⟨h1, h2, h3⟩ := h
  have hl := hj.len
  refine ⟨by omega, J_end hj, fun j hjk => ?_⟩
  obtain ⟨s1, s2, s3⟩ := hj.sk j (by omega)
  obtain ⟨t1, t2, t3⟩ := h3 j hjk
  rw [s1, s2, s3, t3]
  refine ⟨t1, t2, ?_⟩
  by_cases e : j = k
  · subst e; rw [if_neg (by omega), if_pos rfl, if_pos (by omega)]; omega
  · rw [if_neg e]
    by_cases e2 : j < k
    · rw [if_pos e2, if_pos (by omega)]; omega
    · rw [if_neg e2, if_neg (by omega)]; omega
theorem Laden.end {a l : List Item} (hp : Plain a) (hl : a.length ≤ 60) (h : Laden a a.length l) : decide (MayA a) = decide (l = a) := by
  rw [Bool.eq_iff_iff]
  simp only [decide_eq_true_eq]
  constructor
  · intro hm
    exact settled_uniq (h.par hp) ⟨h.1, fun i hi => by rw [h.1] at hi; obtain ⟨s1, s2, s3⟩ := h.2.2 i hi; rw [if_pos hi] at s3; exact ⟨s1, s2, s3⟩⟩ h.2.1 hm.2.2
  · intro e
    subst e
    exact ⟨hl, hp, h.2.1⟩
set_option maxRecDepth 100000 in
set_option maxHeartbeats 2000000 in
theorem may10_any (a : List Item) (A : Option Addr) (c : Nat) (w : World) (hr : Rd 7 encItem w A a) :
    Calls Try.prog 58 #[.slice A a.length c] w fun e w' => e = .returned (.bool (decide (MayA a))) ∧ Below w.heap.size w w' := by
  have hm := hr.1
  have hplain := plain_any a A c w hr
  obtain ⟨res, hres⟩ : ∃ res, decide (MayA a) = res := ⟨_, rfl⟩
  rw [hres]
  have hres' := Lib.hid hres
  clear hres
  by_cases hp : Plain a ∧ a.length ≤ 60
  · rw [decide_eq_true hp] at hplain
    obtain ⟨hp, hl⟩ := hp
    have hpar := hp.parOk
    have hp' := Lib.hid hp
    clear hp
    go_enter Try.func58, Try.ntmps58
    go_wp2_with (go_at_call 84; refine hplain.mono ?_; clear hplain; rintro e w1 ⟨rfl, hB1⟩)
    go_loopw [3, 5, 13] (fun v x5 i wr => ∃ (k : Nat) (l : List Item), k ≤ a.length ∧ i = .int .i64 k ∧ Bare a k l ∧ Own wr w.heap.size 103 7 encItem v l ∧ Below w.heap.size w wr) (fun _ _ i _ => a.length - (intOf i).toNat)
    case atStart => exact ⟨0, [], Nat.zero_le _, rfl, ⟨rfl, fun i hi => by simp at hi, fun j hj => by omega⟩, Own.nil _ _ _ _ _, hB1⟩
    case round =>
      obtain ⟨k, l, hk, rfl, hbare, ho, hB⟩ := hrel
      by_cases hlt : k < a.length
      · obtain ⟨b, o, rfl, _, c0, c1, c2, c3, c4, c5, c6⟩ := (hr.below hB).atItem hlt
        have hpk := hpar k hlt
        have hBX : Below wr.heap.size wr (wr.alloc (.cells #[.int .u64 (itm a k).id.hi, .int .u64 (itm a k).id.lo, .int .i64 (itm a k).par, .int .i64 (itm a k).own, .int .i64 (itm a k).w, .int .i64 (itm a k).best, .int .i64 (itm a k).head] 103)) := (Below.refl _ wr).alloc (Nat.le_refl _) _
        have hB2 := below_call hB hB.size hBX
        have hput := put_any l (itm a k).id (itm a k).par (by rw [hbare.1]; omega) (hbare.par hp'.out hk) hbare.2.1 hpk.1 (by rw [hbare.1]; exact hpk.2) (fun j hj => by rw [hbare.1] at hj; rw [(hbare.2.2 j hj).2.2.2]; omega) w.heap.size u3 _ (ho.below hBX) hB2.size
        have hstep := Lib.hid (fun b hj => Bare.step (b := b) hlt hbare hj)
        have hr3 : ∀ j, u3.ownBlock = some j → w.heap.size ≤ j := fun j hj => (ho.base j hj).1
        clear hbare ho
        unfold idv at hput
        go_wp2_with (go_at_call 59; refine hput.mono ?_; clear hput; rintro e w2 ⟨⟨b2, g2, cap2, rfl, hj2, ho2⟩, hg2⟩; have hB3 := below_step hB2 hB2.size hg2 hr3)
        go_roundw
        case rel => exact ⟨k + 1, b2, hlt, by go_num, hstep.out b2 hj2, ho2, hB3⟩
        case measure => simp [intOf]; omega
      · obtain rfl : k = a.length := by omega
        have hlad := hbare.laden
        clear hbare
        go_wp2_with fail
        go_loopw [6, 7, 26] (fun x6 x7 i wv => ∃ (k : Nat) (l : List Item), k ≤ a.length ∧ i = .int .i64 k ∧ Laden a k l ∧ Own wv w.heap.size 103 7 encItem u3 l ∧ Below w.heap.size w wv) (fun _ _ i _ => a.length - (intOf i).toNat)
        case atStart => exact ⟨0, l, Nat.zero_le _, rfl, hlad, ho, hB⟩
        case round =>
          clear hlad ho hB
          obtain ⟨k, l, hk, rfl, hlad, ho, hB⟩ := hrel
          by_cases hlt : k < a.length
          · obtain ⟨b, o, rfl, _, c0, c1, c2, c3, c4, c5, c6⟩ := (hr.below hB).atItem hlt
            obtain ⟨g, cap, rfl⟩ := ho.lies (by rw [hlad.1]; omega)
            have hBX : Below wr.heap.size wr (wr.alloc (.cells #[.int .u64 (itm a k).id.hi, .int .u64 (itm a k).id.lo, .int .i64 (itm a k).par, .int .i64 (itm a k).own, .int .i64 (itm a k).w, .int .i64 (itm a k).best, .int .i64 (itm a k).head] 103)) := (Below.refl _ wr).alloc (Nat.le_refl _) _
            have hB2 := below_call hB hB.size hBX
            have hown := (hp'.out k hlt).2.2.2.2
            have hadd := add_any l k (itm a k).own (Pre_settled (hlad.par hp'.out) hlad.2.1 (by rw [hlad.1]; exact hlt)) (fun j hj => hlad.w hp'.out (by omega) hj) (by have := hlad.own hp'.out (i := k) (by rw [hlad.1]; exact hlt); omega) (by omega) g cap w.heap.size _ (ho.below hBX)
            have hstep := Lib.hid (fun b hj => Laden.step (b := b) hlt hlad hj)
            have hr3 : ∀ j, some g = some j → w.heap.size ≤ j := fun j hj => by cases hj; exact (ho.base g rfl).1
            rw [hlad.1] at hadd
            have hle := hlad.1
            rw [hle]
            clear hlad ho hown
            go_wp2_with (go_at_call 61; refine hadd.mono ?_; clear hadd; rintro e w2 ⟨rfl, ⟨b2, hj2, ho2⟩, hg2⟩; have hB3 := below_step hB2 hB2.size hg2 hr3)
            go_roundw
            case rel => exact ⟨k + 1, b2, hlt, by go_num, hstep.out b2 hj2, ho2, hB3⟩
            case measure => simp [intOf]; omega
          · obtain rfl : k = a.length := by omega
            have hend := Lib.hid (hlad.end hp'.out hl)
            obtain ⟨A2, c2, hv, hR⟩ := ho.rd encItem_len
            have heq := equal_any l a A2 A c2 c wr hR (hr.below hB)
            subst hv
            clear hlad ho
            go_wp2_with (go_at_call 85; refine heq.mono ?_; clear heq; rintro e w2 ⟨rfl, hb2⟩; have hB3 := below_call hB hB.size hb2)
            go_ret
            exact ⟨ret_bool (by rw [← hres'.out, hend.out]), hB3⟩
  · rw [decide_eq_false hp] at hplain
    have hf : res = false := by rw [← hres'.out]; exact decide_eq_false (fun h => hp ⟨h.2.1, h.1⟩)
    have hf' := Lib.hid hf
    clear hf hp
    go_enter Try.func58, Try.ntmps58
    go_wp2_with (go_at_call 84; refine hplain.mono ?_; clear hplain; rintro e w1 ⟨rfl, hB1⟩)
    go_ret
    exact ⟨ret_bool hf'.out.symm, hB1⟩
end Go.Proofs.Ytibmfpcbjopojaa
