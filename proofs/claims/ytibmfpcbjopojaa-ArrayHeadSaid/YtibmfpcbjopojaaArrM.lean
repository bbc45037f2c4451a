/- array.Move, walked. (Printed by gen_move.py.) -/
import Derived.Test.YtibmfpcbjopojaaArrL
namespace Go.Proofs.Ytibmfpcbjopojaa
open Go.RowKit
def MvJ (a : List Item) (id : ID) (y : Int) (l : List Item) : Prop := mvE a id y = 0 → J a (findI a id).toNat y (-1) l
set_option maxRecDepth 100000 in
set_option maxHeartbeats 2000000 in
theorem move_any (a : List Item) (id : ID) (y : Int) (hl : a.length ≤ 100) (A : Option Addr) (c : Nat) (w : World) (hr : Rd 7 encItem w A a) (hN : A = none → c = 0) :
    Calls Try.prog 57 #[.slice A a.length c, idv id, .int .i64 y] w fun e w' => (∃ l v, e = .returned (.tuple #[v, .int .i64 (mvE a id y)]) ∧ Own w' w.heap.size 103 7 encItem v l ∧ MvP a id y l ∧ MvJ a id y l) ∧ Below w.heap.size w w' := by
  have hm := hr.1
  have hWs : ∃ W, w.alloc (.cells #[.int .u64 id.hi, .int .u64 id.lo] 29) = W := ⟨_, rfl⟩
  obtain ⟨W, hW⟩ := hWs
  have hB : Below w.heap.size w W := by subst hW; exact (Below.refl _ w).alloc (Nat.le_refl _) _
  have b0 : W.heap[w.heap.size]? = some (.cells #[.int .u64 id.hi, .int .u64 id.lo] 29 (0, 0)) := by subst hW; exact ha_at rfl
  have hcl := fun V (hV : Below w.heap.size w V) => clone_any a hl A c V (hr.below hV) hN
  have hf1 := fun B k V (hV : Rd 7 encItem V B a) => find_any a id B k V hV
  have hmay := may10_any a A c W (hr.below hB)
  have hfs := find_spec a id
  have hE : mvE a id y = if ¬ MayA a then 1 else if findI a id = -1 then 3 else if y < -1125899906842624 ∨ y > 1125899906842624 ∨ (itm a (findI a id).toNat).own + y < 0 ∨ (itm a (findI a id).toNat).own + y > 1125899906842624 then 1 else 0 := rfl
  have hIP : ∀ l, MvP a id y l ↔ (mvE a id y ≠ 0 → l = []) ∧ (mvE a id y = 0 → Settled l ∧ SameSk l (moved a (findI a id).toNat y)) := fun l => Iff.rfl
  have hJP : ∀ l, MvJ a id y l ↔ (mvE a id y = 0 → J a (findI a id).toNat y (-1) l) := fun l => Iff.rfl
  obtain ⟨E, hEE⟩ : ∃ E, mvE a id y = E := ⟨_, rfl⟩
  rw [hEE] at hE hIP hJP ⊢
  clear hEE
  generalize MvP a id y = IP at hIP ⊢
  generalize MvJ a id y = JP at hJP ⊢
  obtain ⟨f1, hf1e⟩ : ∃ f, findI a id = f := ⟨_, rfl⟩
  rw [hf1e] at hE hf1 hIP hJP hfs
  clear hf1e
  unfold idv at *
  have hIP' := Lib.hid hIP
  have hJP' := Lib.hid hJP
  clear hIP hJP
  by_cases hM : MayA a
  · rw [if_neg (fun h => h hM)] at hE
    rw [decide_eq_true hM] at hmay
    rcases hfs with ⟨rfl, _⟩ | ⟨k, hk, rfl, _, _⟩
    · rw [if_pos rfl] at hE
      clear hM
      subst hE
      go_enter Try.func57, Try.ntmps57
      go_wp2_with (first
        | (go_at_call 58; refine hmay.mono ?_; clear hmay; rintro e w1 ⟨rfl, hb1⟩; have hB1 := below_call hB hB.size hb1)
        | (go_at_call 83; refine (hcl _ hB1).mono ?_; clear hcl; rintro e w2 ⟨⟨v, rfl, ho2⟩, hb2⟩; have hB2 := below_call hB1 hB1.size hb2; obtain ⟨A1, k1, hv, hR2⟩ := ho2.rd encItem_len; subst hv; obtain ⟨c0, c1, _, _⟩ := blk2 (bl_own hb2 (bl_own hb1 b0)))
        | (go_at_call 60; with_reducible refine Calls.mono (hf1 _ _ _ hR2) ?_; clear hf1; rintro e w3 ⟨rfl, hb3⟩; have hB3 := below_call hB2 hB2.size hb3; have ho3 := ho2.below hb3))
      go_ret2
      exact ⟨⟨[], _, rfl, Own.nil _ _ _ _ _, (hIP'.out []).2 ⟨fun _ => rfl, fun h => by omega⟩, (hJP'.out []).2 (fun h => by omega)⟩, hB3⟩
    · rw [if_neg (by omega)] at hE
      simp only [Int.toNat_natCast] at hE hIP' hJP'
      have hown := (hM.2.1 k hk).2.2.2.2
      have hadd := fun g cap base V (hoV : Own V base 103 7 encItem (.slice (some ⟨g, 0, none⟩) a.length cap) a) => fun (hy : -1125899906842624 ≤ y ∧ y ≤ 1125899906842624) => add_any a k y (Pre_settled hM.2.1.parOk hM.2.2 hk) hM.w (by omega) (by omega) g cap base V hoV
      by_cases hc : y < -1125899906842624 ∨ y > 1125899906842624 ∨ (itm a k).own + y < 0 ∨ (itm a k).own + y > 1125899906842624
      · rw [if_pos hc] at hE
        clear hM hadd
        subst hE
        go_enter Try.func57, Try.ntmps57
        go_wp2_with (first
          | (go_at_call 58; refine hmay.mono ?_; clear hmay; rintro e w1 ⟨rfl, hb1⟩; have hB1 := below_call hB hB.size hb1)
          | (go_at_call 83; refine (hcl _ hB1).mono ?_; clear hcl; rintro e w2 ⟨⟨v, rfl, ho2⟩, hb2⟩; have hB2 := below_call hB1 hB1.size hb2; obtain ⟨A1, k1, hv, hR2⟩ := ho2.rd encItem_len; subst hv; obtain ⟨c0, c1, _, _⟩ := blk2 (bl_own hb2 (bl_own hb1 b0)))
          | (go_at_call 60; with_reducible refine Calls.mono (hf1 _ _ _ hR2) ?_; clear hf1; rintro e w3 ⟨rfl, hb3⟩; have hB3 := below_call hB2 hB2.size hb3; have ho3 := ho2.below hb3; obtain ⟨g, cap, hv⟩ := ho3.lies (by omega); injection hv with hv1 hv2 hv3; subst hv1; subst hv3; obtain ⟨_, _, _, d3, _, _, _⟩ := ho3.atItem hk))
        all_goals
          go_ret2
          exact ⟨⟨[], _, rfl, Own.nil _ _ _ _ _, (hIP'.out []).2 ⟨fun _ => rfl, fun h => by omega⟩, (hJP'.out []).2 (fun h => by omega)⟩, hB3⟩
      · rw [if_neg hc] at hE
        have hy : -1125899906842624 ≤ y ∧ y ≤ 1125899906842624 := by omega
        have hc3 : 0 ≤ (itm a k).own + y := by omega
        have hc4 : (itm a k).own + y ≤ 1125899906842624 := by omega
        have hadd := fun g cap base V hoV => hadd g cap base V hoV hy
        clear hM hc
        subst hE
        go_enter Try.func57, Try.ntmps57
        go_wp2_with (first
          | (go_at_call 58; refine hmay.mono ?_; clear hmay; rintro e w1 ⟨rfl, hb1⟩; have hB1 := below_call hB hB.size hb1)
          | (go_at_call 83; refine (hcl _ hB1).mono ?_; clear hcl; rintro e w2 ⟨⟨v, rfl, ho2⟩, hb2⟩; have hB2 := below_call hB1 hB1.size hb2; obtain ⟨A1, k1, hv, hR2⟩ := ho2.rd encItem_len; subst hv; obtain ⟨c0, c1, _, _⟩ := blk2 (bl_own hb2 (bl_own hb1 b0)))
          | (go_at_call 60; with_reducible refine Calls.mono (hf1 _ _ _ hR2) ?_; clear hf1; rintro e w3 ⟨rfl, hb3⟩; have hB3 := below_call hB2 hB2.size hb3; have ho3 := ho2.below hb3; obtain ⟨g, cap, hv⟩ := ho3.lies (by omega); injection hv with hv1 hv2 hv3; subst hv1; subst hv3; obtain ⟨_, _, _, d3, _, _, _⟩ := ho3.atItem hk)
          | (go_at_call 61; refine (hadd g k1 _ w3 ho3).mono ?_; clear hadd; rintro e w4 ⟨rfl, ⟨b, hj, ho4⟩, hg4⟩; have hB4 := below_step hB3 hB3.size hg4 (fun k hk => by cases hk; exact Nat.le_trans hB1.size (ho3.base g rfl).1)))
        go_ret2
        exact ⟨⟨b, _, rfl, ho4.mono hB1.size, (hIP'.out b).2 ⟨fun h => absurd rfl h, fun _ => ⟨J_end hj, J_moved hk hj⟩⟩, (hJP'.out b).2 (fun _ => hj)⟩, hB4⟩
  · rw [if_pos hM] at hE
    rw [decide_eq_false hM] at hmay
    clear hM hfs
    subst hE
    go_enter Try.func57, Try.ntmps57
    go_wp2_with (go_at_call 58; refine hmay.mono ?_; clear hmay; rintro e w1 ⟨rfl, hb1⟩; have hB1 := below_call hB hB.size hb1)
    go_ret2
    exact ⟨⟨[], _, rfl, Own.nil _ _ _ _ _, (hIP'.out []).2 ⟨fun _ => rfl, fun h => by omega⟩, (hJP'.out []).2 (fun h => by omega)⟩, hB1⟩
end Go.Proofs.Ytibmfpcbjopojaa
