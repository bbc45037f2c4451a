/- The walks of votes.Doubles and votes.Of. -/
import Derived.Test.YtkccakaaklemdaaVoteS
namespace Go.Proofs.Ytkccakaaklemdaa
open Go.RowKit
/-- What has been told of the keys that came. -/
def DR (s : Int) (b : List (Dty × Bool)) (came : List Dty) (out : List Int) : Prop :=
  (∀ d ∈ came, d ∈ b.map (·.1)) ∧ came.Nodup ∧ (∀ f, f ∈ out ↔ ∃ d ∈ came, d.slot = s ∧ d.frm = f) ∧ out.Nodup ∧ out.length ≤ came.length
theorem nodup_sub_len {α : Type} [DecidableEq α] : ∀ {l m : List α}, l.Nodup → (∀ x ∈ l, x ∈ m) → l.length ≤ m.length
  | [], _, _, _ => Nat.zero_le _
  | x :: l, m, hn, h => by
    rw [List.nodup_cons] at hn
    have hx := h x (by simp)
    have : l.length ≤ (m.erase x).length := nodup_sub_len hn.2 (fun y hy => (List.mem_erase_of_ne (fun e => hn.1 (by rw [← e]; exact hy))).2 (h y (by simp [hy])))
    rw [List.length_erase_of_mem hx] at this
    have hp : 0 < m.length := List.length_pos_of_mem hx
    simp only [List.length_cons]
    omega
theorem dr_len {s : Int} {b : List (Dty × Bool)} {came : List Dty} {out : List Int} (h : DR s b came out) : out.length ≤ b.length := by
  have := nodup_sub_len h.2.1 h.1
  rw [List.length_map] at this
  exact Nat.le_trans h.2.2.2.2 this
theorem dr_nil (s : Int) (b : List (Dty × Bool)) : DR s b [] [] := ⟨by simp, List.nodup_nil, by simp, List.nodup_nil, Nat.le_refl _⟩
theorem dr_skip {s : Int} {b : List (Dty × Bool)} {came : List Dty} {out : List Int} (h : DR s b came out) {d : Dty} {v : Bool} (hd : (d, v) ∈ b) (hn : d ∉ came) (hs : ¬ d.slot = s) : DR s b (d :: came) out := by
  refine ⟨fun x hx => ?_, List.nodup_cons.2 ⟨hn, h.2.1⟩, fun f => ?_, h.2.2.2.1, Nat.le_succ_of_le h.2.2.2.2⟩
  · rcases List.mem_cons.1 hx with rfl | hx
    · exact List.mem_map_of_mem (f := (·.1)) hd
    · exact h.1 x hx
  · rw [h.2.2.1]
    constructor
    · rintro ⟨x, hx, r⟩; exact ⟨x, by simp [hx], r⟩
    · rintro ⟨x, hx, r⟩
      rcases List.mem_cons.1 hx with rfl | hx
      · exact absurd r.1 hs
      · exact ⟨x, hx, r⟩
theorem dr_take {s : Int} {b : List (Dty × Bool)} {came : List Dty} {out : List Int} (h : DR s b came out) {d : Dty} {v : Bool} (hd : (d, v) ∈ b) (hn : d ∉ came) (hs : d.slot = s) : DR s b (d :: came) (out ++ [d.frm]) := by
  have hno : d.frm ∉ out := fun hf => by
    obtain ⟨x, hx, h1, h2⟩ := (h.2.2.1 _).1 hf
    have : x = d := by obtain ⟨a, b⟩ := x; obtain ⟨a', b'⟩ := d; simp only at h1 h2 hs; rw [h1, h2, hs]
    exact hn (this ▸ hx)
  refine ⟨fun x hx => ?_, List.nodup_cons.2 ⟨hn, h.2.1⟩, fun f => ?_, ?_, by have := h.2.2.2.2; simp; omega⟩
  · rcases List.mem_cons.1 hx with rfl | hx
    · exact List.mem_map_of_mem (f := (·.1)) hd
    · exact h.1 x hx
  · rw [List.mem_append, List.mem_singleton, h.2.2.1]
    constructor
    · rintro (⟨x, hx, r⟩ | rfl)
      · exact ⟨x, by simp [hx], r⟩
      · exact ⟨d, by simp, hs, rfl⟩
    · rintro ⟨x, hx, r⟩
      rcases List.mem_cons.1 hx with rfl | hx
      · exact .inr r.2.symm
      · exact .inl ⟨x, hx, r⟩
  · rw [List.nodup_append]
    refine ⟨h.2.2.2.1, by simp, fun a ha b hb => ?_⟩
    simp only [List.mem_singleton] at hb
    subst hb
    exact fun e => hno (e ▸ ha)
theorem dr_end {l : List Vote} {m : List (Dty × ID)} {s : Int} {b : List (Dty × Bool)} {came : List Dty} {out : List Int} (h : DR s b came out) (hb : Book l m b) (hall : ∀ p ∈ b, p.1 ∈ came) : isort out = dblL l s := by
  refine dblL_eq ⟨isort_rises h.2.2.2.1, fun f => ?_⟩
  rw [mem_isort, h.2.2.1]
  constructor
  · rintro ⟨d, hd, hs, rfl⟩
    obtain ⟨p, hp, rfl⟩ := List.mem_map.1 (h.1 d hd)
    rw [← hs, ← hb.bad]
    unfold mget
    rw [Option.isSome_map, List.find?_isSome]
    exact ⟨p, hp, by simp⟩
  · intro hd
    obtain ⟨x, hx⟩ := Option.isSome_iff_exists.1 ((hb.bad ⟨f, s⟩).2 hd)
    exact ⟨⟨f, s⟩, hall _ (mgot_mem hx), rfl, rfl⟩
theorem dbl_lay (w : World) (o : Obj) (cs : Array Value) (T : TypeId) : Below w.heap.size w ((w.alloc o).alloc (.cells cs T)) ∧ ((w.alloc o).alloc (.cells cs T)).heap[w.heap.size + 1]? = some (.cells cs T (0, 0)) :=
  ⟨((Below.refl _ w).alloc (Nat.le_refl _) _).alloc (by simp) _, ha_at (by simp)⟩
theorem field_book0 (M1 M2 : Nat) (w : World) : (Instr.field 58 (.agg #[.map (some M1), .map (some M2)]) 0).run Try.prog w = .ok (.map (some M1)) w := by kernel_rfl
theorem field_book1 (M1 M2 : Nat) (w : World) : (Instr.field 58 (.agg #[.map (some M1), .map (some M2)]) 1).run Try.prog w = .ok (.map (some M2)) w := by kernel_rfl
set_option maxRecDepth 100000 in
set_option maxHeartbeats 2000000 in
theorem doubles_any (l : List Vote) (s : Int) (A : Option Addr) (c : Nat) (w : World) (hr : Rd 4 encVote w A l) (hl : l.length ≤ 100000) :
    Calls Try.prog 21 #[.slice A l.length c, .int .i64 s] w fun e w' => ∃ u, e = .returned u ∧ Own w' w.heap.size 3 1 encI u (dblL l s) ∧ Below w.heap.size w w' := by
  have hm := hr.1
  have hun := Try.underlying22
  have hbook := book_any l A c w hr
  have hfb := field_book1
  go_enter Try.func21, Try.ntmps21
  go_wp2_with (first
    | (go_at_call 32; (with_reducible refine hbook.mono ?_); clear hbook; rintro e w1 ⟨m, b, M1, M2, rfl, hM1, hM2, hm1, hm2, hbk, hml, hbl, hB1⟩; have hbk' := Lib.hid hbk; clear hbk)
    | (at_range; refine wp_range rfl rfl Try.underlying56 rfl hm2 rfl ?_; intro w2 hR hB2 hz2))
  go_frame
  have hB := below_call hB1 hB1.size hB2
  have hlr := hB1.size
  go_loopw [5, 6] (fun u _u6 wr => ∃ (came : List Dty) (out : List Int), RIs dtyv Value.bool wr M2 w1.heap.size b came ∧ Own wr w.heap.size 3 1 encI u out ∧ u.ownBlock ≠ some w1.heap.size ∧ Hid (DR s b came out) ∧ Below w.heap.size w wr) (fun _ _ wr => wr.rangeLeft M2 w1.heap.size)
  case atStart => exact ⟨[], [], hR, Own.nil _ _ _ _ _, by simp [Value.ownBlock], Lib.hid (dr_nil s b), hB⟩
  case round =>
    obtain ⟨came, out, hR, hown, hob, hdr, hB⟩ := hrel
    have hvb : ∀ j, u5.ownBlock = some j → w.heap.size ≤ j := fun j hj => (hown.base j hj).1
    have hol := dr_len hdr.out
    have hdend := Lib.hid (fun hall => dr_end hdr.out hbk'.out hall)
    have hs1 := isort_any out u5 w.heap.size wr hown (by omega)
    go_wp2_with (first
      | (at_next; refine wp_next rfl rfl rfl hR ?_ ?_; intro hall; rotate_left; intro d v w3 hcm hen; unfold dtyv at hen; have ho3 := hown.grown hcm.grown (.inr hob); have hB3 := below_step hB hB.size hcm.grown (fun q e => by cases e; exact hlr); have hbw := dbl_lay w3 (.cells #[.int .i64 d.frm, .int .i64 d.slot] 61) #[.int .i64 d.frm] 3; have ho5 := ho3.below hbw.1; have hB5 := below_call hB3 hB3.size hbw.1; have hx5 := hbw.2; have hr5 := (hcm.ris.below hbw.1); rotate_left)
      | (go_at_call 41; (with_reducible refine hs1.mono ?_); clear hs1; rintro e w3 ⟨rfl, ho3, hg3⟩)
      | (at_builtin; refine wp_append1 rfl rfl hun infoI rfl (by decide) encI_len encI_one rfl ho5 (g := w3.heap.size + 1) (c := 1) rfl (y := d.frm) hx5 rfl (by omega) (by unfold maxLen; omega) hB5.size ?_; intro v' w5 ho6 hg6 hat6))
    · go_ret
      exact ⟨_, rfl, by rw [← hdend.out hall.out]; exact ho3, below_step hB hB.size hg3 hvb⟩
    · have hs : d.slot = s := by have : (d.slot == s) = true := by assumption
                                 simpa using this
      have hne : some w1.heap.size ≠ u5.ownBlock := fun e => hob e.symm
      have hob' : v'.ownBlock ≠ some w1.heap.size := by
        rcases hat6 with h | h
        · rw [h]; exact hob
        · rw [h]; intro e; have e' := Option.some.inj e; have h1 := hbw.1.size; have h2 := hcm.ris.lt; omega
      have hr6 := hr5.1.grown hg6 (fun e => own_ne_map ho5 hr5.1.map e.symm) hne
      go_roundw
      case rel => exact ⟨d :: came, out ++ [d.frm], hr6.1, ho6, hob', Lib.hid (dr_take hdr.out hcm.mem hcm.fresh hs), below_step hB5 hB5.size hg6 hvb⟩
      case measure => rw [hr6.2, hr5.2]; exact hcm.less
    · have hs : ¬ d.slot = s := by have : (d.slot == s) = false := by assumption
                                   simpa using this
      have hra := (hcm.ris.below ((Below.refl _ w3).alloc (Nat.le_refl _) (.cells #[.int .i64 d.frm, .int .i64 d.slot] 61)))
      go_roundw
      case rel => exact ⟨d :: came, out, hra.1, ho3.below ((Below.refl _ w3).alloc (Nat.le_refl _) _), hob, Lib.hid (dr_skip hdr.out hcm.mem hcm.fresh hs), hB3.alloc hB3.size _⟩
      case measure => rw [hra.2]; exact hcm.less
end Go.Proofs.Ytkccakaaklemdaa
