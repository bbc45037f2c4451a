/- The walk of votes.Of. -/
import Derived.Test.YtkccakaaklemdaaVoteD
namespace Go.Proofs.Ytkccakaaklemdaa
open Go.RowKit
/-- What has been told of the duties that came. -/
def OR (s : Int) (m : List (Dty × ID)) (b : List (Dty × Bool)) (came : List Dty) (out : List Vote) : Prop :=
  (∀ d ∈ came, d ∈ m.map (·.1)) ∧ came.Nodup ∧ (∀ v, v ∈ out ↔ dty v ∈ came ∧ v.slot = s ∧ mget m (dty v) = some v.head ∧ mget b (dty v) = none) ∧ (out.map (·.frm)).Nodup ∧ out.length ≤ came.length
theorem or_len {s : Int} {m : List (Dty × ID)} {b : List (Dty × Bool)} {came : List Dty} {out : List Vote} (h : OR s m b came out) : out.length ≤ m.length := by
  have := nodup_sub_len h.2.1 h.1
  rw [List.length_map] at this
  exact Nat.le_trans h.2.2.2.2 this
theorem or_nil (s : Int) (m : List (Dty × ID)) (b : List (Dty × Bool)) : OR s m b [] [] := ⟨by simp, List.nodup_nil, by simp, List.nodup_nil, Nat.le_refl _⟩
theorem or_skip {s : Int} {m : List (Dty × ID)} {b : List (Dty × Bool)} {came : List Dty} {out : List Vote} (h : OR s m b came out) {d : Dty} {i : ID} (hd : (d, i) ∈ m) (hn : d ∉ came) (hs : d.slot = s → mget b d ≠ none) : OR s m b (d :: came) out := by
  refine ⟨fun x hx => ?_, List.nodup_cons.2 ⟨hn, h.2.1⟩, fun v => ?_, h.2.2.2.1, Nat.le_succ_of_le h.2.2.2.2⟩
  · rcases List.mem_cons.1 hx with rfl | hx
    · exact List.mem_map_of_mem (f := (·.1)) hd
    · exact h.1 x hx
  · rw [h.2.2.1, List.mem_cons]
    constructor
    · rintro ⟨h1, r⟩; exact ⟨.inr h1, r⟩
    · rintro ⟨h1 | h1, h2, h3, h4⟩
      · rw [h1] at h4
        exact absurd h4 (hs (by rw [← h1]; exact h2))
      · exact ⟨h1, h2, h3, h4⟩
theorem or_take {s : Int} {m : List (Dty × ID)} {b : List (Dty × Bool)} {came : List Dty} {out : List Vote} (h : OR s m b came out) (hm : (m.map (·.1)).Nodup) {d : Dty} {i : ID} (hd : (d, i) ∈ m) (hn : d ∉ came) (hs : d.slot = s) (hb : mget b d = none) : OR s m b (d :: came) (out ++ [⟨d.frm, s, i⟩]) := by
  have hdd : (⟨d.frm, s⟩ : Dty) = d := by obtain ⟨a, b⟩ := d; simp only at hs; rw [hs]
  have hg := mem_mget hm hd
  refine ⟨fun x hx => ?_, List.nodup_cons.2 ⟨hn, h.2.1⟩, fun v => ?_, ?_, by have := h.2.2.2.2; simp; omega⟩
  · rcases List.mem_cons.1 hx with rfl | hx
    · exact List.mem_map_of_mem (f := (·.1)) hd
    · exact h.1 x hx
  · rw [List.mem_append, List.mem_singleton, h.2.2.1, List.mem_cons]
    constructor
    · rintro (⟨h1, r⟩ | rfl)
      · exact ⟨.inr h1, r⟩
      · refine ⟨.inl hdd, rfl, ?_, ?_⟩
        · show mget m ⟨d.frm, s⟩ = some i; rw [hdd]; exact hg
        · show mget b ⟨d.frm, s⟩ = none; rw [hdd]; exact hb
    · rintro ⟨h1 | h1, h2, h3, h4⟩
      · right
        rw [h1, hg] at h3
        obtain ⟨vf, vs, vh⟩ := v
        simp only [dty] at h1 h2 h3
        cases h3
        subst h1
        cases h2
        rfl
      · exact .inl ⟨h1, h2, h3, h4⟩
  · rw [List.map_append, List.nodup_append]
    refine ⟨h.2.2.2.1, by simp, fun a ha c hc => ?_⟩
    simp only [List.map_cons, List.map_nil, List.mem_singleton] at hc
    subst hc
    intro e
    obtain ⟨v, hv, rfl⟩ := List.mem_map.1 ha
    obtain ⟨h1, h2, _⟩ := (h.2.2.1 v).1 hv
    have : dty v = d := by rw [← hdd]; unfold dty; rw [e, h2]
    exact hn (this ▸ h1)
theorem or_end {l : List Vote} {s : Int} {m : List (Dty × ID)} {b : List (Dty × Bool)} {came : List Dty} {out o : List Vote} (h : OR s m b came out) (hb : Book l m b) (hall : ∀ p ∈ m, p.1 ∈ came) (hp : o.Perm out) (hs : o.Pairwise (fun x y => x.frm ≤ y.frm)) : o = ofL l s := by
  refine ofL_eq ⟨sortedV_rises hs ((hp.map _).nodup_iff.2 h.2.2.2.1), fun v => ?_⟩
  rw [hp.mem_iff, h.2.2.1]
  have hbad : mget b (dty v) = none ↔ ¬ Dbl l v.slot v.frm := by
    have := hb.bad (dty v)
    rw [show (dty v).slot = v.slot from rfl, show (dty v).frm = v.frm from rfl] at this
    rw [← this]
    cases mget b (dty v) <;> simp
  unfold InOf
  constructor
  · rintro ⟨_, h2, h3, h4⟩
    refine ⟨?_, h2, by rw [← h2]; exact hbad.1 h4⟩
    have := hb.there _ _ h3
    exact this
  · rintro ⟨h1, h2, h3⟩
    obtain ⟨i, hi⟩ := Option.isSome_iff_exists.1 (hb.all v h1)
    have hv := hb.there _ _ hi
    have he : i = v.head := by
      have := dbl_one hv h1 rfl rfl (by show ¬ Dbl l v.slot v.frm; rw [h2]; exact h3)
      exact congrArg Vote.head this
    exact ⟨hall _ (mgot_mem hi), h2, by rw [hi, he], hbad.2 (by rw [h2]; exact h3)⟩
theorem al_size (w : World) (o : Obj) : (w.alloc o).heap.size = w.heap.size + 1 := by simp
theorem of_lay (w : World) (o1 o2 : Obj) (cs : Array Value) (T : TypeId) : Below w.heap.size w (((w.alloc o1).alloc o2).alloc (.cells cs T)) ∧ (((w.alloc o1).alloc o2).alloc (.cells cs T)).heap[w.heap.size + 1 + 1]? = some (.cells cs T (0, 0)) ∧ Below w.heap.size w ((w.alloc o1).alloc o2) ∧ Below ((w.alloc o1).alloc o2).heap.size ((w.alloc o1).alloc o2) (((w.alloc o1).alloc o2).alloc (.cells cs T)) :=
  ⟨(((Below.refl _ w).alloc (Nat.le_refl _) _).alloc (by simp) _).alloc (by simp; omega) _, ha_at (by simp), ((Below.refl _ w).alloc (Nat.le_refl _) _).alloc (by simp) _, (Below.refl _ _).alloc (Nat.le_refl _) _⟩
theorem lookup_bad {w : World} {M : Nat} {b : List (Dty × Bool)} (hM : MapIs dtyv Value.bool w M b) (d : Dty) {q : Bool} (hg : (mget b d).getD false = q) :
    (Instr.lookup 56 (.map (some M)) (.agg #[.int .i64 d.frm, .int .i64 d.slot]) false).run Try.prog w = .ok (.bool q) w := by
  have h := lookup_run KeyD Try.underlying56 (Try.zeroValue4 _) hM d false
  unfold dtyv at h
  rw [h, ← hg]
  cases mget b d <;> rfl
set_option maxRecDepth 100000 in
set_option maxHeartbeats 4000000 in
theorem vof_any (l : List Vote) (s : Int) (A : Option Addr) (c : Nat) (w : World) (hr : Rd 4 encVote w A l) (hl : l.length ≤ 100000) :
    Calls Try.prog 14 #[.slice A l.length c, .int .i64 s] w fun e w' => ∃ u, e = .returned u ∧ Own w' w.heap.size 38 4 encVote u (ofL l s) ∧ Below w.heap.size w w' := by
  have hm := hr.1
  have hun := Try.underlying27
  have hbook := book_any l A c w hr
  go_enter Try.func14, Try.ntmps14
  go_wp2_with (first
    | (go_at_call 32; (with_reducible refine hbook.mono ?_); clear hbook; rintro e w1 ⟨m, b, M1, M2, rfl, hM1, hM2, hm1, hm2, hbk, hml, hbl, hB1⟩; have hbk' := Lib.hid hbk; clear hbk; have hma := MapIs_alloc hm1 (.cells #[.map (some M1), .map (some M2)] 58); have hmb := MapIs_alloc hm2 (.cells #[.map (some M1), .map (some M2)] 58); have hka : (w1.alloc (.cells #[.map (some M1), .map (some M2)] 58)).heap[w1.heap.size]? = some (.cells #[.map (some M1), .map (some M2)] 58 (0, 0)) := ha_at rfl)
    | (at_range; refine wp_range rfl rfl Try.underlying55 rfl hma (r := w1.heap.size + 1) (by simp) ?_; intro w2 hR hB2 hz2))
  go_frame
  have hNd : (m.map (·.1)).Nodup := by obtain ⟨_, _, _, _, _, _, h⟩ := hm1; exact h
  have hNd' := Lib.hid hNd
  have hB := below_call (hB1.alloc hB1.size (.cells #[.map (some M1), .map (some M2)] 58)) (by simp; have := hB1.size; omega) hB2
  have hmb2 := MapIs_below hmb hB2
  have hka2 := bl_own hB2 hka
  have hlr := hB1.size
  have hMr := MapIs_lt hm2
  clear hNd hma hmb hka hm1 hm2 hB2
  go_loopw [5, 7, 8] (fun u _u7 _u8 wr => ∃ (came : List Dty) (out : List Vote), RIs dtyv idv wr M1 (w1.heap.size + 1) m came ∧ MapIs dtyv Value.bool wr M2 b ∧ wr.heap[w1.heap.size]? = some (.cells #[.map (some M1), .map (some M2)] 58 (0, 0)) ∧ Own wr w.heap.size 38 4 encVote u out ∧ u.ownBlock ≠ some (w1.heap.size + 1) ∧ u.ownBlock ≠ some w1.heap.size ∧ Hid (OR s m b came out) ∧ Below w.heap.size w wr) (fun _ _ _ wr => wr.rangeLeft M1 (w1.heap.size + 1))
  case atStart => exact ⟨[], [], hR, hmb2, hka2, Own.nil _ _ _ _ _, by simp [Value.ownBlock], by simp [Value.ownBlock], Lib.hid (or_nil s m b), hB⟩
  case round =>
    obtain ⟨came, out, hR, hN, hK, hown, hob, hob2, hor, hB⟩ := hrel
    have hvb : ∀ j, u5.ownBlock = some j → w.heap.size ≤ j := fun j hj => (hown.base j hj).1
    have hol := or_len hor.out
    have hend := Lib.hid (fun hall o hp hs => or_end (o := o) hor.out hbk'.out hall hp hs)
    have hs1 := sorted_any out u5 w.heap.size wr hown (by omega)
    go_wp2_with (first
      | (at_next; refine wp_next rfl rfl rfl hR ?_ ?_; intro hall; rotate_left; intro d v w3 hcm hen; unfold dtyv idv at hen; have ho3 := hown.grown hcm.grown (.inr hob); have hN3 := MapIs_grown hN hcm.grown (fun e => by have e' := Option.some.inj e; omega); have hK3 := grown_own hcm.grown hK (fun e => by have e' := Option.some.inj e; omega); have hB3 := below_step hB hB.size hcm.grown (fun q e => by cases e; omega); obtain ⟨hy1, hy2, hy3, hy4⟩ := of_lay w3 (.cells #[.int .i64 d.frm, .int .i64 d.slot] 61) (.cells #[.int .u64 v.hi, .int .u64 v.lo] 29) #[.int .i64 d.frm, .int .i64 s, .int .u64 v.hi, .int .u64 v.lo] 38; have ho5 := ho3.below hy1; have hB5 := below_call hB3 hB3.size hy1; have hr5 := hcm.ris.below hy1; have hN4 := MapIs_below hN3 hy3; obtain ⟨k0, k1, _, _⟩ := blk2 (bl_own hy3 hK3); have heq := eql_dtyw d ⟨d.frm, s⟩; obtain ⟨q, hq⟩ : ∃ q, decide (d = (⟨d.frm, s⟩ : Dty)) = q := ⟨_, rfl⟩; rw [hq] at heq; have hq' := Lib.hid hq; clear hq; have hbv : mget b d = none ∨ mget b d = some true := (by cases hg : mget b d with | none => exact .inl rfl | some x => rw [hbk'.out.yes d x hg]; exact .inr rfl); have hlk0 := fun h => lookup_bad (q := false) hN4 d h; have hlk1 := fun h => lookup_bad (q := true) hN4 d h; rcases hbv with hg | hg; (have hlk := hlk0 (by rw [hg]; rfl); clear hlk0 hlk1; cases q); rotate_left; rotate_left; (have hlk := hlk1 (by rw [hg]; rfl); clear hlk0 hlk1; cases q); rotate_left; rotate_left)
      | (go_at_call 33; (with_reducible refine hs1.mono ?_); clear hs1; rintro e w3 ⟨rfl, o, ho3, hp, hso, hg3⟩; have hp' := Lib.hid (And.intro hp hso); clear hp hso)
      | (at_builtin; refine wp_append1 rfl rfl hun infoV rfl (by decide) encVote_len encVote_one rfl ho5 (g := w3.heap.size + 1 + 1) (c := 1) rfl (y := ⟨d.frm, s, v⟩) hy2 rfl (by omega) (by unfold maxLen; omega) hB5.size ?_; intro v' w5 ho6 hg6 hat6))
    · go_ret
      exact ⟨_, rfl, by rw [← hend.out hall.out o hp'.out.1 hp'.out.2]; exact ho3, below_step hB hB.size hg3 hvb⟩
    · go_roundw
      case rel => exact ⟨d :: came, out, (hcm.ris.below hy3).1, hN4, bl_own hy3 hK3, ho3.below hy3, hob, hob2, Lib.hid (or_skip hor.out hcm.mem hcm.fresh (fun hs => absurd (show d = ⟨d.frm, s⟩ by rw [← hs]) (of_decide_eq_false hq'.out))), below_call hB3 hB3.size hy3⟩
      case measure => rw [(hcm.ris.below hy3).2]; exact hcm.less
    · have hs : d.slot = s := by
        have h := of_decide_eq_true hq'.out
        exact congrArg Dty.slot h
      have hne : some (w1.heap.size + 1) ≠ u5.ownBlock := fun e => hob e.symm
      have hne2 : some w1.heap.size ≠ u5.ownBlock := fun e => hob2 e.symm
      have hrl := hcm.ris.lt
      have hys := hy1.size
      have hob' : v'.ownBlock ≠ some (w1.heap.size + 1) := by
        rcases hat6 with h | h
        · rw [h]; exact hob
        · rw [h]; intro e; have e' := Option.some.inj e; omega
      have hob2' : v'.ownBlock ≠ some w1.heap.size := by
        rcases hat6 with h | h
        · rw [h]; exact hob2
        · rw [h]; intro e; have e' := Option.some.inj e; omega
      have hN5 := MapIs_below hN3 hy1
      have hr6 := hr5.1.grown hg6 (fun e => own_ne_map ho5 hr5.1.map e.symm) hne
      go_roundw
      case rel => exact ⟨d :: came, out ++ [⟨d.frm, s, v⟩], hr6.1, MapIs_grown hN5 hg6 (fun e => own_ne_map ho5 hN5 e.symm), grown_own hg6 (bl_own hy1 hK3) hne2, ho6, hob', hob2', Lib.hid (or_take hor.out hNd'.out hcm.mem hcm.fresh hs hg), below_step hB5 hB5.size hg6 hvb⟩
      case measure => rw [hr6.2, hr5.2]; exact hcm.less
    · go_roundw
      case rel => exact ⟨d :: came, out, (hcm.ris.below hy3).1, hN4, bl_own hy3 hK3, ho3.below hy3, hob, hob2, Lib.hid (or_skip hor.out hcm.mem hcm.fresh (fun _ => by rw [hg]; simp)), below_call hB3 hB3.size hy3⟩
      case measure => rw [(hcm.ris.below hy3).2]; exact hcm.less
    · go_roundw
      case rel => exact ⟨d :: came, out, (hcm.ris.below hy3).1, hN4, bl_own hy3 hK3, ho3.below hy3, hob, hob2, Lib.hid (or_skip hor.out hcm.mem hcm.fresh (fun _ => by rw [hg]; simp)), below_call hB3 hB3.size hy3⟩
      case measure => rw [(hcm.ris.below hy3).2]; exact hcm.less
end Go.Proofs.Ytkccakaaklemdaa
