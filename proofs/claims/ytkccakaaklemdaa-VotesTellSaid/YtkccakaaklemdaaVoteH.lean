/- The walk of votes.Last. -/
import Derived.Test.YtkccakaaklemdaaVoteF
import Derived.Test.YtkccakaaklemdaaVoteG
namespace Go.Proofs.Ytkccakaaklemdaa
open Go.RowKit
theorem own_empty {w : World} {base g : Nat} (h : w.heap[g]? = some (.cells #[] 38 (0, 0))) (hb : base ≤ g) : Own w base 38 4 encVote (.slice (some ⟨g, 0, none⟩) 0 0) ([] : List Vote) :=
  ⟨by simp, .inr ⟨g, 0, #[], rfl, hb, h, Nat.le_refl _, by unfold maxLen; omega, rfl, rfl⟩⟩
theorem last_lay (w : World) (M1 M2 : Nat) : ∃ W, (((w.alloc (.cells #[.map (some M1), .map (some M2)] 58)).alloc (.map #[] 0)).alloc (.cells #[] 38)) = W ∧ Below w.heap.size w W ∧ W.heap[w.heap.size]? = some (.cells #[.map (some M1), .map (some M2)] 58 (0, 0)) ∧
    MapIs (Value.int .i64) votev W (w.heap.size + 1) [] ∧ W.heap[w.heap.size + 1 + 1]? = some (.cells #[] 38 (0, 0)) ∧ W.heap.size = w.heap.size + 1 + 1 + 1 :=
  ⟨_, rfl, (((Below.refl _ w).alloc (Nat.le_refl _) _).alloc (by simp) _).alloc (by simp; omega) _, ha_lt (ha_lt (ha_at rfl)), MapIs_alloc (MapIs_new _ _ (ha_at (by simp))) _, ha_at (by simp), by simp⟩
theorem dlay (w : World) (d : Dty) : Below w.heap.size w (w.alloc (.cells #[.int .i64 d.frm, .int .i64 d.slot] 61)) ∧ (w.alloc (.cells #[.int .i64 d.frm, .int .i64 d.slot] 61)).heap[w.heap.size]? = some (.cells #[.int .i64 d.frm, .int .i64 d.slot] 61 (0, 0)) :=
  ⟨(Below.refl _ w).alloc (Nat.le_refl _) _, ha_at rfl⟩
set_option maxRecDepth 100000 in
set_option maxHeartbeats 4000000 in
theorem vlast_any (l : List Vote) (u : Int) (A : Option Addr) (c : Nat) (w : World) (hr : Rd 4 encVote w A l) (hl : l.length ≤ 100000) :
    Calls Try.prog 25 #[.slice A l.length c, .int .i64 u] w fun e w' => ∃ v, e = .returned v ∧ Own w' w.heap.size 38 4 encVote v (lastL l u) ∧ Below w.heap.size w w' := by
  have hm := hr.1
  have hun := Try.underlying27
  have hmm := @run_makeMap Try.prog
  have hbook := book_any l A c w hr
  go_enter Try.func25, Try.ntmps25
  go_wp2_with (first
    | (go_at_call 32; (with_reducible refine hbook.mono ?_); clear hbook; rintro e w1 ⟨m, b, M1, M2, rfl, hM1, hM2, hm1, hm2, hbk, hml, hbl, hB1⟩; have hbk' := Lib.hid hbk; clear hbk; obtain ⟨W, hW, hBW, hK, hT, hE, hzW⟩ := last_lay w1 M1 M2; obtain ⟨k0, k1, _, _⟩ := blk2 hK; have hm1W := MapIs_below hm1 hBW; have hm2W := MapIs_below hm2 hBW)
    | (at_range; refine wp_range rfl rfl Try.underlying55 rfl hm1W (r := w1.heap.size + 1 + 1 + 1) hzW ?_; intro w2 hR hB2 hz2))
  go_frame
  have hNd : (m.map (·.1)).Nodup := by obtain ⟨_, _, _, _, _, _, h⟩ := hm1; exact h
  have hNd' := Lib.hid hNd
  have hBw := below_call hB1 hB1.size hBW
  have hB0 := below_call hBw hBw.size hB2
  have hT2 := MapIs_below hT hB2
  have hN2 := MapIs_below hm2W hB2
  have hK2 := bl_own hB2 hK
  have hE2 := bl_own hB2 hE
  have hlr := hB1.size
  have hMr := MapIs_lt hm1
  have hMr2 := MapIs_lt hm2
  clear hNd hT hm1W hm2W hm1 hm2 hK hE hBW hB2 hBw k0 k1
  go_loopw [8, 9, 10, 11] (fun _u8 _u9 _u10 _u11 wr => ∃ (came : List Dty) (t : List (Int × Vote)), RIs dtyv idv wr M1 (w1.heap.size + 1 + 1 + 1) m came ∧ MapIs (Value.int .i64) votev wr (w1.heap.size + 1) t ∧ MapIs dtyv Value.bool wr M2 b ∧ wr.heap[w1.heap.size]? = some (.cells #[.map (some M1), .map (some M2)] 58 (0, 0)) ∧ wr.heap[w1.heap.size + 1 + 1]? = some (.cells #[] 38 (0, 0)) ∧ Hid (LR u m came t) ∧ Below w.heap.size w wr) (fun _ _ _ _ wr => wr.rangeLeft M1 (w1.heap.size + 1 + 1 + 1))
  case atStart => exact ⟨[], [], hR, hT2, hN2, hK2, hE2, Lib.hid (lr_nil u m), hB0⟩
  case round =>
    clear hT2 hN2 hK2 hE2 hR hB0
    obtain ⟨came, t, hR, hT, hN, hK, hE, hLR, hB⟩ := hrel
    go_wp2_with (at_next; refine wp_next rfl rfl rfl hR ?_ ?_)
    · intro hall
      obtain ⟨k0, k1, _, _⟩ := blk2 hK
      obtain ⟨r2, hr2⟩ : ∃ r2, wr.heap.size = r2 := ⟨_, rfl⟩
      have hMT := MapIs_lt hT
      go_wp2_with (at_range; refine wp_range rfl rfl Try.underlying56 rfl hN (r := r2) hr2 ?_; intro w3 hR3 hB3 hz3)
      go_frame
      have hT3 := MapIs_below hT hB3
      have hE3 := bl_own hB3 hE
      have hB4 := below_call hB hB.size hB3
      have htl := lr_len hLR.out
      have hlast := Lib.hid (fun came2 t2 ys o h2 h3 h4 h5 h6 h7 => last_end (came2 := came2) (t2 := t2) (ys := ys) (o := o) hbk'.out hLR.out (fun p hp => hall.out p.1 p.2 hp) h2 h3 h4 h5 h6 h7)
      have hr2' : w1.heap.size + 1 + 1 < r2 := by have := lt_of_block hE; omega
      clear hT hN hK hE hB k0 k1 hB3 hR hMT hz3
      go_loopw [12] (fun _u12 wr => ∃ (came2 : List Dty) (t2 : List (Int × Vote)), RIs dtyv Value.bool wr M2 r2 b came2 ∧ MapIs (Value.int .i64) votev wr (w1.heap.size + 1) t2 ∧ wr.heap[w1.heap.size + 1 + 1]? = some (.cells #[] 38 (0, 0)) ∧ Hid (LD u b t came2 t2) ∧ Below w.heap.size w wr) (fun _ wr => wr.rangeLeft M2 r2)
      case atStart => exact ⟨[], t, hR3, hT3, hE3, Lib.hid (ld_nil u b t), hB4⟩
      case round =>
        clear hR3 hT3 hE3 hB4
        obtain ⟨came2, t2, hR, hT, hE, hLD, hB⟩ := hrel
        go_wp2_with (first
          | (at_next; refine wp_next rfl rfl rfl hR ?_ ?_; rotate_left; (intro d x w4 hcm hen; unfold dtyv at hen; have hT4 := MapIs_grown hT hcm.grown (fun e => by have e' := Option.some.inj e; omega); have hE4 := grown_own hcm.grown hE (fun e => by have e' := Option.some.inj e; omega); have hB4 := below_step hB hB.size hcm.grown (fun q e => by cases e; omega); obtain ⟨hy1, hy2⟩ := dlay w4 d; have hT5 := MapIs_below hT4 hy1; have hr5 := hcm.ris.below hy1; have hE5 := bl_own hy1 hE4; have hB5 := below_call hB4 hB4.size hy1; obtain ⟨d0, d1, _, _⟩ := blk2 hy2); rotate_left)
          | (at_delete; refine wp_delete (ev := votev) rfl rfl KeyI Try.underlying78 rfl (x := d.frm) rfl hT5 ?_; intro w6 hT6 hg6 hz6))
        · intro hall2
          have hall3 : ∀ p ∈ b, p.1 ∈ came2 := fun p hp => by
            obtain ⟨d, x⟩ := p
            cases x
            · exact (hall2.out d).1 hp
            · exact (hall2.out d).2 hp
          have ho0 := own_empty hE (base := w.heap.size) (by omega)
          have hval := (callsIn_wide (n := 1)).1 (values_in Fence.wide 1 trivial rfl (some (w1.heap.size + 1)) wr)
          have hBv : Below wr.heap.size wr (wr.alloc (.cells #[.map (some (w1.heap.size + 1))] 78)) := (Below.refl _ wr).alloc (Nat.le_refl _) _
          have xv : (wr.alloc (.cells #[.map (some (w1.heap.size + 1))] 78)).heap[wr.heap.size]? = some (.cells #[.map (some (w1.heap.size + 1))] 78 (0, 0)) := ha_at rfl
          have hBV := below_call hB hB.size hBv
          have hTv := MapIs_below hT hBv
          have hnt : (t2.map (·.1)).Nodup := by obtain ⟨_, _, _, _, _, _, h⟩ := hT; exact h
          have hseq : SeqGives Fence.wide 1 Try.prog 57 #[.pointer (some ⟨wr.heap.size, 0, none⟩)] votev (fun ys => ys.Perm (t2.map (·.2))) t2.length (wr.alloc (.cells #[.map (some (w1.heap.size + 1))] 78)) := fun ll J V hV hJ hY h0 =>
            values1_in Fence.wide 1 trivial rfl (by decide) ll wr.heap.size (w1.heap.size + 1) t2 J hY V hJ (blk_cell (bl_own hV xv) 0) (MapIs_below hTv hV) h0
          have happ := (callsIn_wide (n := 2)).1 (appendSeq_in Fence.wide 2 trivial rfl (by decide) 57 #[.pointer (some ⟨wr.heap.size, 0, none⟩)] trivial (enters_of Try.func57 (by kernel_rfl) rfl) _ t2.length w.heap.size (by have := hLD.out.len; omega) _ _ hBV.size (ho0.below hBv) hseq)
          have hll := hLD.out.len
          go_wp2_with (first
            | (go_at_call 45; (with_reducible refine hval.mono ?_); clear hval; rintro e w5 ⟨rfl, rfl⟩)
            | (go_at_call 44; (with_reducible refine happ.mono ?_); clear happ; rintro e w6 ⟨v, ys, rfl, hp, ho6, hb6⟩; have hyl : ys.length = t2.length := (by have := hp.length_eq; simpa using this); have hp' := Lib.hid hp; clear hp; have hso := sorted_any ys v w.heap.size w6 ho6 (by omega); obtain ⟨Av, cv, rfl, _⟩ := ho6.rd encVote_len; clear hyl)
            | (go_at_call 33; (with_reducible refine hso.mono ?_); clear hso; rintro e w7 ⟨rfl, o, ho7, hpo, hps, hg7⟩; have hpp := Lib.hid (And.intro hpo hps); clear hpo hps))
          go_ret
          exact ⟨_, rfl, by rw [← hlast.out came2 t2 ys o hLD.out hall3 hnt hp'.out hpp.out.1 hpp.out.2]; exact ho7, below_step (hBV.trans hb6) (hBV.trans hb6).size hg7 (fun q e => (ho6.base q e).1)⟩
        · have hu : d.slot ≤ u := by assumption
          have hr6 := hr5.1.grown hg6 (fun e => by have e' := Option.some.inj e; omega) (fun e => by have e' := Option.some.inj e; omega)
          try dsimp only [Act.put]
          go_roundw
          case rel => exact ⟨d :: came2, mdel t2 d.frm, hr6.1, hT6, grown_own hg6 hE5 (fun e => by have e' := Option.some.inj e; omega), Lib.hid (ld_take hLD.out hcm.mem hu), below_step hB5 hB5.size hg6 (fun q e => by cases e; omega)⟩
          case measure => rw [hr6.2, hr5.2]; exact hcm.less
        · have hu : ¬ d.slot ≤ u := Int.not_le.2 (by assumption)
          go_roundw
          case rel => exact ⟨d :: came2, t2, hr5.1, hT5, hE5, Lib.hid (ld_skip hLD.out hu), hB5⟩
          case measure => rw [hr5.2]; exact hcm.less
    · intro d i w3 hcm hen
      unfold dtyv idv at hen
      have hT3 := MapIs_grown hT hcm.grown (fun e => by have e' := Option.some.inj e; omega)
      have hN3 := MapIs_grown hN hcm.grown (fun e => by have e' := Option.some.inj e; omega)
      have hK3 := grown_own hcm.grown hK (fun e => by have e' := Option.some.inj e; omega)
      have hE3 := grown_own hcm.grown hE (fun e => by have e' := Option.some.inj e; omega)
      have hB3 := below_step hB hB.size hcm.grown (fun q e => by cases e; omega)
      have hx : ∃ X, ((w3.alloc (.cells #[.int .i64 d.frm, .int .i64 d.slot] 61)).alloc (.cells #[.int .u64 i.hi, .int .u64 i.lo] 29)) = X := ⟨_, rfl⟩
      obtain ⟨X, hX⟩ := hx
      have hBX : Below w3.heap.size w3 X := by subst hX; exact ((Below.refl _ w3).alloc (Nat.le_refl _) _).alloc (by simp) _
      have x0 : X.heap[w3.heap.size]? = some (.cells #[.int .i64 d.frm, .int .i64 d.slot] 61 (0, 0)) := by subst hX; exact ha_lt (ha_at rfl)
      have x1 : X.heap[w3.heap.size + 1]? = some (.cells #[.int .u64 i.hi, .int .u64 i.lo] 29 (0, 0)) := by subst hX; exact ha_at (by simp)
      have hTX := MapIs_below hT3 hBX
      have hrX := hcm.ris.below hBX
      obtain ⟨d0, d1, _, _⟩ := blk2 x0
      obtain ⟨d2, d3, _, _⟩ := blk2 x1
      have hBx := below_call hB3 hB3.size hBX
      have hNX := MapIs_below hN3 hBX
      have hKX := bl_own hBX hK3
      have hEX := bl_own hBX hE3
      have hszX := hBX.size
      cases hg : mget t d.frm with
      | none =>
        have hvl := vlay X ⟨0, 0, ⟨0, 0⟩⟩
        dsimp only at hvl
        have hBY := hvl.1
        obtain ⟨v0, v1, v2, v3⟩ := blk4 hvl.2
        clear hvl
        have hTY := MapIs_below hTX hBY
        have hrY := hrX.1.below hBY
        have hBy := below_call hBx hBx.size hBY
        have hNY := MapIs_below hNX hBY
        have hKY := bl_own hBY hKX
        have hEY := bl_own hBY hEX
        obtain ⟨e0, e1, _, _⟩ := blk2 (bl_own hBY x0)
        obtain ⟨e2, e3, _, _⟩ := blk2 (bl_own hBY x1)
        have hszY := hBY.size
        by_cases hu : d.slot ≤ u
        · have hsk := Lib.hid (lr_put hNd'.out hLR.out hcm.mem hcm.fresh hu (fun v hv => by rw [hg] at hv; cases hv))
          have hcu : decide (d.slot ≤ u) = true := by simpa using hu
          clear hu
          go_wp2_with (first
            | (at_lookup; refine wp_lookup (x := d.frm) rfl rfl KeyI Try.underlying78 (Try.zeroValue38 _) rfl rfl hTX (r := .tuple #[.agg #[.int .i64 0, .int .i64 0, .int .u64 0, .int .u64 0], .bool false]) (by rw [hg]; rfl) ?_)
            | (at_mapUpdate; refine wp_update (ev := votev) rfl (.inl rfl) KeyI Try.underlying78 rfl (x := d.frm) rfl (v := ⟨d.frm, d.slot, i⟩) rfl hTY ?_; intro w4 hT4 hg4 hz4))
          have hr4 := hrY.1.grown hg4 (fun e => by have e' := Option.some.inj e; omega) (fun e => by have e' := Option.some.inj e; omega)
          try dsimp only [Act.put]
          go_roundw
          case rel => exact ⟨d :: came, mput t d.frm ⟨d.frm, d.slot, i⟩, hr4.1, hT4, MapIs_grown hNY hg4 (fun e => by have e' := Option.some.inj e; omega), grown_own hg4 hKY (fun e => by have e' := Option.some.inj e; omega), grown_own hg4 hEY (fun e => by have e' := Option.some.inj e; omega), hsk, below_step hBy hBy.size hg4 (fun q e => by cases e; omega)⟩
          case measure => rw [hr4.2, hrY.2, hrX.2]; exact hcm.less
        · have hsk := Lib.hid (lr_skip hLR.out hcm.mem hcm.fresh (fun h => absurd h hu))
          have hcu : decide (d.slot ≤ u) = false := by simpa using hu
          clear hu
          go_wp2_with (at_lookup; refine wp_lookup (x := d.frm) rfl rfl KeyI Try.underlying78 (Try.zeroValue38 _) rfl rfl hTX (r := .tuple #[.agg #[.int .i64 0, .int .i64 0, .int .u64 0, .int .u64 0], .bool false]) (by rw [hg]; rfl) ?_)
          go_roundw
          case rel => exact ⟨d :: came, t, hrY.1, hTY, hNY, hKY, hEY, hsk, hBy⟩
          case measure => rw [hrY.2, hrX.2]; exact hcm.less
      | some v =>
        have hvl := vlay X v
        have hBY := hvl.1
        obtain ⟨v0, v1, v2, v3⟩ := blk4 hvl.2
        clear hvl
        have hTY := MapIs_below hTX hBY
        have hrY := hrX.1.below hBY
        have hBy := below_call hBx hBx.size hBY
        have hNY := MapIs_below hNX hBY
        have hKY := bl_own hBY hKX
        have hEY := bl_own hBY hEX
        obtain ⟨e0, e1, _, _⟩ := blk2 (bl_own hBY x0)
        obtain ⟨e2, e3, _, _⟩ := blk2 (bl_own hBY x1)
        have hszY := hBY.size
        by_cases hu : d.slot ≤ u
        · have hcu : decide (d.slot ≤ u) = true := by simpa using hu
          by_cases hv : v.slot < d.slot
          · have hsk := Lib.hid (lr_put hNd'.out hLR.out hcm.mem hcm.fresh hu (fun v' hv' => by rw [hg] at hv'; cases hv'; exact hv))
            have hcv : decide (v.slot < d.slot) = true := by simpa using hv
            clear hu hv
            go_wp2_with (first
              | (at_lookup; refine wp_lookup (x := d.frm) rfl rfl KeyI Try.underlying78 (Try.zeroValue38 _) rfl rfl hTX (r := .tuple #[.agg #[.int .i64 v.frm, .int .i64 v.slot, .int .u64 v.head.hi, .int .u64 v.head.lo], .bool true]) (by rw [hg]; rfl) ?_)
              | (at_mapUpdate; refine wp_update (ev := votev) rfl (.inl rfl) KeyI Try.underlying78 rfl (x := d.frm) rfl (v := ⟨d.frm, d.slot, i⟩) rfl hTY ?_; intro w4 hT4 hg4 hz4))
            have hr4 := hrY.1.grown hg4 (fun e => by have e' := Option.some.inj e; omega) (fun e => by have e' := Option.some.inj e; omega)
            try dsimp only [Act.put]
            go_roundw
            case rel => exact ⟨d :: came, mput t d.frm ⟨d.frm, d.slot, i⟩, hr4.1, hT4, MapIs_grown hNY hg4 (fun e => by have e' := Option.some.inj e; omega), grown_own hg4 hKY (fun e => by have e' := Option.some.inj e; omega), grown_own hg4 hEY (fun e => by have e' := Option.some.inj e; omega), hsk, below_step hBy hBy.size hg4 (fun q e => by cases e; omega)⟩
            case measure => rw [hr4.2, hrY.2, hrX.2]; exact hcm.less
          · have hsk := Lib.hid (lr_skip hLR.out hcm.mem hcm.fresh (fun _ => ⟨v, hg, by omega⟩))
            have hcv : decide (v.slot < d.slot) = false := by simpa using hv
            clear hu hv
            go_wp2_with (at_lookup; refine wp_lookup (x := d.frm) rfl rfl KeyI Try.underlying78 (Try.zeroValue38 _) rfl rfl hTX (r := .tuple #[.agg #[.int .i64 v.frm, .int .i64 v.slot, .int .u64 v.head.hi, .int .u64 v.head.lo], .bool true]) (by rw [hg]; rfl) ?_)
            go_roundw
            case rel => exact ⟨d :: came, t, hrY.1, hTY, hNY, hKY, hEY, hsk, hBy⟩
            case measure => rw [hrY.2, hrX.2]; exact hcm.less
        · have hsk := Lib.hid (lr_skip hLR.out hcm.mem hcm.fresh (fun h => absurd h hu))
          have hcu : decide (d.slot ≤ u) = false := by simpa using hu
          clear hu
          go_wp2_with (at_lookup; refine wp_lookup (x := d.frm) rfl rfl KeyI Try.underlying78 (Try.zeroValue38 _) rfl rfl hTX (r := .tuple #[.agg #[.int .i64 v.frm, .int .i64 v.slot, .int .u64 v.head.hi, .int .u64 v.head.lo], .bool true]) (by rw [hg]; rfl) ?_)
          go_roundw
          case rel => exact ⟨d :: came, t, hrY.1, hTY, hNY, hKY, hEY, hsk, hBy⟩
          case measure => rw [hrY.2, hrX.2]; exact hcm.less
end Go.Proofs.Ytkccakaaklemdaa
