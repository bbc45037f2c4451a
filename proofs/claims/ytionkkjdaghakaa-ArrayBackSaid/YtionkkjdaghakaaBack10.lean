/- ArrayBack, walked. (Printed by gen_back.py.) -/
import Derived.Test.YtionkkjdaghakaaArrZ
namespace Go.Proofs.Ytionkkjdaghakaa
open Go.RowKit
theorem back_mv {a m : List Item} {id : ID} {y : Int} (hE : mvE a id y = 0) (h : MvP a id y m) : MayA m ∧ m.length = a.length ∧ -1125899906842624 ≤ y ∧ y ≤ 1125899906842624 ∧ mvE m id (-y) = 0 ∧ ∀ n, MvP m id (-y) n → n = a := by
  obtain ⟨hM, k, hk, e, e2, y1, y2, y3, y4⟩ := mvE_may hE
  have hMm := mv_may hE h
  obtain ⟨hs, hl, hsk⟩ := h.2 hE
  rw [e] at hl hsk
  simp only [Int.toNat_natCast] at hl hsk
  rw [moved_len] at hl
  have hold : ∀ i, i < a.length → (itm m i).id = (itm a i).id ∧ (itm m i).par = (itm a i).par ∧ (itm m i).own = (itm a i).own + if i = k then y else 0 := fun i hi => by
    obtain ⟨s1, s2, s3⟩ := hsk i (by omega)
    rw [s2, s3, (moved_par hk i).1, (moved_par hk i).2]
    refine ⟨?_, rfl, rfl⟩
    rw [s1]
    unfold moved
    rw [itm_set _ _ _ _ hk]
    by_cases e2 : i = k
    · subst e2; rw [if_pos rfl]
    · rw [if_neg e2]
  have hfm : findI m id = k := by
    have := plain_find hMm.2.1 (k := k) (by omega)
    rwa [(hold k hk).1, e2] at this
  have hownk : (itm m k).own = (itm a k).own + y := by rw [(hold k hk).2.2, if_pos rfl]
  have hok := (hM.2.1 k hk).2.2.2.2
  have hE2 : mvE m id (-y) = 0 := by
    unfold mvE
    rw [if_neg (fun h => h hMm), hfm, if_neg (by omega)]
    simp only [Int.toNat_natCast]
    exact if_neg (by omega)
  refine ⟨hMm, hl, y1, y2, hE2, fun n hn => ?_⟩
  obtain ⟨ns, nl, nsk⟩ := hn.2 hE2
  rw [hfm] at nl nsk
  simp only [Int.toNat_natCast] at nl nsk
  rw [moved_len] at nl
  have hkm : k < m.length := by omega
  refine (settled_uniq hM.2.1.parOk ⟨by omega, fun i hi => ?_⟩ hM.2.2 ns).symm
  obtain ⟨s1, s2, s3⟩ := nsk i (by omega)
  obtain ⟨t1, t2, t3⟩ := hold i hi
  rw [s2, s3, (moved_par hkm i).1, (moved_par hkm i).2, t2, t3]
  refine ⟨?_, rfl, ?_⟩
  · rw [s1, ← t1]
    unfold moved
    rw [itm_set _ _ _ _ hkm]
    by_cases e2 : i = k
    · subst e2; rw [if_pos rfl]
    · rw [if_neg e2]
  · by_cases e2 : i = k
    · subst e2; rw [if_pos rfl, if_pos rfl]; omega
    · rw [if_neg e2, if_neg e2]; omega
set_option maxRecDepth 100000 in
set_option maxHeartbeats 8000000 in
theorem back10_any (a : List Item) (id par : ID) (y : Int) (A : Option Addr) (c : Nat) (w : World) (hr : Rd 7 encItem w A a) (hN : A = none → c = 0) :
    Calls Try.prog 5 #[.slice A a.length c, idv id, idv par, .int .i64 y] w fun e w' => e = .returned (.bool true) ∧ Below w.heap.size w w' := by
  have hm := hr.1
  have haw := fun V => awake10_any V
  have hWs : ∃ W, (w.alloc (.cells #[.int .u64 id.hi, .int .u64 id.lo] 25)).alloc (.cells #[.int .u64 par.hi, .int .u64 par.lo] 25) = W := ⟨_, rfl⟩
  obtain ⟨W, hW⟩ := hWs
  have hB : Below w.heap.size w W := by subst hW; exact ((Below.refl _ w).alloc (Nat.le_refl _) _).alloc (by simp) _
  have b0 : W.heap[w.heap.size]? = some (.cells #[.int .u64 id.hi, .int .u64 id.lo] 25 (0, 0)) := by subst hW; exact ha_lt (ha_at rfl)
  have b1 : W.heap[w.heap.size + 1]? = some (.cells #[.int .u64 par.hi, .int .u64 par.lo] 25 (0, 0)) := by subst hW; exact ha_at (by simp)
  by_cases h70 : a.length ≤ 70
  · have hmv := fun V (hV : Below w.heap.size w V) => move_any a id y (by omega) A c V (hr.below hV) hN
    have hins := fun V (hV : Below w.heap.size w V) => insert_any a id par (by omega) A c V (hr.below hV) hN
    have hbk := fun hE m h => back_mv (a := a) (id := id) (y := y) (m := m) hE h
    have him := fun hE l h => ins_may (a := a) (id := id) (par := par) (l := l) hE h
    have hmv2 := fun (m : List Item) (hl : m.length ≤ 100) B d V (hR : Rd 7 encItem V B m) (hBN : B = none → d = 0) => move_any m id (-y) hl B d V hR hBN
    have hsame := fun (l : List Item) B d V (hV : Below w.heap.size w V) (hR : Rd 7 encItem V B l) => same_any l a B A d c V hR (hr.below hV)
    have hmayX := fun (l : List Item) B d V (hR : Rd 7 encItem V B l) => may10_any l B d V hR
    have hfl : insE a id par = 0 → findI a id = -1 := fun h => (insE_may h).2.2.1
    obtain ⟨E, hE⟩ : ∃ E, insE a id par = E := ⟨_, rfl⟩
    obtain ⟨F, hF⟩ : ∃ F, mvE a id y = F := ⟨_, rfl⟩
    rw [hE] at hins him
    rw [hF] at hmv hbk
    have hbk' := Lib.hid hbk
    have him' := Lib.hid him
    have hEe := Lib.hid hE
    have hFe := Lib.hid hF
    clear hE hF hbk him hfl
    have hneq := neq_idw id id
    rw [decide_eq_true (rfl : id = id)] at hneq
    unfold idv at *
    by_cases hF0 : F = 0
    · subst hF0
      by_cases hE0 : E = 0
      · subst hE0
        go_enter Try.func5, Try.ntmps5
        go_wp2_with (first
          | (go_at_call 9; refine (haw _).mono ?_; clear haw; rintro e w1 ⟨rfl, hb1⟩; have hB1 := below_call hB hB.size hb1; have c0 := bl_own hb1 b0; have c1 := bl_own hb1 b1; obtain ⟨p0, p1, _, _⟩ := blk2 c0)
          | (go_at_call 13; (with_reducible refine Calls.mono (hmv _ hB1) ?_); clear hmv; rintro e w2 ⟨⟨l2, v2, rfl, ho2, hp2, _⟩, hb2⟩; have hB2 := below_call hB1 hB1.size hb2; obtain ⟨A2, k2, hv2, hR2, hN2⟩ := ho2.rdn encItem_len; subst hv2; have d0 := bl_own hb2 c0; have d1 := bl_own hb2 c1; obtain ⟨q0, q1, _, _⟩ := blk2 d0; obtain ⟨q2, q3, _, _⟩ := blk2 d1; obtain ⟨hMm, hml, hy1, hy2, hE2, hna⟩ := hbk'.out trivial l2 hp2; have hm60 := hMm.1; have hmv3 := hmv2 l2 (by omega) A2 k2 w2 hR2 hN2; rw [hE2] at hmv3; have hyn : IntKind.i64.wrap (-y) = -y := Go.IntWalk.i64_in _ (by omega); clear hmv2 hml)
          | (go_at_call 13; (with_reducible refine Calls.mono hmv3 ?_); clear hmv3; rintro e w3 ⟨⟨l3, v3, rfl, ho3, hp3, _⟩, hb3⟩; have hB3 := below_call hB2 hB2.size hb3; obtain ⟨A3, k3, hv3, hR3⟩ := ho3.rd encItem_len; subst hv3; have e0 := bl_own hb3 d0; have e1 := bl_own hb3 d1; have hR2' := hR2.below hb3; have hee := hna l3 hp3; have hsm := hsame l3 A3 k3 w3 hB3 hR3; rw [decide_eq_true hee] at hsm; clear hna hee)
          | (go_at_call 15; (with_reducible refine Calls.mono hsm ?_); clear hsm; rintro e w4 ⟨rfl, hb4⟩; have hB4 := below_call hB3 hB3.size hb4; have f0 := bl_own hb4 e0; have f1 := bl_own hb4 e1; have hR2a := hR2'.below hb4; have hmm := hmayX l2 A2 k2 w4 hR2a; rw [decide_eq_true hMm] at hmm)
          | (go_at_call 16; (with_reducible refine Calls.mono hmm ?_); clear hmm; rintro e w5 ⟨rfl, hb5⟩; have hB5 := below_call hB4 hB4.size hb5; have g0 := bl_own hb5 f0; have g1 := bl_own hb5 f1; obtain ⟨s0, s1, _, _⟩ := blk2 g0; obtain ⟨s2, s3, _, _⟩ := blk2 g1)
          | (go_at_call 11; (with_reducible refine Calls.mono (hins _ hB5) ?_); clear hins; rintro e w6 ⟨⟨l6, v6, rfl, ho6, hp6, hw6⟩, hb6⟩; have hB6 := below_call hB5 hB5.size hb6; obtain ⟨A6, k6, hv6, hR6⟩ := ho6.rd encItem_len; subst hv6; have h0 := bl_own hb6 g0))
        obtain ⟨hMl, hll, hold, n1, n2, n3⟩ := him'.out trivial l6 hp6
        have hw := hw6 trivial
        have hld := Lib.hid hold
        have hwd := Lib.hid hw
        obtain ⟨t0, t1, _, _⟩ := blk2 h0
        obtain ⟨g, cap, hv⟩ := ho6.lies (by omega)
        injection hv with hv1 hv2 hv3
        subst hv1
        subst hv3
        clear hv2
        have hmx := fun p => hmayX l6 (some ⟨g, 0, none⟩) k6 (gr w6 p) (hR6.below (gr_below w6 p))
        rw [decide_eq_true hMl] at hmx
        obtain ⟨x0, x1, _, x3, _, _, _⟩ := ho6.atItem (i := a.length) (by omega)
        rw [n1] at x0 x1
        rw [n3] at x3
        have hBg : ∀ p, Below w.heap.size w (gr w6 p) := fun p => hB6.trans ((gr_below w6 p).mono hB6.size)
        have z0 := gr_cell t0
        have z1 := gr_cell t1
        have z2 := gr_cell x0
        have z3 := gr_cell x1
        have z4 := gr_cell x3
        rw [hll] at hmx ⊢
        have hadd : IntKind.i64.wrap ((a.length : Int) + 1) = (a.length : Int) + 1 := Go.IntWalk.i64_in _ (by omega)
        have hog := fun p => ho6.below (gr_below w6 p)
        have hll' := Lib.hid hll
        clear hold hw hp6 hw6 n1 n2 n3 hMl hsame hmayX hll him' hR6
        go_wp2_with fail
        refine wp_region_gr (by kernel_rfl) (by kernel_rfl) ?_
        repeat (go_big_quiet_step ((go_at_call 16; with_reducible exact Calls.gr_of (hmx _))))
        refine wpQuiet_nil ?_
        rintro _ ⟨pq, rfl⟩
        have hBX := hBg pq
        have hoX := hog pq
        generalize gr w6 pq = X at hBX hoX ⊢
        clear z0 z1 z2 z3 z4 hBg hog hmx
        go_wp2_with fail
        go_loopw [17] (fun i wr => ∃ k : Nat, k ≤ a.length ∧ i = .int .i64 k ∧ Below X.heap.size X wr) (fun i _ => a.length - (intOf i).toNat)
        case atStart => exact ⟨0, Nat.zero_le _, rfl, Below.refl _ _⟩
        case round =>
          obtain ⟨k, hk, rfl, hBW⟩ := hrel
          have hBr := below_call hBX hBX.size hBW
          by_cases hlt : k < a.length
          · have hlt6 : k < l6.length := by rw [hll'.out]; omega
            obtain ⟨o1, o2, o3⟩ := hld.out k hlt
            have o4 := hwd.out k hlt
            obtain ⟨u0, u1, u2, u3, u4, _, _⟩ := (hoX.below hBW).atItem hlt6
            rw [o1] at u0 u1
            rw [o2] at u2
            rw [o3] at u3
            rw [o4] at u4
            obtain ⟨bb, oo, rfl, _, v0, v1, v2, v3, v4, _, _⟩ := (hr.below hBr).atItem hlt
            have hneq2 := neq_idw (itm a k).id (itm a k).id
            rw [decide_eq_true (rfl : (itm a k).id = (itm a k).id)] at hneq2
            have hlt7 : k < a.length + 1 := by omega
            have z0 := gr_cell u0
            have z1 := gr_cell u1
            have z2 := gr_cell u2
            have z3 := gr_cell u3
            have z4 := gr_cell u4
            have y0 := gr_cell v0
            have y1 := gr_cell v1
            have y2 := gr_cell v2
            have y3 := gr_cell v3
            have y4 := gr_cell v4
            clear o1 o2 o3 o4 hlt6
            go_wp2_with fail
            refine wp_region_gr (by kernel_rfl) (by kernel_rfl) ?_
            repeat (go_big_quiet_step (fail))
            refine wpQuiet_nil ?_
            rintro _ ⟨pr, rfl⟩
            go_wp2_with fail
            go_roundw
            case rel => exact ⟨k + 1, hlt, by go_num, hBW.trans ((gr_below _ _).mono hBW.size)⟩
            case measure => simp [intOf]; omega
          · obtain rfl : k = a.length := by omega
            go_wp2_with fail
            go_ret
            exact ⟨rfl, hBr⟩
      · have hdE : (E != 0) = true := by simpa using hE0
        have hE0' := Lib.hid hE0
        clear hE0
        go_enter Try.func5, Try.ntmps5
        go_wp2_with (first
          | (go_at_call 9; refine (haw _).mono ?_; clear haw; rintro e w1 ⟨rfl, hb1⟩; have hB1 := below_call hB hB.size hb1; have c0 := bl_own hb1 b0; have c1 := bl_own hb1 b1; obtain ⟨p0, p1, _, _⟩ := blk2 c0)
          | (go_at_call 13; (with_reducible refine Calls.mono (hmv _ hB1) ?_); clear hmv; rintro e w2 ⟨⟨l2, v2, rfl, ho2, hp2, _⟩, hb2⟩; have hB2 := below_call hB1 hB1.size hb2; obtain ⟨A2, k2, hv2, hR2, hN2⟩ := ho2.rdn encItem_len; subst hv2; have d0 := bl_own hb2 c0; have d1 := bl_own hb2 c1; obtain ⟨q0, q1, _, _⟩ := blk2 d0; obtain ⟨q2, q3, _, _⟩ := blk2 d1; obtain ⟨hMm, hml, hy1, hy2, hE2, hna⟩ := hbk'.out trivial l2 hp2; have hm60 := hMm.1; have hmv3 := hmv2 l2 (by omega) A2 k2 w2 hR2 hN2; rw [hE2] at hmv3; have hyn : IntKind.i64.wrap (-y) = -y := Go.IntWalk.i64_in _ (by omega); clear hmv2 hml)
          | (go_at_call 13; (with_reducible refine Calls.mono hmv3 ?_); clear hmv3; rintro e w3 ⟨⟨l3, v3, rfl, ho3, hp3, _⟩, hb3⟩; have hB3 := below_call hB2 hB2.size hb3; obtain ⟨A3, k3, hv3, hR3⟩ := ho3.rd encItem_len; subst hv3; have e0 := bl_own hb3 d0; have e1 := bl_own hb3 d1; have hR2' := hR2.below hb3; have hee := hna l3 hp3; have hsm := hsame l3 A3 k3 w3 hB3 hR3; rw [decide_eq_true hee] at hsm; clear hna hee)
          | (go_at_call 15; (with_reducible refine Calls.mono hsm ?_); clear hsm; rintro e w4 ⟨rfl, hb4⟩; have hB4 := below_call hB3 hB3.size hb4; have f0 := bl_own hb4 e0; have f1 := bl_own hb4 e1; have hR2a := hR2'.below hb4; have hmm := hmayX l2 A2 k2 w4 hR2a; rw [decide_eq_true hMm] at hmm)
          | (go_at_call 16; (with_reducible refine Calls.mono hmm ?_); clear hmm; rintro e w5 ⟨rfl, hb5⟩; have hB5 := below_call hB4 hB4.size hb5; have g0 := bl_own hb5 f0; have g1 := bl_own hb5 f1; obtain ⟨s0, s1, _, _⟩ := blk2 g0; obtain ⟨s2, s3, _, _⟩ := blk2 g1)
          | (go_at_call 11; (with_reducible refine Calls.mono (hins _ hB5) ?_); clear hins; rintro e w6 ⟨⟨l6, v6, rfl, ho6, hp6, hw6⟩, hb6⟩; have hB6 := below_call hB5 hB5.size hb6; obtain ⟨A6, k6, hv6, hR6⟩ := ho6.rd encItem_len; subst hv6; have h0 := bl_own hb6 g0; have hnil := hp6.1 (by rw [hEe.out]; exact hE0'.out); subst hnil))
        go_ret
        exact ⟨ret_bool (by simp), hB6⟩
    · have hdF : (F == 0) = false := by simpa using hF0
      have hdF2 : decide (F = 0) = false := by simpa using hF0
      clear hF0
      by_cases hE0 : E = 0
      · subst hE0
        go_enter Try.func5, Try.ntmps5
        go_wp2_with (first
          | (go_at_call 9; refine (haw _).mono ?_; clear haw; rintro e w1 ⟨rfl, hb1⟩; have hB1 := below_call hB hB.size hb1; have c0 := bl_own hb1 b0; have c1 := bl_own hb1 b1; obtain ⟨p0, p1, _, _⟩ := blk2 c0)
          | (go_at_call 13; (with_reducible refine Calls.mono (hmv _ hB1) ?_); clear hmv; rintro e w2 ⟨⟨l2, v2, rfl, ho2, hp2, _⟩, hb2⟩; have hB2 := below_call hB1 hB1.size hb2; obtain ⟨A2, k2, hv2, hR2, hN2⟩ := ho2.rdn encItem_len; subst hv2; have d0 := bl_own hb2 c0; have d1 := bl_own hb2 c1; obtain ⟨q0, q1, _, _⟩ := blk2 d0; obtain ⟨q2, q3, _, _⟩ := blk2 d1)
          | (go_at_call 11; (with_reducible refine Calls.mono (hins _ hB2) ?_); clear hins; rintro e w6 ⟨⟨l6, v6, rfl, ho6, hp6, hw6⟩, hb6⟩; have hB6 := below_call hB2 hB2.size hb6; obtain ⟨A6, k6, hv6, hR6⟩ := ho6.rd encItem_len; subst hv6; have h0 := bl_own hb6 d0))
        obtain ⟨hMl, hll, hold, n1, n2, n3⟩ := him'.out trivial l6 hp6
        have hw := hw6 trivial
        have hld := Lib.hid hold
        have hwd := Lib.hid hw
        obtain ⟨t0, t1, _, _⟩ := blk2 h0
        obtain ⟨g, cap, hv⟩ := ho6.lies (by omega)
        injection hv with hv1 hv2 hv3
        subst hv1
        subst hv3
        clear hv2
        have hmx := fun p => hmayX l6 (some ⟨g, 0, none⟩) k6 (gr w6 p) (hR6.below (gr_below w6 p))
        rw [decide_eq_true hMl] at hmx
        obtain ⟨x0, x1, _, x3, _, _, _⟩ := ho6.atItem (i := a.length) (by omega)
        rw [n1] at x0 x1
        rw [n3] at x3
        have hBg : ∀ p, Below w.heap.size w (gr w6 p) := fun p => hB6.trans ((gr_below w6 p).mono hB6.size)
        have z0 := gr_cell t0
        have z1 := gr_cell t1
        have z2 := gr_cell x0
        have z3 := gr_cell x1
        have z4 := gr_cell x3
        rw [hll] at hmx ⊢
        have hadd : IntKind.i64.wrap ((a.length : Int) + 1) = (a.length : Int) + 1 := Go.IntWalk.i64_in _ (by omega)
        have hog := fun p => ho6.below (gr_below w6 p)
        have hll' := Lib.hid hll
        clear hold hw hp6 hw6 n1 n2 n3 hMl hsame hmayX hll him' hR6
        go_wp2_with fail
        refine wp_region_gr (by kernel_rfl) (by kernel_rfl) ?_
        repeat (go_big_quiet_step ((go_at_call 16; with_reducible exact Calls.gr_of (hmx _))))
        refine wpQuiet_nil ?_
        rintro _ ⟨pq, rfl⟩
        have hBX := hBg pq
        have hoX := hog pq
        generalize gr w6 pq = X at hBX hoX ⊢
        clear z0 z1 z2 z3 z4 hBg hog hmx
        go_wp2_with fail
        go_loopw [17] (fun i wr => ∃ k : Nat, k ≤ a.length ∧ i = .int .i64 k ∧ Below X.heap.size X wr) (fun i _ => a.length - (intOf i).toNat)
        case atStart => exact ⟨0, Nat.zero_le _, rfl, Below.refl _ _⟩
        case round =>
          obtain ⟨k, hk, rfl, hBW⟩ := hrel
          have hBr := below_call hBX hBX.size hBW
          by_cases hlt : k < a.length
          · have hlt6 : k < l6.length := by rw [hll'.out]; omega
            obtain ⟨o1, o2, o3⟩ := hld.out k hlt
            have o4 := hwd.out k hlt
            obtain ⟨u0, u1, u2, u3, u4, _, _⟩ := (hoX.below hBW).atItem hlt6
            rw [o1] at u0 u1
            rw [o2] at u2
            rw [o3] at u3
            rw [o4] at u4
            obtain ⟨bb, oo, rfl, _, v0, v1, v2, v3, v4, _, _⟩ := (hr.below hBr).atItem hlt
            have hneq2 := neq_idw (itm a k).id (itm a k).id
            rw [decide_eq_true (rfl : (itm a k).id = (itm a k).id)] at hneq2
            have hlt7 : k < a.length + 1 := by omega
            have z0 := gr_cell u0
            have z1 := gr_cell u1
            have z2 := gr_cell u2
            have z3 := gr_cell u3
            have z4 := gr_cell u4
            have y0 := gr_cell v0
            have y1 := gr_cell v1
            have y2 := gr_cell v2
            have y3 := gr_cell v3
            have y4 := gr_cell v4
            clear o1 o2 o3 o4 hlt6
            go_wp2_with fail
            refine wp_region_gr (by kernel_rfl) (by kernel_rfl) ?_
            repeat (go_big_quiet_step (fail))
            refine wpQuiet_nil ?_
            rintro _ ⟨pr, rfl⟩
            go_wp2_with fail
            go_roundw
            case rel => exact ⟨k + 1, hlt, by go_num, hBW.trans ((gr_below _ _).mono hBW.size)⟩
            case measure => simp [intOf]; omega
          · obtain rfl : k = a.length := by omega
            go_wp2_with fail
            go_ret
            exact ⟨rfl, hBr⟩
      · have hdE : (E != 0) = true := by simpa using hE0
        have hE0' := Lib.hid hE0
        clear hE0
        go_enter Try.func5, Try.ntmps5
        go_wp2_with (first
          | (go_at_call 9; refine (haw _).mono ?_; clear haw; rintro e w1 ⟨rfl, hb1⟩; have hB1 := below_call hB hB.size hb1; have c0 := bl_own hb1 b0; have c1 := bl_own hb1 b1; obtain ⟨p0, p1, _, _⟩ := blk2 c0)
          | (go_at_call 13; (with_reducible refine Calls.mono (hmv _ hB1) ?_); clear hmv; rintro e w2 ⟨⟨l2, v2, rfl, ho2, hp2, _⟩, hb2⟩; have hB2 := below_call hB1 hB1.size hb2; obtain ⟨A2, k2, hv2, hR2, hN2⟩ := ho2.rdn encItem_len; subst hv2; have d0 := bl_own hb2 c0; have d1 := bl_own hb2 c1; obtain ⟨q0, q1, _, _⟩ := blk2 d0; obtain ⟨q2, q3, _, _⟩ := blk2 d1)
          | (go_at_call 11; (with_reducible refine Calls.mono (hins _ hB2) ?_); clear hins; rintro e w6 ⟨⟨l6, v6, rfl, ho6, hp6, hw6⟩, hb6⟩; have hB6 := below_call hB2 hB2.size hb6; obtain ⟨A6, k6, hv6, hR6⟩ := ho6.rd encItem_len; subst hv6; have h0 := bl_own hb6 d0; have hnil := hp6.1 (by rw [hEe.out]; exact hE0'.out); subst hnil))
        go_ret
        exact ⟨ret_bool (by simp), hB6⟩
  · have h71 : 70 < a.length := by omega
    unfold idv at *
    clear h70
    go_enter Try.func5, Try.ntmps5
    go_wp2_with (go_at_call 9; refine (haw _).mono ?_; clear haw; rintro e w1 ⟨rfl, hb1⟩; have hB1 := below_call hB hB.size hb1; have c0 := bl_own hb1 b0; have c1 := bl_own hb1 b1; obtain ⟨p0, p1, _, _⟩ := blk2 c0)
    go_ret
    exact ⟨rfl, hB1⟩
theorem back10_walk (A : Option Addr) (a : List Item) (c : Nat) (id par : ID) (y : Int) (w : World) (_ : a.length ≤ c) (_ : c ≤ maxLen) (hr : Rd 7 encItem w A a) (_ : ∀ x ∈ a, x.Ok) (hN : A = none → c = 0) (_ : id.Ok) (_ : par.Ok) (_ : I64 y) :
    Calls Try.prog 5 #[.slice A a.length c, idv id, idv par, .int .i64 y] w fun e w' => e = .returned (.bool true) ∧ Below w.heap.size w w' :=
  back10_any a id par y A c w hr hN
end Go.Proofs.Ytionkkjdaghakaa
