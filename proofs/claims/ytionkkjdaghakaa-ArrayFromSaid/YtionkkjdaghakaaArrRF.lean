/- marigoldref10.From, walked. -/
import Derived.Test.YtionkkjdaghakaaArrW
namespace Go.Proofs.Ytionkkjdaghakaa
open Go.RowKit
set_option maxRecDepth 100000 in
set_option maxHeartbeats 1000000 in
theorem rtmay_any (l : List Blk) (A : Option Addr) (c : Nat) (w : World) (hr : Rd 5 encBlk w A l) (hok : ∀ b ∈ l, b.Ok) (hl : l.length ≤ 100000) :
    Calls Try.prog 36 #[.slice A l.length c] w fun e w' => e = .returned (.bool (mayB l)) ∧ Below w.heap.size w w' := by
  have hnames := rnames_any l A c w hr hok hl
  have hnl : (names l).length = l.length := by simp [names]
  have hmay := fun N d V (hV : Below w.heap.size w V) hn hd => rmay_any l A N c d V (hr.below hV) hn hd hl
  go_enter Try.func36, Try.ntmps36
  go_wp2_with (first
    | (go_at_call 37; refine hnames.mono ?_; clear hnames; rintro e w1 ⟨v, rfl, ho, hb1⟩; obtain ⟨N, d, hv, hR, hd⟩ := (show ∃ A c, v = .slice A (names l).length c ∧ Rd 2 encID w1 A (names l) ∧ (names l).length ≤ c from by obtain ⟨A, c, h1, h2, h3⟩ := ho.rdc encID_len; exact ⟨A, c, h1, h3, h2⟩); rw [hnl] at hv hd; subst hv)
    | (go_at_call 47; refine (hmay N d w1 hb1 hR hd).mono ?_; clear hmay; rintro e w2 ⟨rfl, hb2⟩; have hB2 := below_call hb1 hb1.size hb2))
  go_ret
  exact ⟨rfl, hB2⟩
set_option maxRecDepth 100000 in
set_option maxHeartbeats 4000000 in
theorem rfrom_any (c : Cfg) (l : List Blk) (vs : List Vote) (hok : ∀ b ∈ l, b.Ok) (hl2 : l.length ≤ 100000) (A A2 A3 : Option Addr) (k k2 k3 : Nat) (w : World) (hr : Rd 1 encI w A c.W) (hr2 : Rd 5 encBlk w A2 l) (hr3 : Rd 4 encVote w A3 vs) :
    Calls Try.prog 21 #[cfgv A k c, .slice A2 l.length k2, .slice A3 vs.length k3] w fun e w' => (∃ r v, e = .returned v ∧ Own w' w.heap.size 43 7 encItem v r ∧ FromP c l vs r) ∧ Below w.heap.size w w' := by
  have hm := hr.1
  have hm2 := hr2.1
  have hm3 := hr3.1
  have hun := Try.underlying22
  have hmay := fun V (hV : Below w.heap.size w V) => rcmay_any c A k V (hr.below hV)
  have htm := fun V (hV : Below w.heap.size w V) => rtmay_any l A2 k2 V (hr2.below hV) hok hl2
  have hnames := fun V (hV : Below w.heap.size w V) => rnames_any l A2 k2 V (hr2.below hV) hok hl2
  have hyes : ∀ r, FromOk c l → Settled r → SameSk r (votesOf c.W vs (blocksOf l)) → FromP c l vs r := fun r h1 h2 h3 => ⟨fun _ => ⟨h2, h3⟩, fun h => absurd h1 h⟩
  have hno : ¬ FromOk c l → FromP c l vs [] := fun h => ⟨fun h2 => absurd h2 h, fun _ => rfl⟩
  have hbk : ∀ j, (blocksOf (l.take j)).length = (l.take j).length ∧ SkOk (blocksOf (l.take j)) := fun j => ⟨(blocksOf_ok _).1, blocksOf_sk _⟩
  have hnl : (names l).length = l.length := by simp [names]
  have hnat : ∀ j (h : j < l.length), (names l)[j]'(by rw [hnl]; exact h) = nameOf l[j] := fun j h => by simp [names]
  generalize FromP c l vs = FP at hyes hno ⊢
  unfold cfgv at *
  have hW : ∃ W, w.alloc (.cells #[.slice A c.W.length k, .int .u64 c.seed, .int .i64 c.epoch, .int .i64 c.num, .int .i64 c.den] 37) = W := ⟨_, rfl⟩
  obtain ⟨W, hW⟩ := hW
  have hB : Below w.heap.size w W := by subst hW; exact (Below.refl _ w).alloc (Nat.le_refl _) _
  have b0 : W.heap[w.heap.size]? = some (.cells #[.slice A c.W.length k, .int .u64 c.seed, .int .i64 c.epoch, .int .i64 c.num, .int .i64 c.den] 37 (0, 0)) := by subst hW; exact ha_at rfl
  obtain ⟨c0, c1, c2, c3, c4⟩ := blk5 b0
  by_cases hM : MayC c
  · rw [decide_eq_true hM] at hmay
    by_cases hT : Tree l
    · have hTb : mayB l = true := by simp [mayB, hT]
      rw [hTb] at htm
      by_cases h60 : l.length ≤ 60
      · have hyes' := Lib.hid (fun r => hyes r ⟨hM, hT, h60⟩)
        have hMW := hM.1.2.2
        have hMl := hM.1.2.1
        have hbk' := Lib.hid hbk
        clear hyes hno hTb hT hM hbk
        go_enter Try.func21, Try.ntmps21
        go_wp2_with (first
          | (go_at_call 35; refine (hmay _ hB).mono ?_; clear hmay; rintro e w1 ⟨rfl, hb1⟩; have hB1 := below_call hB hB.size hb1; have b1 := bl_own hb1 b0)
          | (go_at_call 36; refine (htm _ hB1).mono ?_; clear htm; rintro e w2 ⟨rfl, hb2⟩; have hB2 := below_call hB1 hB1.size hb2; have b2 := bl_own hb2 b1)
          | (go_at_call 37; refine (hnames _ hB2).mono ?_; clear hnames; rintro e w3 ⟨vn, rfl, hon, hb3⟩; have hB3 := below_call hB2 hB2.size hb3; have b3 := bl_own hb3 b2; obtain ⟨An, kn, hvn, hRn⟩ := hon.rd encID_len; rw [hnl] at hvn; subst hvn; clear hon))
        clear b0 b1 b2 c0 c1 c2 c3 c4 hb1 hb2 hb3 hB2 hB1 hB
        go_loopw [9, 11] (fun v i wr => ∃ j : Nat, j ≤ l.length ∧ i = .int .i64 j ∧ Own wr w3.heap.size 43 7 encItem v (blocksOf (l.take j)) ∧ Below w3.heap.size w3 wr) (fun _ i _ => l.length - (intOf i).toNat)
        case atStart => exact ⟨0, Nat.zero_le _, rfl, Own.nil _ _ _ _ _, Below.refl _ _⟩
        case round =>
          obtain ⟨j, hj, rfl, ho, hBr⟩ := hrel
          have hBw := below_call hB3 hB3.size hBr
          by_cases hlt : j < l.length
          · obtain ⟨b', o, rfl, _, c0, c1, c2, c3, c4⟩ := (hr2.below hBw).atBlk hlt
            obtain ⟨bn, on, rfl, _, d0, d1⟩ := (hRn.below hBr).atID (i := j) (by rw [hnl]; exact hlt)
            rw [hnat j hlt] at d0 d1
            obtain ⟨x, hxe⟩ : ∃ x, l[j] = x := ⟨_, rfl⟩
            have htk : blocksOf (l.take (j + 1)) = blkA (blocksOf (l.take j)) x := by rw [← hxe]; exact take_foldl blkA [] l hlt
            rw [hxe] at c0 c1 c2 c3 c4 d0 d1
            have e1 := (hbk'.out j).1
            have e1' : (blocksOf (l.take j)).length ≤ 60 := by rw [e1]; simp; omega
            have htk' : blkA (blocksOf (l.take j)) x = blocksOf (l.take j) ++ [bareItem (nameOf x) (findI (blocksOf (l.take j)) x.par)] := rfl
            rw [htk'] at htk
            obtain ⟨acc, hacc⟩ : ∃ acc, blocksOf (l.take j) = acc := ⟨_, rfl⟩
            rw [hacc] at ho e1' htk
            obtain ⟨Ar, cr, hv, hR⟩ := ho.rd encItem_len
            have hfind := fun V (hV : Below wr.heap.size wr V) => rfind_any acc x.par Ar cr V (hR.below hV)
            obtain ⟨f, hf⟩ : ∃ f, findI acc x.par = f := ⟨_, rfl⟩
            obtain ⟨nx, hnx⟩ : ∃ nx, nameOf x = nx := ⟨_, rfl⟩
            rw [hf] at hfind htk
            rw [hnx] at d0 d1 htk
            have htk2 := Lib.hid htk
            subst hv
            have hr0 : ∀ q, (Value.slice Ar acc.length cr).ownBlock = some q → w3.heap.size ≤ q := fun q hq => (ho.base q hq).1
            have hKD : Below wr.heap.size wr wr.drew := (Below.refl _ wr).drew
            have hbb : (acc.length + 1) * 56 ≤ 140737488355328 := by omega
            have hll : acc.length + 1 ≤ maxLen := by unfold maxLen; omega
            have hln : j < l.length := hlt
            have hst := Lib.hid (show ∀ V, Below w3.heap.size w3 V → V.cell? ⟨bn, on + j * 2, none⟩ = some (.int .u64 nx.hi) ∧ V.cell? ⟨bn, on + j * 2 + 1, none⟩ = some (.int .u64 nx.lo) ∧ V.cell? ⟨b', o + j * 5 + 2, none⟩ = some (.int .u64 x.par.hi) ∧ V.cell? ⟨b', o + j * 5 + 3, none⟩ = some (.int .u64 x.par.lo) from fun V hV => by
              obtain ⟨p1, p2, he, _, q0, q1⟩ := (hRn.below hV).atID (i := j) (by rw [hnl]; exact hlt)
              cases he
              obtain ⟨p3, p4, he, _, _, _, q2, q3, _⟩ := (hr2.below (below_call hB3 hB3.size hV)).atBlk hlt
              cases he
              rw [hnat j hlt, hxe, hnx] at q0 q1
              rw [hxe] at q2 q3
              exact ⟨q0, q1, q2, q3⟩)
            have hstg := Lib.hid (show ∀ V V2, Below wr.heap.size wr V → V.grownBy V2 (Value.slice Ar acc.length cr).ownBlock → w3.heap.size ≤ V.heap.size → Below w3.heap.size w3 V2 from fun V V2 hV hg hs => below_step (below_call hBr hBr.size hV) hs hg hr0)
            clear hf hnx htk htk' e1 hxe hacc hRn
            unfold idv at hfind
            go_wp2_with fail
            go_region_held3 (fun W' => W'.cell? ⟨bn, on + j * 2, none⟩ = some (.int .u64 nx.hi) ∧ W'.cell? ⟨bn, on + j * 2 + 1, none⟩ = some (.int .u64 nx.lo) ∧ W'.cell? ⟨b', o + j * 5 + 2, none⟩ = some (.int .u64 x.par.hi) ∧ W'.cell? ⟨b', o + j * 5 + 3, none⟩ = some (.int .u64 x.par.lo))
              (first | exact ⟨d0, d1, c2, c3⟩ | exact hst.out _ hB6 | exact hst.out _ hQY | exact hst.out _ hQz) ((first
              | (go_at_call 22; refine Calls.mono (hfind wr.drew hKD) ?_; rintro e wz ⟨rfl, hbz⟩; have hKz := below_call hKD hKD.size hbz; have hQz := below_call hBr hBr.size hKz; obtain ⟨Y, hY⟩ : ∃ Y, wz.alloc (.cells #[.int .u64 nx.hi, .int .u64 nx.lo, .int .i64 f, .int .i64 0, .int .i64 0, .int .i64 0, .int .i64 0] 43) = Y := ⟨_, rfl⟩; have hKY : Below wr.heap.size wr Y := (by subst hY; exact hKz.alloc hKz.size _); have hQY := below_call hBr hBr.size hKY; have hoY := ho.below hKY; have hxY : Y.heap[wz.heap.size]? = some (.cells #[.int .u64 nx.hi, .int .u64 nx.lo, .int .i64 f, .int .i64 0, .int .i64 0, .int .i64 0, .int .i64 0] 43 (0, 0)) := (by subst hY; exact ha_at rfl); have hsY : w3.heap.size ≤ Y.heap.size := Nat.le_trans hBr.size hKY.size)
              | (with_reducible refine step_append1 (w := Y) (by with_unfolding_all rfl) (by with_unfolding_all rfl) hun infoIt (by with_unfolding_all rfl) (by decide) encItem_len encItem_one (by with_unfolding_all rfl) hoY (c := 1) (by with_unfolding_all rfl) (y := bareItem nx f) hxY (by with_unfolding_all rfl) hbb hll hsY ?_; intro v6 w6 ho6 hg6 hat6; have hB6 := hstg.out Y w6 hKY hg6 hsY)))
            rw [← htk2.out] at ho6
            clear hoY hxY hfind
            go_wp2_with fail
            go_roundw
            case rel => exact ⟨j + 1, hlt, by go_num, ho6, hB6⟩
            case measure => simp [intOf]; omega
          · obtain rfl : j = l.length := by omega
            rw [List.take_length] at ho
            have hbl := (hbk'.out l.length).1
            have hbs := (hbk'.out l.length).2
            rw [List.take_length] at hbl hbs
            have hbl2 : (blocksOf l).length ≤ 60 := by omega
            have hbs' := Lib.hid hbs
            clear hbl hbs
            go_wp2_with fail
            go_loopw [12, 13] (fun i x13 wv => ∃ j : Nat, j ≤ vs.length ∧ i = .int .i64 j ∧ Own wv w3.heap.size 43 7 encItem u9 (votesOf c.W (vs.take j) (blocksOf l)) ∧ Below w3.heap.size w3 wv) (fun i _ _ => vs.length - (intOf i).toNat)
            case atStart => exact ⟨0, Nat.zero_le _, rfl, ho, hBr⟩
            case round =>
              clear ho hBr hBw
              obtain ⟨j, hj, rfl, ho, hBr⟩ := hrel
              have hBw := below_call hB3 hB3.size hBr
              obtain ⟨e1, e2⟩ := votesOf_ok hMW (vs.take j) hbs'.out
              by_cases hlt : j < vs.length
              · obtain ⟨b', o, rfl, _, d0, d1, d2, d3⟩ := (hr3.below hBw).atVote hlt
                obtain ⟨x, hxe⟩ : ∃ x, vs[j] = x := ⟨_, rfl⟩
                have htk : votesOf c.W (vs.take (j + 1)) (blocksOf l) = voteA c.W (votesOf c.W (vs.take j) (blocksOf l)) x := by rw [← hxe]; exact take_foldl (voteA c.W) (blocksOf l) vs hlt
                rw [hxe] at d0 d1 d2 d3
                obtain ⟨acc, hacc⟩ : ∃ acc, votesOf c.W (vs.take j) (blocksOf l) = acc := ⟨_, rfl⟩
                rw [hacc] at ho htk e1 e2
                have hown := e1.2
                have hvy : voteOk c.W acc x → votesOf c.W (vs.take (j + 1)) (blocksOf l) = moved acc (findI acc x.head).toNat (c.W[x.frm.toNat]?.getD 0) := fun h => by rw [htk]; unfold voteA; rw [if_pos h]
                have hvn : ¬ voteOk c.W acc x → votesOf c.W (vs.take (j + 1)) (blocksOf l) = acc := fun h => by rw [htk]; unfold voteA; rw [if_neg h]
                have hvd : voteOk c.W acc x ↔ findI acc x.head ≠ -1 ∧ 0 ≤ x.frm ∧ x.frm < c.W.length ∧ (itm acc (findI acc x.head).toNat).own + c.W[x.frm.toNat]?.getD 0 ≤ 1125899906842624 := Iff.rfl
                have hfs := find_spec acc x.head
                obtain ⟨Ar, cr, hv, hR⟩ := ho.rd encItem_len
                have hfind := rfind_any acc x.head Ar cr wr hR
                obtain ⟨f, hf⟩ : ∃ f, findI acc x.head = f := ⟨_, rfl⟩
                rw [hf] at hfind hvy hvd hfs
                have hvy' := Lib.hid hvy
                have hvn' := Lib.hid hvn
                clear hvy hvn hf htk hxe hacc e1 e2 hR
                unfold idv at hfind
                subst hv
                have b5 := bl_own hBr b3
                have hW1 : ∀ V, Below wr.heap.size wr V → x.frm.toNat < c.W.length → ∃ b o, A = some ⟨b, o, none⟩ ∧ V.cell? ⟨b, o + x.frm.toNat, none⟩ = some (.int .i64 (c.W[x.frm.toNat]?.getD 0)) := fun V hV hi => atI' (hr.below (below_call hBw hBw.size hV)) hi
                rcases hfs with ⟨rfl, _⟩ | ⟨q, hq, rfl, _, _⟩
                · have hno2 := Lib.hid (hvn'.out (fun h => (hvd.1 h).1 rfl))
                  clear hvd hown hW1
                  go_wp2_with (go_at_call 22; refine hfind.mono ?_; clear hfind; rintro e w5 ⟨rfl, hb5⟩)
                  have b6 := bl_own hb5 b5
                  have ho5 := ho.below hb5
                  have hB5 := below_call hBr hBr.size hb5
                  obtain ⟨s0, _, _, _, _⟩ := blk5 b6
                  have z0 := gr_cell s0
                  have u0 := gr_cell ((hb5.cell (World.block_lt_of_cell? _ _ d0)).trans d0)
                  refine wp_region_gr (by kernel_rfl) (by kernel_rfl) ?_
                  repeat (go_big_quiet_step (fail))
                  refine wpQuiet_nil ?_
                  rintro _ ⟨pr, rfl⟩
                  go_wp2_with fail
                  go_roundw
                  case rel => exact ⟨j + 1, hlt, by go_num, by rw [hno2.out]; exact ho5.below (gr_below w5 pr), hB5.trans ((gr_below _ _).mono hB5.size)⟩
                  case measure => simp [intOf]; omega
                · simp only [Int.toNat_natCast] at hvd hvy'
                  have hownq := hown q hq
                  by_cases h2 : x.frm < 0
                  · have hno2 := Lib.hid (hvn'.out (fun h => by have := (hvd.1 h).2.1; omega))
                    have hd2 : decide (0 ≤ x.frm) = false := by first | (simp; done) | (simp; omega)
                    clear hvd hown hW1
                    go_wp2_with (go_at_call 22; refine hfind.mono ?_; clear hfind; rintro e w5 ⟨rfl, hb5⟩)
                    have b6 := bl_own hb5 b5
                    have ho5 := ho.below hb5
                    have hB5 := below_call hBr hBr.size hb5
                    obtain ⟨s0, _, _, _, _⟩ := blk5 b6
                    have z0 := gr_cell s0
                    have u0 := gr_cell ((hb5.cell (World.block_lt_of_cell? _ _ d0)).trans d0)
                    refine wp_region_gr (by kernel_rfl) (by kernel_rfl) ?_
                    repeat (go_big_quiet_step (fail))
                    refine wpQuiet_nil ?_
                    rintro _ ⟨pr, rfl⟩
                    go_wp2_with fail
                    go_roundw
                    case rel => exact ⟨j + 1, hlt, by go_num, by rw [hno2.out]; exact ho5.below (gr_below w5 pr), hB5.trans ((gr_below _ _).mono hB5.size)⟩
                    case measure => simp [intOf]; omega
                  · have h2' : 0 ≤ x.frm := by omega
                    have hd2 : decide (0 ≤ x.frm) = true := by simpa using h2'
                    by_cases h3 : x.frm < c.W.length
                    · obtain ⟨n, hn⟩ : ∃ n : Nat, x.frm = n := ⟨x.frm.toNat, by omega⟩
                      rw [hn] at h3 hvd hvy' hW1 d0 hd2
                      have hd3 : decide ((n : Int) < (c.W.length : Int)) = true := by first | (simp; done) | (simp; omega)
                      simp only [Int.toNat_natCast] at hvd hvy' hW1
                      have hnl2 : n < c.W.length := by omega
                      have hwn := hMW (c.W[n]?.getD 0) (by rw [List.getElem?_eq_getElem hnl2]; exact List.getElem_mem _)
                      obtain ⟨y, hy⟩ : ∃ y, c.W[n]?.getD 0 = y := ⟨_, rfl⟩
                      rw [hy] at hvd hvy' hW1 hwn
                      obtain ⟨g, cap, hv⟩ := ho.lies (by omega)
                      injection hv with hv1 hv2 hv3
                      clear hv2
                      subst hv1
                      subst hv3
                      have hsum : IntKind.i64.wrap ((itm acc q).own + y) = (itm acc q).own + y := Go.IntWalk.i64_in _ (by omega)
                      by_cases h4 : (itm acc q).own + y ≤ 1125899906842624
                      · have hyes2 := Lib.hid (hvy'.out (hvd.2 ⟨by omega, by omega, by omega, h4⟩))
                        clear hvd hown hy hn
                        go_wp2_with (go_at_call 22; refine hfind.mono ?_; clear hfind; rintro e w5 ⟨rfl, hb5⟩)
                        have b6 := bl_own hb5 b5
                        have ho5 := ho.below hb5
                        have hB5 := below_call hBr hBr.size hb5
                        obtain ⟨s0, _, _, _, _⟩ := blk5 b6
                        have z0 := gr_cell s0
                        have u0 := gr_cell ((hb5.cell (World.block_lt_of_cell? _ _ d0)).trans d0)
                        obtain ⟨bw, ow, hA, yw⟩ := hW1 _ hb5 hnl2
                        subst hA
                        obtain ⟨_, _, _, own3, _, _, _⟩ := ho5.atItem hq
                        have z1 := gr_cell yw
                        have z2 := gr_cell own3
                        refine wp_region_gr (by kernel_rfl) (by kernel_rfl) ?_
                        repeat (go_big_quiet_step (fail))
                        refine wpQuiet_nil ?_
                        rintro _ ⟨pr, rfl⟩
                        have hoX := ho5.below (gr_below w5 pr)
                        have hBX : Below w3.heap.size w3 (gr w5 pr) := hB5.trans ((gr_below _ _).mono hB5.size)
                        have t0 := z0 pr
                        have t1 := u0 pr
                        have t2 := z1 pr
                        have t3 := z2 pr
                        generalize gr w5 pr = X at hoX hBX t0 t1 t2 t3 ⊢
                        obtain ⟨DD, hD⟩ : ∃ DD, X.drew = DD := ⟨_, rfl⟩
                        have hBD : Below X.heap.size X DD := by subst hD; exact (Below.refl _ X).drew
                        have hoD := hoX.below hBD
                        have m0 := (hBD.cell (World.block_lt_of_cell? _ _ t0)).trans t0
                        have m1 := (hBD.cell (World.block_lt_of_cell? _ _ t1)).trans t1
                        have m2 := (hBD.cell (World.block_lt_of_cell? _ _ t2)).trans t2
                        have m3 := (hBD.cell (World.block_lt_of_cell? _ _ t3)).trans t3
                        have f3 := hoD.free (q * 7 + 3)
                        have ho7 := hoD.setF hq 3 (by omega) (.int .i64 ((itm acc q).own + y)) { itm acc q with own := (itm acc q).own + y } rfl
                        rw [show acc.set q { itm acc q with own := (itm acc q).own + y } = moved acc q y from rfl, ← hyes2.out] at ho7
                        have hB8 := below_step (below_call hBX hBX.size hBD) (below_call hBX hBX.size hBD).size (grown_set DD ⟨g, q * 7 + 3, none⟩ (.int .i64 ((itm acc q).own + y))) (fun t ht => by cases ht; exact (hoX.base g rfl).1)
                        clear z0 z1 z2 u0 s0 ho5 hB5
                        go_wp2_with fail
                        go_still_tail 19, (by kernel_rfl)
                        go_wp2_with fail
                        go_roundw
                        case rel => exact ⟨j + 1, hlt, by go_num, ho7, hB8⟩
                        case measure => simp [intOf]; omega
                      · have hno2 := Lib.hid (hvn'.out (fun h => h4 (hvd.1 h).2.2.2))
                        clear hvd hown hy hn
                        go_wp2_with (go_at_call 22; refine hfind.mono ?_; clear hfind; rintro e w5 ⟨rfl, hb5⟩)
                        have b6 := bl_own hb5 b5
                        have ho5 := ho.below hb5
                        have hB5 := below_call hBr hBr.size hb5
                        obtain ⟨s0, _, _, _, _⟩ := blk5 b6
                        have z0 := gr_cell s0
                        have u0 := gr_cell ((hb5.cell (World.block_lt_of_cell? _ _ d0)).trans d0)
                        obtain ⟨bw, ow, hA, yw⟩ := hW1 _ hb5 hnl2
                        subst hA
                        obtain ⟨_, _, _, own3, _, _, _⟩ := ho5.atItem hq
                        have z1 := gr_cell yw
                        have z2 := gr_cell own3
                        refine wp_region_gr (by kernel_rfl) (by kernel_rfl) ?_
                        repeat (go_big_quiet_step (fail))
                        refine wpQuiet_nil ?_
                        rintro _ ⟨pr, rfl⟩
                        go_wp2_with fail
                        go_roundw
                        case rel => exact ⟨j + 1, hlt, by go_num, by rw [hno2.out]; exact ho5.below (gr_below w5 pr), hB5.trans ((gr_below _ _).mono hB5.size)⟩
                        case measure => simp [intOf]; omega
                    · have hno2 := Lib.hid (hvn'.out (fun h => h3 (hvd.1 h).2.2.1))
                      have hd3 : decide (x.frm < (c.W.length : Int)) = false := by first | (simp; done) | (simp; omega)
                      clear hvd hown hW1
                      go_wp2_with (go_at_call 22; refine hfind.mono ?_; clear hfind; rintro e w5 ⟨rfl, hb5⟩)
                      have b6 := bl_own hb5 b5
                      have ho5 := ho.below hb5
                      have hB5 := below_call hBr hBr.size hb5
                      obtain ⟨s0, _, _, _, _⟩ := blk5 b6
                      have z0 := gr_cell s0
                      have u0 := gr_cell ((hb5.cell (World.block_lt_of_cell? _ _ d0)).trans d0)
                      refine wp_region_gr (by kernel_rfl) (by kernel_rfl) ?_
                      repeat (go_big_quiet_step (fail))
                      refine wpQuiet_nil ?_
                      rintro _ ⟨pr, rfl⟩
                      go_wp2_with fail
                      go_roundw
                      case rel => exact ⟨j + 1, hlt, by go_num, by rw [hno2.out]; exact ho5.below (gr_below w5 pr), hB5.trans ((gr_below _ _).mono hB5.size)⟩
                      case measure => simp [intOf]; omega
              · obtain rfl : j = vs.length := by omega
                rw [List.take_length] at ho e1 e2
                obtain ⟨Ar, cr, hv, hR, hRN⟩ := ho.rdn encItem_len
                have han := anew_any (votesOf c.W vs (blocksOf l)) (by omega) e1.1 e1.2 Ar cr wr hR hRN
                subst hv
                clear e1 e2
                go_wp2_with (go_at_call 23; refine han.mono ?_; clear han; rintro e w7 ⟨⟨r, v, rfl, hor, hsr, hkr⟩, hb7⟩; have hB7 := below_call hBw hBw.size hb7)
                go_ret
                exact ⟨⟨r, v, rfl, hor.mono hBw.size, hyes'.out r hsr hkr⟩, hB7⟩
      · have hf' := Lib.hid (hno (fun h => h60 h.2.2))
        have h61 : 60 < l.length := by omega
        clear hyes hno hbk hTb hT hM h60 hnames
        go_enter Try.func21, Try.ntmps21
        go_wp2_with (first
          | (go_at_call 35; refine (hmay _ hB).mono ?_; clear hmay; rintro e w1 ⟨rfl, hb1⟩; have hB1 := below_call hB hB.size hb1; have b1 := bl_own hb1 b0)
          | (go_at_call 36; refine (htm _ hB1).mono ?_; clear htm; rintro e w2 ⟨rfl, hb2⟩; have hB2 := below_call hB1 hB1.size hb2; have b2 := bl_own hb2 b1))
        go_ret
        exact ⟨⟨[], _, rfl, Own.nil _ _ _ _ _, hf'.out⟩, hB2⟩
    · have hTb : mayB l = false := by simp [mayB, hT]
      rw [hTb] at htm
      have hf' := Lib.hid (hno (fun h => hT h.2.1))
      clear hyes hno hbk hTb hT hM hnames
      go_enter Try.func21, Try.ntmps21
      go_wp2_with (first
        | (go_at_call 35; refine (hmay _ hB).mono ?_; clear hmay; rintro e w1 ⟨rfl, hb1⟩; have hB1 := below_call hB hB.size hb1; have b1 := bl_own hb1 b0)
        | (go_at_call 36; refine (htm _ hB1).mono ?_; clear htm; rintro e w2 ⟨rfl, hb2⟩; have hB2 := below_call hB1 hB1.size hb2; have b2 := bl_own hb2 b1))
      go_ret
      exact ⟨⟨[], _, rfl, Own.nil _ _ _ _ _, hf'.out⟩, hB2⟩
  · rw [decide_eq_false hM] at hmay
    have hf' := Lib.hid (hno (fun h => hM h.1))
    clear hyes hno hbk hM hnames
    go_enter Try.func21, Try.ntmps21
    go_wp2_with (first
      | (go_at_call 35; refine (hmay _ hB).mono ?_; clear hmay; rintro e w1 ⟨rfl, hb1⟩; have hB1 := below_call hB hB.size hb1; have b1 := bl_own hb1 b0)
      | (go_at_call 36; refine (htm _ hB1).mono ?_; clear htm; rintro e w2 ⟨rfl, hb2⟩; have hB2 := below_call hB1 hB1.size hb2; have b2 := bl_own hb2 b1))
    go_ret
    exact ⟨⟨[], _, rfl, Own.nil _ _ _ _ _, hf'.out⟩, hB2⟩
end Go.Proofs.Ytionkkjdaghakaa
