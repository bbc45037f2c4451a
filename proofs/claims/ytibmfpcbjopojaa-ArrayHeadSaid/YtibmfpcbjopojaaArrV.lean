/- array.From, walked. -/
import Derived.Test.YtibmfpcbjopojaaArrU
namespace Go.Proofs.Ytibmfpcbjopojaa
open Go.RowKit
theorem atI' {w : World} {A : Option Addr} {W : List Int} (h : Rd 1 encI w A W) {i : Nat} (hi : i < W.length) : ∃ b o, A = some ⟨b, o, none⟩ ∧ w.cell? ⟨b, o + i, none⟩ = some (.int .i64 (W[i]?.getD 0)) := by
  obtain ⟨b, o, hA, _, hc⟩ := h.atI hi
  refine ⟨b, o, hA, ?_⟩
  rw [List.getElem?_eq_getElem hi]
  exact hc
set_option maxRecDepth 100000 in
set_option maxHeartbeats 4000000 in
theorem from_any (c : Cfg) (l : List Blk) (vs : List Vote) (A A2 A3 : Option Addr) (k k2 k3 : Nat) (w : World) (hr : Rd 1 encI w A c.W) (hr2 : Rd 5 encBlk w A2 l) (hr3 : Rd 4 encVote w A3 vs) :
    Calls Try.prog 28 #[cfgv A k c, .slice A2 l.length k2, .slice A3 vs.length k3] w fun e w' => (∃ r v, e = .returned v ∧ Own w' w.heap.size 103 7 encItem v r ∧ FromP c l vs r) ∧ Below w.heap.size w w' := by
  have hm := hr.1
  have hm2 := hr2.1
  have hm3 := hr3.1
  have hmay := fun V (hV : Below w.heap.size w V) => dmay_any c A k V (hr.below hV)
  have htm := fun V (hV : Below w.heap.size w V) => may_any l A2 k2 V (hr2.below hV)
  have hyes : ∀ r, FromOk c l → Settled r → SameSk r (votesOf c.W vs (blocksOf l)) → FromP c l vs r := fun r h1 h2 h3 => ⟨fun _ => ⟨h2, h3⟩, fun h => absurd h1 h⟩
  have hno : ¬ FromOk c l → FromP c l vs [] := fun h => ⟨fun h2 => absurd h2 h, fun _ => rfl⟩
  have hbk : ∀ j, (blocksOf (l.take j)).length = (l.take j).length ∧ SkOk (blocksOf (l.take j)) := fun j => ⟨(blocksOf_ok _).1, blocksOf_sk _⟩
  generalize FromP c l vs = FP at hyes hno ⊢
  unfold cfgv at *
  have hW : ∃ W, w.alloc (.cells #[.slice A c.W.length k, .int .u64 c.seed, .int .i64 c.epoch, .int .i64 c.num, .int .i64 c.den] 25) = W := ⟨_, rfl⟩
  obtain ⟨W, hW⟩ := hW
  have hB : Below w.heap.size w W := by subst hW; exact (Below.refl _ w).alloc (Nat.le_refl _) _
  have b0 : W.heap[w.heap.size]? = some (.cells #[.slice A c.W.length k, .int .u64 c.seed, .int .i64 c.epoch, .int .i64 c.num, .int .i64 c.den] 25 (0, 0)) := by subst hW; exact ha_at rfl
  obtain ⟨c0, c1, c2, c3, c4⟩ := blk5 b0
  by_cases hM : MayC c
  · rw [decide_eq_true hM] at hmay
    by_cases hT : Tree l
    · have hTb : mayB l = true := by simp [mayB, hT]
      rw [hTb] at htm
      by_cases h60 : l.length ≤ 60
      · have hyes' := Lib.hid (fun r => hyes r ⟨hM, hT, h60⟩)
        have hMW := hM.1.2.2
        have hMl := hM.1.2.1
        have hbk' := Lib.hid hbk
        clear hyes hno hTb hT hM hbk
        go_enter Try.func28, Try.ntmps28
        go_wp2_with (first
          | (go_at_call 36; refine (hmay _ hB).mono ?_; clear hmay; rintro e w1 ⟨rfl, hb1⟩; have hB1 := below_call hB hB.size hb1; have b1 := bl_own hb1 b0)
          | (go_at_call 27; refine (htm _ hB1).mono ?_; clear htm; rintro e w2 ⟨rfl, hb2⟩; have hB2 := below_call hB1 hB1.size hb2; have b2 := bl_own hb2 b1))
        clear b0 b1 c0 c1 c2 c3 c4 hb1 hb2 hB1 hB
        go_loopw [7, 9, 28] (fun v x9 i wr => ∃ (j : Nat) (r : List Item), j ≤ l.length ∧ i = .int .i64 j ∧ Settled r ∧ SameSk r (blocksOf (l.take j)) ∧ Own wr (w.heap.size + 1) 103 7 encItem v r ∧ Below w.heap.size w wr ∧ wr.heap[w.heap.size]? = some (.cells #[.slice A c.W.length k, .int .u64 c.seed, .int .i64 c.epoch, .int .i64 c.num, .int .i64 c.den] 25 (0, 0))) (fun _ _ i _ => l.length - (intOf i).toNat)
        case atStart => exact ⟨0, [], Nat.zero_le _, rfl, fun i hi => by simp at hi, ⟨rfl, fun i hi => by simp at hi⟩, Own.nil _ _ _ _ _, hB2, b2⟩
        case round =>
          clear hB2 b2
          obtain ⟨j, r, hj, rfl, hs, hsk, ho, hBr, bc⟩ := hrel
          by_cases hlt : j < l.length
          · obtain ⟨b', o, rfl, _, c0, c1, c2, c3, c4⟩ := (hr2.below hBr).atBlk hlt
            obtain ⟨x, hxe⟩ : ∃ x, l[j] = x := ⟨_, rfl⟩
            have htk : blocksOf (l.take (j + 1)) = blkA (blocksOf (l.take j)) x := by rw [← hxe]; exact take_foldl blkA [] l hlt
            rw [hxe] at c0 c1 c2 c3 c4
            obtain ⟨e1, e2⟩ := hbk'.out j
            have e1' : (blocksOf (l.take j)).length = j := by rw [e1]; simp; omega
            obtain ⟨hw1, hw2, hw3⟩ := sk_w (by omega) e2 hs hsk
            have hrl : r.length = j := by rw [hsk.1, e1']
            have hfb : -1 ≤ findI r x.par ∧ findI r x.par < r.length := by rcases find_spec r x.par with ⟨h, _⟩ | ⟨q, hq, h, _⟩ <;> omega
            have hput := fun v V hoV hbase => put_any r (nameOf x) (findI r x.par) (by omega) hw2 hs hfb.1 hfb.2 hw1 (w.heap.size + 1) v V hoV hbase
            have hfin := Lib.hid (fun b2 (hj2 : J (r ++ [newItem (nameOf x) (findI r x.par) r.length]) r.length 0 (-1) b2) => show Settled b2 ∧ SameSk b2 (blocksOf (l.take (j + 1))) from ⟨J_end hj2, by rw [htk]; exact from_step1 hsk (J_same hj2)⟩)
            obtain ⟨Ar, cr, hv, hR⟩ := ho.rd encItem_len
            have hnm := fun V => name_any x V
            have hfind := fun V (hV : Below wr.heap.size wr V) => find_any r x.par Ar cr V (hR.below hV)
            subst hv
            have hr0 : ∀ q, (Value.slice Ar r.length cr).ownBlock = some q → w.heap.size ≤ q := fun q hq => Nat.le_of_succ_le (ho.base q hq).1
            have hnc : some w.heap.size ≠ (Value.slice Ar r.length cr).ownBlock := fun e => Nat.not_succ_le_self _ (ho.base _ e.symm).1
            have hn0 : some wr.heap.size ≠ (Value.slice Ar r.length cr).ownBlock := fun e => Nat.lt_irrefl _ (ho.base _ e.symm).2
            have hlc := lt_of_block bc
            obtain ⟨f, hf⟩ : ∃ f, findI r x.par = f := ⟨_, rfl⟩
            rw [hf] at hfind hput hfin
            obtain ⟨nx, hnx⟩ : ∃ nx, nameOf x = nx := ⟨_, rfl⟩
            rw [hnx] at hnm hput hfin
            clear hrl hf hfb hw1 hw2 hw3 e1 e1' e2 htk hxe hs hsk hnx
            unfold idv at hnm hfind hput
            go_wp2_with fail
            obtain ⟨V, hV⟩ : ∃ V, wr.alloc (.cells #[.int .i64 x.slot, .int .i64 x.frm, .int .u64 x.par.hi, .int .u64 x.par.lo, .int .u64 x.salt] 56) = V := ⟨_, rfl⟩
            rw [hV]
            have hBV : Below wr.heap.size wr V := by subst hV; exact (Below.refl _ wr).alloc (Nat.le_refl _) _
            have b9 : V.heap[wr.heap.size]? = some (.cells #[.int .i64 x.slot, .int .i64 x.frm, .int .u64 x.par.hi, .int .u64 x.par.lo, .int .u64 x.salt] 56 (0, 0)) := by subst hV; exact ha_at rfl
            obtain ⟨n9, hn9⟩ : ∃ n9, wr.heap.size = n9 := ⟨_, rfl⟩
            have hn1 := hn9 ▸ hn0
            rw [hn9] at b9 ⊢
            have hKD : Below V.heap.size V V.drew := (Below.refl _ V).drew
            obtain ⟨d0, d1, d2, d3, d4⟩ := blk5 b9
            have hcall := fun U (hU : Below V.heap.size V U) => hfind U (below_call hBV hBV.size hU)
            have hoU := fun U (hU : Below V.heap.size V U) => ho.below (below_call hBV hBV.size hU)
            have hbU := fun U (hU : Below V.heap.size V U) => show w.heap.size + 1 ≤ U.heap.size from Nat.le_trans hlc (below_call hBV hBV.size hU).size
            have hput' := fun U (hU : Below V.heap.size V U) => hput _ U (hoU U hU) (hbU U hU)
            clear c0 c1 c2 c3 c4 hV hfind hput
            go_region_held3 (fun W' => W'.cell? ⟨n9, 0, none⟩ = some (.int .i64 x.slot) ∧ W'.cell? ⟨n9, 1, none⟩ = some (.int .i64 x.frm) ∧ W'.cell? ⟨n9, 2, none⟩ = some (.int .u64 x.par.hi) ∧ W'.cell? ⟨n9, 3, none⟩ = some (.int .u64 x.par.lo) ∧ W'.cell? ⟨n9, 4, none⟩ = some (.int .u64 x.salt))
              (first | exact ⟨d0, d1, d2, d3, d4⟩ | exact blk5 (bl_own hKz b9) | exact blk5 (bl_own hKa b9) | exact blk5 hb9') ((first
              | (go_at_call 31; refine Calls.mono (hnm V.drew) ?_; rintro e wa ⟨rfl, hba⟩; have hKa := below_call hKD hKD.size hba)
              | (go_at_call 60; refine Calls.mono (hcall wa hKa) ?_; rintro e wz ⟨rfl, hbz⟩; have hKz := below_call hKa hKa.size hbz)
              | (go_at_call 59; refine Calls.mono (hput' wz hKz) ?_; rintro e w5 ⟨⟨b2, g2, cap2, rfl, hj2, ho2⟩, hg2⟩; have hb9' := grown_own hg2 (bl_own hKz b9) hn1)))
            clear hnm hcall hput' hoU hbU
            have hKw := below_call hBr hBr.size (below_call hBV hBV.size hKz)
            have hB5 := below_step hKw hKw.size hg2 hr0
            have bc5 := grown_own hg2 (bl_own hKz (bl_own hBV bc)) hnc
            obtain ⟨hs2, hsk2⟩ := hfin.out b2 hj2
            go_wp2_with fail
            go_roundw
            case rel => exact ⟨j + 1, b2, hlt, by go_num, hs2, hsk2, ho2, hB5, bc5⟩
            case measure => simp [intOf]; omega
          · obtain rfl : j = l.length := by omega
            rw [List.take_length] at hsk
            have hbl := (hbk'.out l.length).1
            have hbs := (hbk'.out l.length).2
            rw [List.take_length] at hbl hbs
            have hbl2 : (blocksOf l).length ≤ 60 := by omega
            have hbs' := Lib.hid hbs
            clear hbl hbs
            go_wp2_with fail
            go_loopw [10, 11, 12, 43] (fun x10 x11 x12 i wv => ∃ (j : Nat) (r : List Item), j ≤ vs.length ∧ i = .int .i64 j ∧ Settled r ∧ SameSk r (votesOf c.W (vs.take j) (blocksOf l)) ∧ Own wv (w.heap.size + 1) 103 7 encItem u7 r ∧ Below w.heap.size w wv ∧ wv.heap[w.heap.size]? = some (.cells #[.slice A c.W.length k, .int .u64 c.seed, .int .i64 c.epoch, .int .i64 c.num, .int .i64 c.den] 25 (0, 0))) (fun _ _ _ i _ => vs.length - (intOf i).toNat)
            case atStart => exact ⟨0, r, Nat.zero_le _, rfl, hs, hsk, ho, hBr, bc⟩
            case round =>
              clear hs hsk ho hBr bc
              obtain ⟨j, r, hj, rfl, hs, hsk, ho, hBr, bc⟩ := hrel
              by_cases hlt : j < vs.length
              · obtain ⟨b', o, rfl, _, d0, d1, d2, d3⟩ := (hr3.below hBr).atVote hlt
                obtain ⟨x, hxe⟩ : ∃ x, vs[j] = x := ⟨_, rfl⟩
                have htk : votesOf c.W (vs.take (j + 1)) (blocksOf l) = voteA c.W (votesOf c.W (vs.take j) (blocksOf l)) x := by rw [← hxe]; exact take_foldl (voteA c.W) (blocksOf l) vs hlt
                rw [hxe] at d0 d1 d2 d3
                obtain ⟨e1, e2⟩ := votesOf_ok hMW (vs.take j) hbs'.out
                obtain ⟨hw1, hw2, hw3⟩ := sk_w (by rw [e2]; omega) e1 hs hsk
                have hvy := Lib.hid (fun (hv : voteOk c.W r x) b2 (hj2 : J r (findI r x.head).toNat (c.W[x.frm.toNat]?.getD 0) (-1) b2) => show Settled b2 ∧ SameSk b2 (votesOf c.W (vs.take (j + 1)) (blocksOf l)) from ⟨J_end hj2, by rw [htk]; exact from_yes hsk hv (J_moved (by
                  rcases find_spec r x.head with ⟨e, _⟩ | ⟨q, hq, e, _⟩
                  · exact absurd e hv.1
                  · rw [e]; simpa using hq) hj2)⟩)
                have hvn := Lib.hid (fun (hv : ¬ voteOk c.W r x) => show Settled r ∧ SameSk r (votesOf c.W (vs.take (j + 1)) (blocksOf l)) from ⟨hs, by rw [htk]; exact from_no hsk hv⟩)
                have hvd : voteOk c.W r x ↔ findI r x.head ≠ -1 ∧ 0 ≤ x.frm ∧ x.frm < c.W.length ∧ (itm r (findI r x.head).toNat).own + c.W[x.frm.toNat]?.getD 0 ≤ 1125899906842624 := Iff.rfl
                have hfs := find_spec r x.head
                obtain ⟨Ar, cr, hv, hR⟩ := ho.rd encItem_len
                have hfind := fun p => find_any r x.head Ar cr (gr wr p) (hR.below (gr_below wr p))
                have hBg : ∀ p, Below w.heap.size w (gr wr p) := fun p => hBr.trans ((gr_below _ _).mono hBr.size)
                have hadd := fun (q : Nat) (y : Int) (hq : q < r.length) (hy : 0 ≤ y ∧ y ≤ 1099511627776) (g cap : Nat) V hoV => add_any r q y (Pre_settled hw2 hs hq) hw1 (by have := hw3 q hq; omega) (by omega) g cap (w.heap.size + 1) V hoV
                have hown := hw3
                obtain ⟨f, hf⟩ : ∃ f, findI r x.head = f := ⟨_, rfl⟩
                rw [hf] at hfind hvd hfs hvy
                clear hf htk hxe e1 e2 hw1 hw2 hw3 hs hsk
                unfold idv at hfind
                have g0 := gr_cell d0
                have g2 := gr_cell d2
                have g3 := gr_cell d3
                subst hv
                have bcg := fun p => bl_own (gr_below wr p) bc
                have hog := fun p => ho.below (gr_below wr p)
                have hW1 : ∀ p, x.frm.toNat < c.W.length → ∃ b o, A = some ⟨b, o, none⟩ ∧ (gr wr p).cell? ⟨b, o + x.frm.toNat, none⟩ = some (.int .i64 (c.W[x.frm.toNat]?.getD 0)) := fun p hi => atI' (hr.below (hBg p)) hi
                rcases hfs with ⟨rfl, _⟩ | ⟨q, hq, rfl, _, _⟩
                · have hno2 := Lib.hid (hvn.out (fun h => (hvd.1 h).1 rfl))
                  clear hvd hvy hvn hadd hown
                  go_wp2_with fail
                  refine wp_region_gr (by kernel_rfl) (by kernel_rfl) ?_
                  repeat (go_big_quiet_step ((go_at_call 60; with_reducible exact Calls.gr_of (hfind _))))
                  refine wpQuiet_nil ?_
                  rintro _ ⟨pq, rfl⟩
                  have hBV := hBg pq
                  have bcV := bcg pq
                  have hoV := hog pq
                  generalize gr wr pq = V at hBV bcV hoV ⊢
                  obtain ⟨s0, s1, s2, s3, s4⟩ := blk5 bcV
                  clear g0 g2 g3 bcg hog hBg hfind hW1
                  have z0 := gr_cell s0
                  go_wp2_with fail
                  refine wp_region_gr (by kernel_rfl) (by kernel_rfl) ?_
                  repeat (go_big_quiet_step (fail))
                  refine wpQuiet_nil ?_
                  rintro _ ⟨pr, rfl⟩
                  go_wp2_with fail
                  go_roundw
                  case rel => exact ⟨j + 1, r, hlt, by go_num, hno2.out.1, hno2.out.2, hoV.below (gr_below V pr), hBV.trans ((gr_below _ _).mono hBV.size), bl_own (gr_below V pr) bcV⟩
                  case measure => simp [intOf]; omega
                · simp only [Int.toNat_natCast] at hvd hvy
                  have hd1 : ((q : Int) != -1) = true := by first | (simp; done) | (simp; omega)
                  have hownq := hown q hq
                  by_cases h2 : x.frm < 0
                  · have hno2 := Lib.hid (hvn.out (fun h => by have := (hvd.1 h).2.1; omega))
                    have hd2 : decide (0 ≤ x.frm) = false := by first | (simp; done) | (simp; omega)
                    clear hvd hvy hvn hadd hown
                    go_wp2_with fail
                    refine wp_region_gr (by kernel_rfl) (by kernel_rfl) ?_
                    repeat (go_big_quiet_step ((go_at_call 60; with_reducible exact Calls.gr_of (hfind _))))
                    refine wpQuiet_nil ?_
                    rintro _ ⟨pq, rfl⟩
                    have hBV := hBg pq
                    have bcV := bcg pq
                    have hoV := hog pq
                    generalize gr wr pq = V at hBV bcV hoV ⊢
                    obtain ⟨s0, s1, s2, s3, s4⟩ := blk5 bcV
                    clear g0 g2 g3 bcg hog hBg hfind hW1
                    have z0 := gr_cell s0
                    go_wp2_with fail
                    refine wp_region_gr (by kernel_rfl) (by kernel_rfl) ?_
                    repeat (go_big_quiet_step (fail))
                    refine wpQuiet_nil ?_
                    rintro _ ⟨pr, rfl⟩
                    go_wp2_with fail
                    go_roundw
                    case rel => exact ⟨j + 1, r, hlt, by go_num, hno2.out.1, hno2.out.2, hoV.below (gr_below V pr), hBV.trans ((gr_below _ _).mono hBV.size), bl_own (gr_below V pr) bcV⟩
                    case measure => simp [intOf]; omega
                  · have h2' : 0 ≤ x.frm := by omega
                    have hd2 : decide (0 ≤ x.frm) = true := by simpa using h2'
                    by_cases h3 : x.frm < c.W.length
                    · obtain ⟨n, hn⟩ : ∃ n : Nat, x.frm = n := ⟨x.frm.toNat, by omega⟩
                      rw [hn] at h3 hvd hvy hW1 g0 hd2
                      have hd3 : decide ((n : Int) < (c.W.length : Int)) = true := by first | (simp; done) | (simp; omega)
                      simp only [Int.toNat_natCast] at hvd hvy hW1
                      have hnl : n < c.W.length := by omega
                      have hwn := hMW (c.W[n]?.getD 0) (by rw [List.getElem?_eq_getElem hnl]; exact List.getElem_mem _)
                      obtain ⟨y, hy⟩ : ∃ y, c.W[n]?.getD 0 = y := ⟨_, rfl⟩
                      rw [hy] at hvd hvy hW1 hwn
                      obtain ⟨g, cap, hv⟩ := ho.lies (by omega)
                      injection hv with hv1 hv2 hv3
                      clear hv2
                      subst hv1
                      subst hv3
                      have hsum : IntKind.i64.wrap ((itm r q).own + y) = (itm r q).own + y := Go.IntWalk.i64_in _ (by omega)
                      by_cases h4 : (itm r q).own + y ≤ 1125899906842624
                      · have hyes2 := Lib.hid (hvy.out (hvd.2 ⟨by omega, by omega, by omega, h4⟩))
                        have haddq := fun V hoV => hadd q y hq hwn g cr V hoV
                        clear hvd hvy hvn hadd hown hy hn
                        go_wp2_with fail
                        refine wp_region_gr (by kernel_rfl) (by kernel_rfl) ?_
                        repeat (go_big_quiet_step ((go_at_call 60; with_reducible exact Calls.gr_of (hfind _))))
                        refine wpQuiet_nil ?_
                        rintro _ ⟨pq, rfl⟩
                        have hBV := hBg pq
                        have bcV := bcg pq
                        have hoV := hog pq
                        obtain ⟨bw, ow, hA, yw⟩ := hW1 pq hnl
                        subst hA
                        obtain ⟨_, _, _, own3, _, _, _⟩ := hoV.atItem hq
                        generalize gr wr pq = V at hBV bcV hoV yw own3 ⊢
                        obtain ⟨s0, s1, s2, s3, s4⟩ := blk5 bcV
                        clear g0 g2 g3 bcg hog hBg hfind hW1
                        have z0 := gr_cell s0
                        have z1 := gr_cell yw
                        have z2 := gr_cell own3
                        go_wp2_with fail
                        refine wp_region_gr (by kernel_rfl) (by kernel_rfl) ?_
                        repeat (go_big_quiet_step (fail))
                        refine wpQuiet_nil ?_
                        rintro _ ⟨pr, rfl⟩
                        have hoX := hoV.below (gr_below V pr)
                        have hBX : Below w.heap.size w (gr V pr) := hBV.trans ((gr_below _ _).mono hBV.size)
                        have bcX := bl_own (gr_below V pr) bcV
                        have ywX := z1 pr
                        generalize gr V pr = X at hoX hBX bcX ywX ⊢
                        clear z0 z1 z2
                        obtain ⟨t0, _, _, _, _⟩ := blk5 bcX
                        have haX := haddq X hoX
                        go_wp2_with (go_at_call 61; refine haX.mono ?_; clear haX; rintro e w5 ⟨rfl, ⟨b2, hj2, ho2⟩, hg2⟩)
                        have hB5 := below_step hBX hBX.size hg2 (fun t ht => by cases ht; exact Nat.le_of_succ_le (hoX.base g rfl).1)
                        have bc5 := grown_own hg2 bcX (fun e => by injection e with e; have := (hoX.base g rfl).1; omega)
                        obtain ⟨hs2, hsk2⟩ := hyes2.out b2 hj2
                        go_roundw
                        case rel => exact ⟨j + 1, b2, hlt, by go_num, hs2, hsk2, ho2, hB5, bc5⟩
                        case measure => simp [intOf]; omega
                      · have hno2 := Lib.hid (hvn.out (fun h => h4 (hvd.1 h).2.2.2))
                        clear hvd hvy hvn hadd hown hy hn
                        go_wp2_with fail
                        refine wp_region_gr (by kernel_rfl) (by kernel_rfl) ?_
                        repeat (go_big_quiet_step ((go_at_call 60; with_reducible exact Calls.gr_of (hfind _))))
                        refine wpQuiet_nil ?_
                        rintro _ ⟨pq, rfl⟩
                        have hBV := hBg pq
                        have bcV := bcg pq
                        have hoV := hog pq
                        obtain ⟨bw, ow, hA, yw⟩ := hW1 pq hnl
                        subst hA
                        obtain ⟨_, _, _, own3, _, _, _⟩ := hoV.atItem hq
                        generalize gr wr pq = V at hBV bcV hoV yw own3 ⊢
                        obtain ⟨s0, s1, s2, s3, s4⟩ := blk5 bcV
                        clear g0 g2 g3 bcg hog hBg hfind hW1
                        have z0 := gr_cell s0
                        have z1 := gr_cell yw
                        have z2 := gr_cell own3
                        go_wp2_with fail
                        refine wp_region_gr (by kernel_rfl) (by kernel_rfl) ?_
                        repeat (go_big_quiet_step (fail))
                        refine wpQuiet_nil ?_
                        rintro _ ⟨pr, rfl⟩
                        go_wp2_with fail
                        go_roundw
                        case rel => exact ⟨j + 1, r, hlt, by go_num, hno2.out.1, hno2.out.2, hoV.below (gr_below V pr), hBV.trans ((gr_below _ _).mono hBV.size), bl_own (gr_below V pr) bcV⟩
                        case measure => simp [intOf]; omega
                    · have hno2 := Lib.hid (hvn.out (fun h => h3 (hvd.1 h).2.2.1))
                      have hd3 : decide (x.frm < (c.W.length : Int)) = false := by first | (simp; done) | (simp; omega)
                      clear hvd hvy hvn hadd hown
                      go_wp2_with fail
                      refine wp_region_gr (by kernel_rfl) (by kernel_rfl) ?_
                      repeat (go_big_quiet_step ((go_at_call 60; with_reducible exact Calls.gr_of (hfind _))))
                      refine wpQuiet_nil ?_
                      rintro _ ⟨pq, rfl⟩
                      have hBV := hBg pq
                      have bcV := bcg pq
                      have hoV := hog pq
                      generalize gr wr pq = V at hBV bcV hoV ⊢
                      obtain ⟨s0, s1, s2, s3, s4⟩ := blk5 bcV
                      clear g0 g2 g3 bcg hog hBg hfind hW1
                      have z0 := gr_cell s0
                      go_wp2_with fail
                      refine wp_region_gr (by kernel_rfl) (by kernel_rfl) ?_
                      repeat (go_big_quiet_step (fail))
                      refine wpQuiet_nil ?_
                      rintro _ ⟨pr, rfl⟩
                      go_wp2_with fail
                      go_roundw
                      case rel => exact ⟨j + 1, r, hlt, by go_num, hno2.out.1, hno2.out.2, hoV.below (gr_below V pr), hBV.trans ((gr_below _ _).mono hBV.size), bl_own (gr_below V pr) bcV⟩
                      case measure => simp [intOf]; omega
              · obtain rfl : j = vs.length := by omega
                rw [List.take_length] at hsk
                have hfp := hyes'.out r hs hsk
                clear hs hsk
                go_wp2_with fail
                go_ret
                exact ⟨⟨r, _, rfl, ho.mono (Nat.le_succ _), hfp⟩, hBr⟩
      · have hf' := Lib.hid (hno (fun h => h60 h.2.2))
        have h61 : 60 < l.length := by omega
        clear hyes hno hbk hTb hT hM h60
        go_enter Try.func28, Try.ntmps28
        go_wp2_with (first
          | (go_at_call 36; refine (hmay _ hB).mono ?_; clear hmay; rintro e w1 ⟨rfl, hb1⟩; have hB1 := below_call hB hB.size hb1; have b1 := bl_own hb1 b0)
          | (go_at_call 27; refine (htm _ hB1).mono ?_; clear htm; rintro e w2 ⟨rfl, hb2⟩; have hB2 := below_call hB1 hB1.size hb2))
        go_ret
        exact ⟨⟨[], _, rfl, Own.nil _ _ _ _ _, hf'.out⟩, hB2⟩
    · have hTb : mayB l = false := by simp [mayB, hT]
      rw [hTb] at htm
      have hf' := Lib.hid (hno (fun h => hT h.2.1))
      clear hyes hno hbk hTb hT hM
      go_enter Try.func28, Try.ntmps28
      go_wp2_with (first
        | (go_at_call 36; refine (hmay _ hB).mono ?_; clear hmay; rintro e w1 ⟨rfl, hb1⟩; have hB1 := below_call hB hB.size hb1; have b1 := bl_own hb1 b0)
        | (go_at_call 27; refine (htm _ hB1).mono ?_; clear htm; rintro e w2 ⟨rfl, hb2⟩; have hB2 := below_call hB1 hB1.size hb2))
      go_ret
      exact ⟨⟨[], _, rfl, Own.nil _ _ _ _ _, hf'.out⟩, hB2⟩
  · rw [decide_eq_false hM] at hmay
    have hf' := Lib.hid (hno (fun h => hM h.1))
    clear hyes hno hbk hM htm
    go_enter Try.func28, Try.ntmps28
    go_wp2_with (go_at_call 36; refine (hmay _ hB).mono ?_; clear hmay; rintro e w1 ⟨rfl, hb1⟩; have hB1 := below_call hB hB.size hb1; have b1 := bl_own hb1 b0)
    go_ret
    exact ⟨⟨[], _, rfl, Own.nil _ _ _ _ _, hf'.out⟩, hB1⟩
end Go.Proofs.Ytibmfpcbjopojaa
