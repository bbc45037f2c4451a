/- GoldOutvotes, walked. -/
import Derived.Test.YtaohkcdfjjiggaaGreatGJ
import Derived.Test.YtaohkcdfjjiggaaGreatGP
import Derived.Test.YtaohkcdfjjiggaaGreatAw14
import Derived.Test.YtaohkcdfjjiggaaGreatGA
namespace Go.Proofs.YtaohkcdfjjiggaaGreat
open Go.RowKit
set_option linter.unusedVariables false
/-- Is one of some for a block, and bears this number? -/
def anyIn (l : List Blk) (y : ID) (f : Int) (g : List Vote) : Bool := g.any fun z => decide (z.frm = f) && decide (y ∈ chain l z.head)
theorem anyIn_true {l : List Blk} {y : ID} {f : Int} {g : List Vote} : anyIn l y f g = true ↔ ∃ z ∈ g, z.frm = f ∧ y ∈ chain l z.head := by simp [anyIn]
theorem anyIn_snoc {l : List Blk} {y : ID} {f : Int} {g : List Vote} {k : Nat} (h : k < g.length) : anyIn l y f (g.take (k + 1)) = (anyIn l y f (g.take k) || (decide (g[k].frm = f) && decide (y ∈ chain l g[k].head))) := by
  rw [← List.take_append_getElem h]
  simp only [anyIn, List.any_append, List.any_cons, List.any_nil, Bool.or_false]
def goodV (others : List Int) (o : List Vote) : List Vote := o.filter fun v => !decide (v.frm ∈ others)
def badI (l : List Blk) (y : ID) (g : List Vote) (cm : List Int) : List Int := cm.filter fun f => !anyIn l y f g
theorem outvotes_law (c : Cfg) {l : List Blk} {v : List Vote} {s : Int} {y : ID} (others : List Int) (h : weightC c (badI l y (goodV others (goldOf c v s)) (comC c s)) < onC c l (goodV others (goldOf c v s)) y) : y ∈ chain l (goldHead c l v s) := by
  refine gold_outvotes c (fun x hx => (List.mem_filter.1 hx).1) (fun f hf hn => ?_) h
  refine List.mem_filter.2 ⟨hf, ?_⟩
  rw [Bool.not_eq_true', Bool.eq_false_iff]
  exact fun e => hn (anyIn_true.1 e)
set_option maxRecDepth 100000 in
set_option maxHeartbeats 8000000 in
theorem out14_any (c : Cfg) (l : List Blk) (vs : List Vote) (s : Int) (x : ID) (ot : List Int) (A A2 A3 A9 : Option Addr) (k k2 k3 k9 : Nat) (w : World) (hr : Rd 1 encI w A c.W) (hr2 : Rd 5 encBlk w A2 l) (hr3 : Rd 4 encVote w A3 vs) (hr9 : Rd 1 encI w A9 ot) :
    Calls Tryz.prog 6 #[cfgv A k c, .agg #[.slice A2 l.length k2, .slice A3 vs.length k3], .int .i64 s, idv x, .slice A9 ot.length k9] w fun e w' => e = .returned (.bool true) ∧ Below w.heap.size w w' := by
  have hm := hr.1
  have hm2 := hr2.1
  have hm3 := hr3.1
  have hm9 := hr9.1
  have haw := fun V => awake14_any V
  have hfew := fun V => fewN_any c l.length vs.length A A2 A3 k k2 k3 V hm hm2 hm3
  have hunV := Tryz.underlying27
  have hunI := Tryz.underlying22
  by_cases hsm : c.W.length ≤ 40 ∧ l.length ≤ 20 ∧ vs.length ≤ 30
  · rw [decide_eq_true hsm] at hfew
    obtain ⟨hsm1, hsm2, hsm3⟩ := hsm
    by_cases hot : ot.length ≤ 40
    · have e1 : ¬ (40 < (ot.length : Int)) := by omega
      have hof := fun V (hV : Below w.heap.size w V) => gof_any c vs s A A3 k k3 V (hr.below hV) (hr3.below hV) (by omega)
      have hcm := fun V (hV : Below w.heap.size w V) => committee_any c s A k V (hr.below hV)
      have hon := Lib.hid (fun V (hV : Below w.heap.size w V) (g : List Vote) (hg : g.length ≤ 100000) A4 k4 h4 => on_any c l g x A A2 A4 k k2 k4 V (hr.below hV) (hr2.below hV) h4 (by omega) hg)
      have hwt := Lib.hid (fun V (hV : Below w.heap.size w V) (b : List Int) A4 k4 h4 => dweight_any c b A A4 k k4 V (hr.below hV) h4)
      have hh := fun V (hV : Below w.heap.size w V) => gohead_any c l vs s A A2 A3 k k2 k3 V (hr.below hV) (hr2.below hV) (hr3.below hV) (by omega) (by omega)
      have hun := Lib.hid (fun (z : ID) V (hV : Below w.heap.size w V) => under_any l x z A2 k2 V (hr2.below hV) (by omega))
      have hlaw := fun h => decide_eq_true (outvotes_law c (l := l) (v := vs) (s := s) (y := x) ot h)
      have hol := goldOf_len c vs s
      have hcl := comC_len c s
      obtain ⟨o, ho⟩ : ∃ o, goldOf c vs s = o := ⟨_, rfl⟩
      obtain ⟨cm, hcme⟩ : ∃ cm, comC c s = cm := ⟨_, rfl⟩
      obtain ⟨h, hhe⟩ : ∃ h, goldHead c l vs s = h := ⟨_, rfl⟩
      rw [ho] at hof hol hlaw
      rw [hcme] at hcm hcl hlaw
      rw [hhe] at hh hlaw
      have hob : ∀ g, 0 ≤ onC c l g x ∧ onC c l g x ≤ 13194139533312 := fun g => weightC_bd c _
      have hob' := Lib.hid hob
      have hwb' := Lib.hid (fun b => weightC_bd c b)
      have hgl := Lib.hid (show (goodV ot o).length ≤ 30 from Nat.le_trans (List.length_filter_le _ _) (by omega))
      have hlaw' := Lib.hid hlaw
      clear hlaw ho hcme hhe hob
      have hoI : o.length ≤ 30 := by omega
      unfold cfgv at *
      unfold idv at *
      have hon := Lib.hid hon.out
      have hwt := Lib.hid hwt.out
      have hun := Lib.hid hun.out
      have hW : ∃ W, ((w.alloc (.cells #[.slice A c.W.length k, .int .u64 c.seed, .int .i64 c.epoch, .int .i64 c.num, .int .i64 c.den] 25)).alloc (.cells #[.slice A2 l.length k2, .slice A3 vs.length k3] 29)).alloc (.cells #[.int .u64 x.hi, .int .u64 x.lo] 35) = W := ⟨_, rfl⟩
      obtain ⟨W, hW⟩ := hW
      have hB : Below w.heap.size w W := by subst hW; exact (((Below.refl _ w).alloc (Nat.le_refl _) _).alloc (by simp <;> omega) _).alloc (by simp <;> omega) _
      have b0 : W.heap[w.heap.size]? = some (.cells #[.slice A c.W.length k, .int .u64 c.seed, .int .i64 c.epoch, .int .i64 c.num, .int .i64 c.den] 25 (0, 0)) := by subst hW; exact ha_lt (ha_lt (ha_at rfl))
      have b1 : W.heap[w.heap.size + 1]? = some (.cells #[.slice A2 l.length k2, .slice A3 vs.length k3] 29 (0, 0)) := by subst hW; exact ha_lt (ha_at (by simp))
      have b2 : W.heap[w.heap.size + 1 + 1]? = some (.cells #[.int .u64 x.hi, .int .u64 x.lo] 35 (0, 0)) := by subst hW; exact ha_at (by simp)
      go_enter Tryz.func6, Tryz.ntmps6
      go_wp2_with (first
        | (go_at_call 16; (with_reducible refine (haw _).mono ?_); clear haw; rintro e w1 ⟨rfl, hb1⟩; have hB1 := below_call hB hB.size hb1; have a0 := bl_own hb1 b0; have a1 := bl_own hb1 b1; have a2 := bl_own hb1 b2; obtain ⟨p0, p1, p2, p3, p4⟩ := blk5 a0; obtain ⟨p5, p6, _, _⟩ := blk2 a1; obtain ⟨p7, p8, _, _⟩ := blk2 a2)
        | (go_at_call 17; (with_reducible refine (hfew _).mono ?_); clear hfew; rintro e w2 ⟨rfl, hb2⟩; have hB2 := below_call hB1 hB1.size hb2; have d0 := bl_own hb2 a0; have d1 := bl_own hb2 a1; have d2 := bl_own hb2 a2; obtain ⟨q0, q1, q2, q3, q4⟩ := blk5 d0; obtain ⟨q5, q6, _, _⟩ := blk2 d1; obtain ⟨q7, q8, _, _⟩ := blk2 d2)
        | (go_at_call 19; (with_reducible refine (hof _ hB2).mono ?_); clear hof; rintro e w3 ⟨A4, k4, rfl, hR4, hb3⟩; have hB3 := below_call hB2 hB2.size hb3; have f0 := bl_own hb3 d0; have f1 := bl_own hb3 d1; have f2 := bl_own hb3 d2; obtain ⟨r0, r1, r2, r3, r4⟩ := blk5 f0; obtain ⟨r5, r6, _, _⟩ := blk2 f1; obtain ⟨r7, r8, _, _⟩ := blk2 f2))
      clear p0 q0 r0 p1 q1 r1 p2 q2 r2 p3 q3 r3 p4 q4 r4 p5 q5 r5 p6 q6 r6 p7 q7 r7 p8 q8 r8 a0 a1 a2 d0 d1 d2 b0 b1 b2 hb1 hb2 hb3 hB hB1 hB2 hW
      have hr93 := hr9.below hB3
      go_loopw [14, 16, 17] (fun gd i _u17 wr => ∃ j : Nat, j ≤ o.length ∧ i = .int .i64 j ∧ Own wr w3.heap.size 42 4 encVote gd (goodV ot (o.take j)) ∧ Below w3.heap.size w3 wr) (fun _ i _ _ => o.length - (intOf i).toNat)
      case atStart => exact ⟨0, Nat.zero_le _, rfl, Own.nil _ _ _ _ _, Below.refl _ _⟩
      case round =>
        obtain ⟨j, hj, rfl, hgo, hBW⟩ := hrel
        obtain ⟨A5, k5, hv5, hR5⟩ := hgo.rd encVote_len
        subst hv5
        have hsz := hBW.size
        by_cases hlt : j < o.length
        · obtain ⟨b, ofs, rfl, hbo, d0, d1, d2, d3⟩ := (hR4.below hBW).atVote hlt
          have hha := has14_any o[j].frm ot A9 k9 wr (hr93.below hBW)
          have hls := Lib.hid (show goodV ot (o.take (j + 1)) = goodV ot (o.take j) ++ goodV ot [o[j]] by rw [← List.take_append_getElem hlt]; exact List.filter_append _ _)
          have hkl : (goodV ot (o.take j)).length ≤ j := Nat.le_trans (List.length_filter_le _ _) (by simp; omega)
          by_cases hk : o[j].frm ∈ ot
          · have hkk := Lib.hid (show goodV ot (o.take (j + 1)) = goodV ot (o.take j) by rw [hls.out]; simp [goodV, hk])
            rw [decide_eq_true hk] at hha
            clear hk
            go_wp2_with (go_at_call 27; (with_reducible refine hha.mono ?_); clear hha; rintro e w9 ⟨rfl, hw9⟩; subst hw9)
            go_roundw
            case rel => exact ⟨j + 1, hlt, by go_num, by rw [hkk.out]; exact hgo, hBW⟩
            case measure => simp [intOf]; omega
          · have hkk := Lib.hid (show goodV ot [o[j]] = [o[j]] by simp [goodV, hk])
            rw [decide_eq_false hk] at hha
            clear hk
            have hoA := hgo.below ((Below.refl _ wr).alloc (Nat.le_refl _) (.cells #[.int .i64 o[j].frm, .int .i64 o[j].slot, .int .u64 o[j].head.hi, .int .u64 o[j].head.lo] 42))
            go_wp2_with (first
              | (go_at_call 27; (with_reducible refine hha.mono ?_); clear hha; rintro e w9 ⟨rfl, hw9⟩; subst hw9)
              | (at_builtin; refine wp_append1 rfl rfl hunV infoV rfl (by decide) encVote_len encVote_one rfl hoA (g := w9.heap.size) (c := 1) rfl (y := o[j]) (ha_at rfl) rfl (by omega) (by unfold maxLen; omega) (by simp; omega) ?_; intro v6 w6 ho6 hg6 _))
            go_roundw
            case rel => exact ⟨j + 1, hlt, by go_num, by rw [hls.out, hkk.out]; exact ho6, (hBW.alloc hBW.size _).grown hg6 (by simp; omega) (fun k e => (hoA.base k e).1)⟩
            case measure => simp [intOf]; omega
        · obtain rfl : j = o.length := by omega
          rw [List.take_length] at hgo hR5 ⊢
          obtain ⟨g, hge⟩ : ∃ g, goodV ot o = g := ⟨_, rfl⟩
          rw [hge] at hgo hR5 hgl hlaw' ⊢
          have hgl2 := hgl.out
          have hB4 := below_call hB3 hB3.size hBW
          have g0 := bl_own hBW f0
          have g1 := bl_own hBW f1
          have g2 := bl_own hBW f2
          obtain ⟨r0, r1, r2, r3, r4⟩ := blk5 g0
          clear hge hBW hgo
          go_wp2_with (go_at_call 28; (with_reducible refine (hcm _ hB4).mono ?_); clear hcm; rintro e w6 ⟨u, rfl, ho6, hb6⟩; have hB6 := below_call hB4 hB4.size hb6; obtain ⟨A6, k6, hu, hR6⟩ := ho6.rd encI_len; subst hu; have hR56 := hR5.below hb6; have i0 := bl_own hb6 g0; have i1 := bl_own hb6 g1; have i2 := bl_own hb6 g2)
          clear r0 r1 r2 r3 r4 g0 g1 g2 f0 f1 f2 hb6 ho6 hR5 hB4 hB3 hR4 hr93 hsz
          go_loopw [15, 19, 20, 21] (fun bd i _u20 _u21 wr => ∃ j : Nat, j ≤ cm.length ∧ i = .int .i64 j ∧ Own wr w6.heap.size 3 1 encI bd (badI l x g (cm.take j)) ∧ Below w6.heap.size w6 wr) (fun _ i _ _ _ => cm.length - (intOf i).toNat)
          case atStart => exact ⟨0, Nat.zero_le _, rfl, Own.nil _ _ _ _ _, Below.refl _ _⟩
          case round =>
            obtain ⟨j, hj, rfl, hbo, hBW⟩ := hrel
            obtain ⟨A7, k7, hv7, hR7⟩ := hbo.rd encI_len
            subst hv7
            have hBr := below_call hB6 hB6.size hBW
            have hsz := hBW.size
            by_cases hlt : j < cm.length
            · have hls := Lib.hid (show badI l x g (cm.take (j + 1)) = badI l x g (cm.take j) ++ badI l x g [cm[j]] by rw [← List.take_append_getElem hlt]; exact List.filter_append _ _)
              have hkl : (badI l x g (cm.take j)).length ≤ j := Nat.le_trans (List.length_filter_le _ _) (by simp; omega)
              obtain ⟨f, hf⟩ : ∃ f, cm[j] = f := ⟨_, rfl⟩
              rw [hf] at hls
              have hcell := Lib.hid (show ∃ b ofs, A6 = some ⟨b, ofs, none⟩ ∧ ∀ V, Below w6.heap.size w6 V → V.cell? ⟨b, ofs + j, none⟩ = some (.int .i64 f) from by
                obtain ⟨b, ofs, e, _, _⟩ := hR6.atI hlt
                refine ⟨b, ofs, e, fun V hV => ?_⟩
                obtain ⟨b', ofs', e', _, d⟩ := (hR6.below hV).atI hlt
                rw [e] at e'
                cases e'
                rw [hf] at d
                exact d)
              obtain ⟨b6, o6, rfl, hc6⟩ := hcell.out
              have hc6' := Lib.hid hc6
              clear hc6 hf hcell
              go_wp2_with fail
              rename World => wo
              go_loopw [20, 21] (fun q i wv => ∃ kk : Nat, kk ≤ g.length ∧ i = .int .i64 kk ∧ q = .bool (anyIn l x f (g.take kk)) ∧ Below wo.heap.size wo wv) (fun _ i _ => g.length - (intOf i).toNat)
              case atStart => exact ⟨0, Nat.zero_le _, rfl, rfl, Below.refl _ _⟩
              case round =>
                obtain ⟨kk, hkk, rfl, rfl, hBX⟩ := hrel
                have hBx := below_call hBW hBW.size hBX
                have hBxw := below_call hB6 hB6.size hBx
                have cf := hc6'.out _ hBx
                by_cases hlt3 : kk < g.length
                · obtain ⟨b3, o3, rfl, hbo3, d0, d1, d2, d3⟩ := (hR56.below hBx).atVote hlt3
                  have hsn := anyIn_snoc (l := l) (y := x) (f := f) hlt3
                  obtain ⟨z, hz⟩ : ∃ z, g[kk] = z := ⟨_, rfl⟩
                  rw [hz] at d0 d1 d2 d3 hsn
                  clear hz
                  obtain ⟨r0, r1, r2, r3, r4⟩ := blk5 (bl_own hBx i0)
                  obtain ⟨r5, r6, _, _⟩ := blk2 (bl_own hBx i1)
                  obtain ⟨r7, r8, _, _⟩ := blk2 (bl_own hBx i2)
                  have hun1 := fun p => hun.out z.head (gr wr p) (hBxw.trans ((gr_below _ _).mono hBxw.size))
                  obtain ⟨q, hq⟩ : ∃ q, anyIn l x f (g.take kk) = q := ⟨_, rfl⟩
                  obtain ⟨uz, huz⟩ : ∃ uz, decide (x ∈ chain l z.head) = uz := ⟨_, rfl⟩
                  rw [hq, huz] at hsn
                  rw [huz] at hun1
                  rw [hq]
                  clear hq huz
                  cases q with
                  | true =>
                    have hs2 := Lib.hid (hsn.trans (show _ = true by simp))
                    clear hsn hun1
                    go_wp2_with fail
                    have hV : ∀ p, Below w.heap.size w (gr wr p) := fun p => hBxw.trans ((gr_below _ _).mono hBxw.size)
                    refine wp_region_gr (by kernel_rfl) (by kernel_rfl) ?_
                    repeat (go_big_quiet_step (fail))
                    refine wpQuiet_nil ?_
                    rintro _ ⟨pq, rfl⟩
                    go_wp2_with fail
                    go_roundw
                    case rel => exact ⟨kk + 1, hlt3, by go_num, by rw [hs2.out], below_call hBX hBX.size (gr_below _ _)⟩
                    case measure => simp [intOf]; omega
                  | false =>
                    by_cases he : z.frm = f
                    · have hb1 : (z.frm == f) = true := by simpa using he
                      rw [decide_eq_true he] at hsn
                      clear he
                      cases uz with
                      | true =>
                        have hs2 := Lib.hid (hsn.trans (show _ = true by simp))
                        clear hsn
                        go_wp2_with fail
                        have yd0 := gr_cell d0
                        have yd2 := gr_cell d2
                        have yd3 := gr_cell d3
                        have ycf := gr_cell cf
                        have yr5 := gr_cell r5
                        have yr7 := gr_cell r7
                        have yr8 := gr_cell r8
                        have hV : ∀ p, Below w.heap.size w (gr wr p) := fun p => hBxw.trans ((gr_below _ _).mono hBxw.size)
                        refine wp_region_gr (by kernel_rfl) (by kernel_rfl) ?_
                        repeat (go_big_quiet_step ((first
                          | (go_at_call 29; with_reducible exact Calls.gr_of (hun1 _)))))
                        refine wpQuiet_nil ?_
                        rintro _ ⟨pq, rfl⟩
                        go_wp2_with fail
                        go_roundw
                        case rel => exact ⟨kk + 1, hlt3, by go_num, by rw [hs2.out], below_call hBX hBX.size (gr_below _ _)⟩
                        case measure => simp [intOf]; omega
                      | false =>
                        have hs2 := Lib.hid (hsn.trans (show _ = false by simp))
                        clear hsn
                        go_wp2_with fail
                        have yd0 := gr_cell d0
                        have yd2 := gr_cell d2
                        have yd3 := gr_cell d3
                        have ycf := gr_cell cf
                        have yr5 := gr_cell r5
                        have yr7 := gr_cell r7
                        have yr8 := gr_cell r8
                        have hV : ∀ p, Below w.heap.size w (gr wr p) := fun p => hBxw.trans ((gr_below _ _).mono hBxw.size)
                        refine wp_region_gr (by kernel_rfl) (by kernel_rfl) ?_
                        repeat (go_big_quiet_step ((first
                          | (go_at_call 29; with_reducible exact Calls.gr_of (hun1 _)))))
                        refine wpQuiet_nil ?_
                        rintro _ ⟨pq, rfl⟩
                        go_wp2_with fail
                        go_roundw
                        case rel => exact ⟨kk + 1, hlt3, by go_num, by rw [hs2.out], below_call hBX hBX.size (gr_below _ _)⟩
                        case measure => simp [intOf]; omega
                    · have hb1 : (z.frm == f) = false := by simpa using he
                      rw [decide_eq_false he] at hsn
                      have hs2 := Lib.hid (hsn.trans (show _ = false by simp))
                      clear hsn he hun1
                      go_wp2_with fail
                      have yd0 := gr_cell d0
                      have ycf := gr_cell cf
                      have hV : ∀ p, Below w.heap.size w (gr wr p) := fun p => hBxw.trans ((gr_below _ _).mono hBxw.size)
                      refine wp_region_gr (by kernel_rfl) (by kernel_rfl) ?_
                      repeat (go_big_quiet_step (fail))
                      refine wpQuiet_nil ?_
                      rintro _ ⟨pq, rfl⟩
                      go_wp2_with fail
                      go_roundw
                      case rel => exact ⟨kk + 1, hlt3, by go_num, by rw [hs2.out], below_call hBX hBX.size (gr_below _ _)⟩
                      case measure => simp [intOf]; omega
                · obtain rfl : kk = g.length := by omega
                  rw [List.take_length]
                  obtain ⟨q, hq⟩ : ∃ q, anyIn l x f g = q := ⟨_, rfl⟩
                  rw [hq]
                  cases q with
                  | true =>
                    have hkk := Lib.hid (show badI l x g (cm.take (j + 1)) = badI l x g (cm.take j) by rw [hls.out]; simp [badI, hq])
                    clear hq
                    go_wp2_with fail
                    go_roundw
                    case rel => exact ⟨j + 1, hlt, by go_num, by rw [hkk.out]; exact hbo.below hBX, hBx⟩
                    case measure => simp [intOf]; omega
                  | false =>
                    have hkk := Lib.hid (show badI l x g [f] = [f] by simp [badI, hq])
                    clear hq
                    have hbx := hbo.below hBX
                    have hszx := hBx.size
                    have hoA := hbx.below ((Below.refl _ wr).alloc (Nat.le_refl _) (.cells #[.int .i64 f] 3))
                    go_wp2_with (at_builtin; refine wp_append1 rfl rfl hunI infoI rfl (by decide) encI_len encI_one rfl hoA (g := wr.heap.size) (c := 1) rfl (y := f) (ha_at rfl) rfl (by omega) (by unfold maxLen; omega) (by simp; omega) ?_; intro v9 w9 ho9 hg9 _)
                    go_roundw
                    case rel => exact ⟨j + 1, hlt, by go_num, by rw [hls.out, hkk.out]; exact ho9, (hBx.alloc hBx.size _).grown hg9 (by simp; omega) (fun k e => (hoA.base k e).1)⟩
                    case measure => simp [intOf]; omega
            · obtain rfl : j = cm.length := by omega
              rw [List.take_length] at hbo hR7 ⊢
              obtain ⟨bd, hbd⟩ : ∃ bd, badI l x g cm = bd := ⟨_, rfl⟩
              rw [hbd] at hbo hR7 hlaw' ⊢
              clear hbd
              have g0 := bl_own hBW i0
              have g1 := bl_own hBW i1
              have g2 := bl_own hBW i2
              have hon1 := fun p => hon.out (gr wr p) (hBr.trans ((gr_below _ _).mono hBr.size)) g (by omega) A5 k5 ((hR56.below hBW).below (gr_below _ _))
              have hwt1 := fun p => hwt.out (gr wr p) (hBr.trans ((gr_below _ _).mono hBr.size)) bd A7 k7 (hR7.below (gr_below _ _))
              have hob1 := hob'.out g
              have hwb1 := hwb'.out bd
              have hlaw1 := hlaw'.out
              have hun1 := fun V hV => hun.out h V hV
              obtain ⟨nn, hnn⟩ : ∃ nn, onC c l g x = nn := ⟨_, rfl⟩
              obtain ⟨mm, hmm⟩ : ∃ mm, weightC c bd = mm := ⟨_, rfl⟩
              obtain ⟨ux, hux⟩ : ∃ ux, decide (x ∈ chain l h) = ux := ⟨_, rfl⟩
              rw [hnn] at hon1 hob1 hlaw1
              rw [hmm] at hwt1 hwb1 hlaw1
              rw [hux] at hun1 hlaw1
              have hlaw2 := Lib.hid hlaw1
              clear hnn hmm hux hlaw1 hlaw' hbo
              obtain ⟨r0, r1, r2, r3, r4⟩ := blk5 g0
              obtain ⟨r5, r6, _, _⟩ := blk2 g1
              obtain ⟨r7, r8, _, _⟩ := blk2 g2
              go_wp2_with fail
              have yr0 := gr_cell r0
              have yr1 := gr_cell r1
              have yr2 := gr_cell r2
              have yr3 := gr_cell r3
              have yr4 := gr_cell r4
              have yr5 := gr_cell r5
              have yr6 := gr_cell r6
              have yr7 := gr_cell r7
              have yr8 := gr_cell r8
              have hV : ∀ p, Below w.heap.size w (gr wr p) := fun p => hBr.trans ((gr_below _ _).mono hBr.size)
              refine wp_region_gr (by kernel_rfl) (by kernel_rfl) ?_
              repeat (go_big_quiet_step ((first
                | (go_at_call 30; with_reducible exact Calls.gr_of (hon1 _))
                | (go_at_call 31; with_reducible exact Calls.gr_of (hwt1 _)))))
              refine wpQuiet_nil ?_
              rintro _ ⟨pq, rfl⟩
              have hB5 := hV pq
              have hb5 := gr_below wr pq
              generalize gr wr pq = w5 at hB5 hb5 ⊢
              clear yr0 r0 yr1 r1 yr2 r2 yr3 r3 yr4 r4 yr5 r5 yr6 r6 yr7 r7 yr8 r8 hV hon1 hwt1
              have f0 := bl_own hb5 g0; have f1 := bl_own hb5 g1; have f2 := bl_own hb5 g2
              obtain ⟨s0, s1, s2, s3, s4⟩ := blk5 f0
              obtain ⟨s5, s6, _, _⟩ := blk2 f1
              obtain ⟨s7, s8, _, _⟩ := blk2 f2
              by_cases hc : nn ≤ mm
              · go_wp2_with fail
                go_ret
                exact ⟨rfl, hB5⟩
              · have hux := hlaw2.out (by omega)
                subst hux
                go_wp2_with fail
                have ys0 := gr_cell s0
                have ys1 := gr_cell s1
                have ys2 := gr_cell s2
                have ys3 := gr_cell s3
                have ys4 := gr_cell s4
                have ys5 := gr_cell s5
                have ys6 := gr_cell s6
                have ys7 := gr_cell s7
                have ys8 := gr_cell s8
                have hV : ∀ p, Below w.heap.size w (gr w5 p) := fun p => hB5.trans ((gr_below _ _).mono hB5.size)
                refine wp_region_gr (by kernel_rfl) (by kernel_rfl) ?_
                repeat (go_big_quiet_step ((first
                  | (go_at_call 21; with_reducible exact Calls.gr_of (hh _ (hV _)))
                  | (go_at_call 29; with_reducible exact Calls.gr_of (hun1 _ (hV _))))))
                refine wpQuiet_nil ?_
                rintro _ ⟨pq, rfl⟩
                go_wp2
                go_ret
                exact ⟨rfl, hV _⟩
    · have e1 : 40 < (ot.length : Int) := by omega
      unfold cfgv at *
      unfold idv at *
      have hW : ∃ W, ((w.alloc (.cells #[.slice A c.W.length k, .int .u64 c.seed, .int .i64 c.epoch, .int .i64 c.num, .int .i64 c.den] 25)).alloc (.cells #[.slice A2 l.length k2, .slice A3 vs.length k3] 29)).alloc (.cells #[.int .u64 x.hi, .int .u64 x.lo] 35) = W := ⟨_, rfl⟩
      obtain ⟨W, hW⟩ := hW
      have hB : Below w.heap.size w W := by subst hW; exact (((Below.refl _ w).alloc (Nat.le_refl _) _).alloc (by simp <;> omega) _).alloc (by simp <;> omega) _
      have b0 : W.heap[w.heap.size]? = some (.cells #[.slice A c.W.length k, .int .u64 c.seed, .int .i64 c.epoch, .int .i64 c.num, .int .i64 c.den] 25 (0, 0)) := by subst hW; exact ha_lt (ha_lt (ha_at rfl))
      have b1 : W.heap[w.heap.size + 1]? = some (.cells #[.slice A2 l.length k2, .slice A3 vs.length k3] 29 (0, 0)) := by subst hW; exact ha_lt (ha_at (by simp))
      have b2 : W.heap[w.heap.size + 1 + 1]? = some (.cells #[.int .u64 x.hi, .int .u64 x.lo] 35 (0, 0)) := by subst hW; exact ha_at (by simp)
      go_enter Tryz.func6, Tryz.ntmps6
      go_wp2_with (first
        | (go_at_call 16; (with_reducible refine (haw _).mono ?_); clear haw; rintro e w1 ⟨rfl, hb1⟩; have hB1 := below_call hB hB.size hb1; have a0 := bl_own hb1 b0; have a1 := bl_own hb1 b1; have a2 := bl_own hb1 b2; obtain ⟨p0, p1, p2, p3, p4⟩ := blk5 a0; obtain ⟨p5, p6, _, _⟩ := blk2 a1; obtain ⟨p7, p8, _, _⟩ := blk2 a2)
        | (go_at_call 17; (with_reducible refine (hfew _).mono ?_); clear hfew; rintro e w2 ⟨rfl, hb2⟩; have hB2 := below_call hB1 hB1.size hb2; have d0 := bl_own hb2 a0; have d1 := bl_own hb2 a1; have d2 := bl_own hb2 a2; obtain ⟨q0, q1, q2, q3, q4⟩ := blk5 d0; obtain ⟨q5, q6, _, _⟩ := blk2 d1; obtain ⟨q7, q8, _, _⟩ := blk2 d2))
      go_ret
      exact ⟨rfl, hB2⟩
  · rw [decide_eq_false hsm] at hfew
    clear hsm
    unfold cfgv at *
    unfold idv at *
    have hW : ∃ W, ((w.alloc (.cells #[.slice A c.W.length k, .int .u64 c.seed, .int .i64 c.epoch, .int .i64 c.num, .int .i64 c.den] 25)).alloc (.cells #[.slice A2 l.length k2, .slice A3 vs.length k3] 29)).alloc (.cells #[.int .u64 x.hi, .int .u64 x.lo] 35) = W := ⟨_, rfl⟩
    obtain ⟨W, hW⟩ := hW
    have hB : Below w.heap.size w W := by subst hW; exact (((Below.refl _ w).alloc (Nat.le_refl _) _).alloc (by simp <;> omega) _).alloc (by simp <;> omega) _
    have b0 : W.heap[w.heap.size]? = some (.cells #[.slice A c.W.length k, .int .u64 c.seed, .int .i64 c.epoch, .int .i64 c.num, .int .i64 c.den] 25 (0, 0)) := by subst hW; exact ha_lt (ha_lt (ha_at rfl))
    have b1 : W.heap[w.heap.size + 1]? = some (.cells #[.slice A2 l.length k2, .slice A3 vs.length k3] 29 (0, 0)) := by subst hW; exact ha_lt (ha_at (by simp))
    have b2 : W.heap[w.heap.size + 1 + 1]? = some (.cells #[.int .u64 x.hi, .int .u64 x.lo] 35 (0, 0)) := by subst hW; exact ha_at (by simp)
    go_enter Tryz.func6, Tryz.ntmps6
    go_wp2_with (first
      | (go_at_call 16; (with_reducible refine (haw _).mono ?_); clear haw; rintro e w1 ⟨rfl, hb1⟩; have hB1 := below_call hB hB.size hb1; have a0 := bl_own hb1 b0; have a1 := bl_own hb1 b1; have a2 := bl_own hb1 b2; obtain ⟨p0, p1, p2, p3, p4⟩ := blk5 a0; obtain ⟨p5, p6, _, _⟩ := blk2 a1; obtain ⟨p7, p8, _, _⟩ := blk2 a2)
      | (go_at_call 17; (with_reducible refine (hfew _).mono ?_); clear hfew; rintro e w2 ⟨rfl, hb2⟩; have hB2 := below_call hB1 hB1.size hb2; have d0 := bl_own hb2 a0; have d1 := bl_own hb2 a1; have d2 := bl_own hb2 a2; obtain ⟨q0, q1, q2, q3, q4⟩ := blk5 d0; obtain ⟨q5, q6, _, _⟩ := blk2 d1; obtain ⟨q7, q8, _, _⟩ := blk2 d2))
    go_ret
    exact ⟨rfl, hB2⟩
theorem out14_walk (A : Option Addr) (c : Cfg) (k : Nat) (A2 : Option Addr) (l : List Blk) (k2 : Nat) (A3 : Option Addr) (vs : List Vote) (k3 : Nat) (s : Int) (x : ID) (A9 : Option Addr) (ot : List Int) (k9 : Nat) (w : World) (_ : c.W.length ≤ k) (_ : k ≤ maxLen) (hr : Rd 1 encI w A c.W) (_ : c.Ok) (_ : l.length ≤ k2) (_ : k2 ≤ maxLen) (hr2 : Rd 5 encBlk w A2 l) (hok : ∀ b ∈ l, b.Ok) (_ : A2 = none → k2 = 0) (hlk : vs.length ≤ k3) (hkm : k3 ≤ maxLen) (hr3 : Rd 4 encVote w A3 vs) (_ : ∀ b ∈ vs, b.Ok) (hN : A3 = none → k3 = 0) (_ : I64 s) (_ : x.Ok) (_ : ot.length ≤ k9) (_ : k9 ≤ maxLen) (hr9 : Rd 1 encI w A9 ot) (_ : ∀ b ∈ ot, I64 b) (_ : A9 = none → k9 = 0) :
    Calls Tryz.prog 6 #[cfgv A k c, .agg #[.slice A2 l.length k2, .slice A3 vs.length k3], .int .i64 s, idv x, .slice A9 ot.length k9] w fun e w' => e = .returned (.bool true) ∧ Below w.heap.size w w' :=
  out14_any c l vs s x ot A A2 A3 A9 k k2 k3 k9 w hr hr2 hr3 hr9
end Go.Proofs.YtaohkcdfjjiggaaGreat
