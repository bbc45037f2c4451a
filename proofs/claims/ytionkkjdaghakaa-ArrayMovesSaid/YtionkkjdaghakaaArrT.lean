/- marigoldref10.Move and Top, walked. -/
import Derived.Test.YtionkkjdaghakaaArrS
namespace Go.Proofs.Ytionkkjdaghakaa
open Go.RowKit
set_option maxRecDepth 100000 in
set_option maxHeartbeats 2000000 in
theorem rmove_any (a : List Item) (id : ID) (y : Int) (A : Option Addr) (c : Nat) (w : World) (hr : Rd 7 encItem w A a) (hN : A = none → c = 0) :
    Calls Try.prog 14 #[.slice A a.length c, idv id, .int .i64 y] w fun e w' => (∃ l v, e = .returned (.tuple #[v, .int .i64 (mvE a id y)]) ∧ Own w' w.heap.size 43 7 encItem v l ∧ MvP a id y l) ∧ Below w.heap.size w w' := by
  have hm := hr.1
  have hun := Try.underlying22
  have hWs : ∃ W, w.alloc (.cells #[.int .u64 id.hi, .int .u64 id.lo] 25) = W := ⟨_, rfl⟩
  obtain ⟨W, hW⟩ := hWs
  have hB : Below w.heap.size w W := by subst hW; exact (Below.refl _ w).alloc (Nat.le_refl _) _
  have b0 : W.heap[w.heap.size]? = some (.cells #[.int .u64 id.hi, .int .u64 id.lo] 25 (0, 0)) := by subst hW; exact ha_at rfl
  have hf1 := fun V (hV : Below w.heap.size w V) => rfind_any a id A c V (hr.below hV)
  have hmay := rmay10_any a A c W (hr.below hB) hN
  have hfs := find_spec a id
  have hE : mvE a id y = if ¬ MayA a then 1 else if findI a id = -1 then 3 else if y < -1125899906842624 ∨ y > 1125899906842624 ∨ (itm a (findI a id).toNat).own + y < 0 ∨ (itm a (findI a id).toNat).own + y > 1125899906842624 then 1 else 0 := rfl
  have hIP : ∀ l, MvP a id y l ↔ (mvE a id y ≠ 0 → l = []) ∧ (mvE a id y = 0 → Settled l ∧ SameSk l (moved a (findI a id).toNat y)) := fun l => Iff.rfl
  obtain ⟨E, hEE⟩ : ∃ E, mvE a id y = E := ⟨_, rfl⟩
  rw [hEE] at hE hIP ⊢
  clear hEE
  generalize MvP a id y = IP at hIP ⊢
  obtain ⟨f1, hf1e⟩ : ∃ f, findI a id = f := ⟨_, rfl⟩
  rw [hf1e] at hE hf1 hIP hfs
  clear hf1e
  unfold idv at *
  have hIP' := Lib.hid hIP
  clear hIP
  by_cases hM : MayA a
  · rw [if_neg (fun h => h hM)] at hE
    rw [decide_eq_true hM] at hmay
    have hMl := hM.1
    rcases hfs with ⟨rfl, _⟩ | ⟨k, hk, rfl, _, _⟩
    · rw [if_pos rfl] at hE
      clear hM
      subst hE
      go_enter Try.func14, Try.ntmps14
      go_wp2_with (first
        | (go_at_call 10; refine hmay.mono ?_; clear hmay; rintro e w1 ⟨rfl, hb1⟩; have hB1 := below_call hB hB.size hb1; obtain ⟨c0, c1, _, _⟩ := blk2 (bl_own hb1 b0))
        | (go_at_call 22; refine (hf1 _ hB1).mono ?_; clear hf1; rintro e w2 ⟨rfl, hb2⟩; have hB2 := below_call hB1 hB1.size hb2))
      go_ret2
      exact ⟨⟨[], _, rfl, Own.nil _ _ _ _ _, (hIP'.out []).2 ⟨fun _ => rfl, fun h => by omega⟩⟩, hB2⟩
    · rw [if_neg (by omega)] at hE
      simp only [Int.toNat_natCast] at hE hIP'
      have hown := (hM.2.1 k hk).2.2.2.2
      have hk0 : ¬ ((k : Int) < 0) := by omega
      obtain ⟨bb, oo, rfl, _, _, _, _, x3, _, _, _⟩ := hr.atItem hk
      have hx3 := fun V (hV : Below w.heap.size w V) => (hV.cell (World.block_lt_of_cell? _ _ x3)).trans x3
      by_cases hc : y < -1125899906842624 ∨ y > 1125899906842624 ∨ (itm a k).own + y < 0 ∨ (itm a k).own + y > 1125899906842624
      · rw [if_pos hc] at hE
        clear hM
        subst hE
        go_enter Try.func14, Try.ntmps14
        go_wp2_with (first
          | (go_at_call 10; refine hmay.mono ?_; clear hmay; rintro e w1 ⟨rfl, hb1⟩; have hB1 := below_call hB hB.size hb1; obtain ⟨c0, c1, _, _⟩ := blk2 (bl_own hb1 b0))
          | (go_at_call 22; refine (hf1 _ hB1).mono ?_; clear hf1; rintro e w2 ⟨rfl, hb2⟩; have hB2 := below_call hB1 hB1.size hb2; have d3 := hx3 _ hB2))
        all_goals
          go_ret2
          exact ⟨⟨[], _, rfl, Own.nil _ _ _ _ _, (hIP'.out []).2 ⟨fun _ => rfl, fun h => by omega⟩⟩, hB2⟩
      · rw [if_neg hc] at hE
        have hy : -1125899906842624 ≤ y ∧ y ≤ 1125899906842624 := by omega
        have hc3 : 0 ≤ (itm a k).own + y := by omega
        have hc4 : (itm a k).own + y ≤ 1125899906842624 := by omega
        have hmo := moved_ok hM hk hc3 hc4
        have hml : (moved a k y).length = a.length := by simp [moved]
        have hanew := fun B d V (hR : Rd 7 encItem V B (moved a k y)) (hBN : B = none → d = 0) => anew_any (moved a k y) (by rw [hml]; omega) hmo.1 hmo.2 B d V hR hBN
        rw [hml] at hanew
        have hbb : (([] : List Item).length + a.length) * 56 ≤ 140737488355328 := by simp; omega
        have hll : ([] : List Item).length + a.length ≤ maxLen := by simp [maxLen]; omega
        have hnb : ∀ j, (Value.slice none 0 0).ownBlock = some j → w.heap.size ≤ j := fun j e => by simp [Value.ownBlock] at e
        clear hM hc hmo hml
        subst hE
        go_enter Try.func14, Try.ntmps14
        go_wp2_with (first
          | (go_at_call 10; refine hmay.mono ?_; clear hmay; rintro e w1 ⟨rfl, hb1⟩; have hB1 := below_call hB hB.size hb1; obtain ⟨c0, c1, _, _⟩ := blk2 (bl_own hb1 b0))
          | (go_at_call 22; refine (hf1 _ hB1).mono ?_; clear hf1; rintro e w2 ⟨rfl, hb2⟩; have hB2 := below_call hB1 hB1.size hb2; have d3 := hx3 _ hB2)
          | (at_builtin; refine wp_append_all rfl rfl hun infoIt rfl (by decide) encItem_len encItem_one rfl (Own.nil w2 w.heap.size _ _ _) rfl hN (hr.below hB2) hbb hll hB2.size ?_; intro v4 w4 ho4 hg4 hat4; have hB4 := below_step hB2 hB2.size hg4 hnb; rw [List.nil_append] at ho4; obtain ⟨g, cap, hv⟩ := ho4.lies (by omega); subst hv; obtain ⟨_, _, _, e3, _, _, _⟩ := ho4.atItem hk; have f3 := ho4.free (k * 7 + 3); have ho5 := ho4.setF hk 3 (by omega) (.int .i64 ((itm a k).own + y)) { itm a k with own := (itm a k).own + y } rfl; have hB5 := below_step hB4 hB4.size (grown_set w4 ⟨g, k * 7 + 3, none⟩ (.int .i64 ((itm a k).own + y))) (fun j hj => by cases hj; exact (ho4.base g rfl).1); rw [show a.set k { itm a k with own := (itm a k).own + y } = moved a k y from rfl] at ho5; have han := hanew _ cap _ (ho5.rdg encItem_len) (fun e => by cases e); clear hanew)
          | (go_at_call 23; refine han.mono ?_; clear han; rintro e w7 ⟨⟨l, v, rfl, hol, hsl, hskl⟩, hb7⟩; have hB7 := below_call hB5 hB5.size hb7))
        go_ret2
        exact ⟨⟨l, v, rfl, hol.mono hB5.size, (hIP'.out l).2 ⟨fun h => absurd rfl h, fun _ => ⟨hsl, hskl⟩⟩⟩, hB7⟩
  · rw [if_pos hM] at hE
    rw [decide_eq_false hM] at hmay
    clear hM hfs
    subst hE
    go_enter Try.func14, Try.ntmps14
    go_wp2_with (go_at_call 10; refine hmay.mono ?_; clear hmay; rintro e w1 ⟨rfl, hb1⟩; have hB1 := below_call hB hB.size hb1)
    go_ret2
    exact ⟨⟨[], _, rfl, Own.nil _ _ _ _ _, (hIP'.out []).2 ⟨fun _ => rfl, fun h => by omega⟩⟩, hB1⟩
set_option maxRecDepth 100000 in
set_option maxHeartbeats 2000000 in
theorem rtop_any (a : List Item) (A : Option Addr) (c : Nat) (w : World) (hr : Rd 7 encItem w A a) (hN : A = none → c = 0) :
    Calls Try.prog 18 #[.slice A a.length c] w fun e w' => e = .returned (idv (topA a)) ∧ Below w.heap.size w w' := by
  have hm := hr.1
  have hWs : ∃ W, w.alloc (.cells #[.int .u64 0, .int .u64 0] 25) = W := ⟨_, rfl⟩
  obtain ⟨W, hW⟩ := hWs
  have hB : Below w.heap.size w W := by subst hW; exact (Below.refl _ w).alloc (Nat.le_refl _) _
  have b0 : W.heap[w.heap.size]? = some (.cells #[.int .u64 0, .int .u64 0] 25 (0, 0)) := by subst hW; exact ha_at rfl
  have hmay := rmay10_any a A c W (hr.below hB) hN
  have hta := Lib.hid (show topA a = if MayA a then topP a else zid from rfl)
  obtain ⟨t, ht⟩ : ∃ t, topA a = t := ⟨_, rfl⟩
  rw [ht] at hta ⊢
  clear ht
  by_cases hM : MayA a
  · rw [decide_eq_true hM] at hmay
    have hta2 := Lib.hid (hta.out.trans (if_pos hM))
    have hp := Lib.hid hM.2.1.parOk
    have hs := Lib.hid hM.2.2
    have htp := Lib.hid (show topP a = if best a (-1) = -1 then zid else (itm a (itm a (best a (-1)).toNat).head.toNat).id from rfl)
    clear hta hM
    go_enter Try.func18, Try.ntmps18
    go_wp2_with (go_at_call 10; refine hmay.mono ?_; clear hmay; rintro e w1 ⟨rfl, hb1⟩; have hB1 := below_call hB hB.size hb1; have b1 := bl_own hb1 b0)
    go_loopw [4, 5, 6] (fun m i x6 wr => ∃ k : Nat, k ≤ a.length ∧ i = .int .i64 k ∧ m = .int .i64 (bestTo a (-1) k) ∧ Below w1.heap.size w1 wr) (fun _ i _ _ => a.length - (intOf i).toNat)
    case atStart => exact ⟨0, Nat.zero_le _, rfl, rfl, Below.refl _ _⟩
    case round =>
      obtain ⟨k, hk, rfl, rfl, hBW⟩ := hrel
      have hB2 := below_call hB1 hB1.size hBW
      by_cases hlt : k < a.length
      · obtain ⟨b, o, rfl, _, c0, c1, c2, c3, c4, c5, c6⟩ := (hr.below hB2).atItem hlt
        have hstep : bestTo a (-1) (k + 1) = if (itm a k).par = -1 ∧ (bestTo a (-1) k = -1 ∨ better (itm a k) (itm a (bestTo a (-1) k).toNat) = true) then (k : Int) else bestTo a (-1) k := rfl
        have hsp := bestTo_spec a (-1) k
        obtain ⟨m, hm2⟩ : ∃ m, bestTo a (-1) k = m := ⟨_, rfl⟩
        rw [hm2] at hstep hsp ⊢
        clear hm2
        by_cases hpar : (itm a k).par = -1
        · by_cases hmm : m = -1
          · rw [if_pos ⟨hpar, .inl hmm⟩] at hstep
            have hstep' := Lib.hid hstep
            clear hstep hsp
            subst hmm
            go_wp2_with fail
            go_roundw
            case rel => exact ⟨k + 1, hlt, by go_num, by rw [hstep'.out], hBW⟩
            case measure => simp [intOf]; omega
          · obtain ⟨j, hj, hjp, rfl⟩ : ∃ j : Nat, j < k ∧ (itm a j).par = -1 ∧ m = j := by rcases hsp with h | ⟨j, h1, h2, h3⟩; exact absurd h hmm; exact ⟨j, h1, h2, h3⟩
            simp only [Int.toNat_natCast] at hstep
            have hja : j < a.length := by omega
            obtain ⟨b', o', he, _, d0, d1, d2, d3, d4, d5, d6⟩ := (hr.below hB2).atItem hja
            cases he
            have hbet := fun V => rbetter_any (itm a k) (itm a j) V
            unfold itemv at hbet
            rw [hpar, hjp] at hbet
            have hBg : ∀ p, Below w1.heap.size w1 (gr wr p) := fun p => hBW.trans ((gr_below _ _).mono hBW.size)
            have z0 := gr_cell c0
            have z1 := gr_cell c1
            have z2 := gr_cell c2
            have z3 := gr_cell c3
            have z4 := gr_cell c4
            have z5 := gr_cell c5
            have z6 := gr_cell c6
            have p0 := gr_cell d0
            have p1 := gr_cell d1
            have p2 := gr_cell d2
            have p3 := gr_cell d3
            have p4 := gr_cell d4
            have p5 := gr_cell d5
            have p6 := gr_cell d6
            clear hsp
            obtain ⟨r, hrr⟩ : ∃ r, better (itm a k) (itm a j) = r := ⟨_, rfl⟩
            rw [hrr] at hbet
            cases r with
            | true =>
              have hstep' := Lib.hid (hstep.trans (if_pos ⟨hpar, .inr hrr⟩))
              clear hstep hrr
              go_wp2_with fail
              refine wp_region_gr (by kernel_rfl) (by kernel_rfl) ?_
              repeat (go_big_quiet_step ((go_at_call 31; with_reducible exact Calls.gr_of (hbet _))))
              refine wpQuiet_nil ?_
              rintro _ ⟨pq, rfl⟩
              go_wp2_with fail
              go_roundw
              case rel => exact ⟨k + 1, hlt, by go_num, by rw [hstep'.out], hBg pq⟩
              case measure => simp [intOf]; omega
            | false =>
              have hstep' := Lib.hid (hstep.trans (if_neg (fun h => by rcases h.2 with h | h; omega; rw [hrr] at h; cases h)))
              clear hstep hrr
              go_wp2_with fail
              refine wp_region_gr (by kernel_rfl) (by kernel_rfl) ?_
              repeat (go_big_quiet_step ((go_at_call 31; with_reducible exact Calls.gr_of (hbet _))))
              refine wpQuiet_nil ?_
              rintro _ ⟨pq, rfl⟩
              go_wp2_with fail
              go_roundw
              case rel => exact ⟨k + 1, hlt, by go_num, by rw [hstep'.out], hBg pq⟩
              case measure => simp [intOf]; omega
        · rw [if_neg (fun h => hpar h.1)] at hstep
          have hstep' := Lib.hid hstep
          clear hstep hsp
          go_wp2_with fail
          go_roundw
          case rel => exact ⟨k + 1, hlt, by go_num, by rw [hstep'.out], hBW⟩
          case measure => simp [intOf]; omega
      · obtain rfl : k = a.length := by omega
        obtain ⟨c0, c1, f0, f1⟩ := blk2 (bl_own hBW b1)
        rcases bestTo_spec a (-1) a.length with h | ⟨j, j1, j2, j3⟩
        · have h' : best a (-1) = -1 := h
          have e1 : t = zid := by rw [hta2.out, htp.out, if_pos h']
          rw [h]
          clear hta2 htp h h'
          subst e1
          go_wp2_with fail
          refine bodyPost_ret (v := idv zid) ?_ rfl ⟨rfl, ?_⟩
          · simp [results, Try.results18, go_sem, c0, c1, idv]
          · exact (hB2.setCell (p := ⟨w.heap.size, 0, none⟩) (by simp) _).setCell (p := ⟨w.heap.size, 1, none⟩) (by simp) _
        · have h' : best a (-1) = j := j3
          obtain ⟨q, q1, q2, q3, q4⟩ := head_lt hp.out hs.out j j1
          have e1 : t = (itm a q).id := by
            rw [hta2.out, htp.out, if_neg (by omega), h']
            simp only [Int.toNat_natCast]
            rw [q1]
            simp only [Int.toNat_natCast]
          rw [j3]
          obtain ⟨bb, oo, rfl, _, _, _, _, _, _, _, d6⟩ := (hr.below hB2).atItem j1
          obtain ⟨bb2, oo2, he, _, d0, d1, _, _, _, _, _⟩ := (hr.below hB2).atItem q3
          cases he
          rw [q1] at d6
          clear hta2 htp h' j3
          subst e1
          go_wp2_with fail
          refine bodyPost_ret (v := idv (itm a q).id) ?_ rfl ⟨rfl, ?_⟩
          · simp [results, Try.results18, go_sem, c0, c1, idv]
          · exact (hB2.setCell (p := ⟨w.heap.size, 0, none⟩) (by simp) _).setCell (p := ⟨w.heap.size, 1, none⟩) (by simp) _
  · rw [decide_eq_false hM] at hmay
    have e1 : t = zid := hta.out.trans (if_neg hM)
    clear hta hM
    subst e1
    go_enter Try.func18, Try.ntmps18
    go_wp2_with (go_at_call 10; refine hmay.mono ?_; clear hmay; rintro e w1 ⟨rfl, hb1⟩; have hB1 := below_call hB hB.size hb1; have b1 := bl_own hb1 b0)
    go_loopw [4, 5, 6] (fun m i x6 wr => i = .int .i64 0 ∧ m = .int .i64 (-1) ∧ wr = w1) (fun _ i _ _ => 0)
    case atStart => exact ⟨rfl, rfl, rfl⟩
    case round =>
      obtain ⟨rfl, rfl, rfl⟩ := hrel
      obtain ⟨c0, c1, f0, f1⟩ := blk2 b1
      go_wp2_with fail
      all_goals
        refine bodyPost_ret (v := idv zid) ?_ rfl ⟨rfl, ?_⟩
        · simp [results, Try.results18, go_sem, c0, c1, idv]
        · exact (hB1.setCell (p := ⟨w.heap.size, 0, none⟩) (by simp) _).setCell (p := ⟨w.heap.size, 1, none⟩) (by simp) _
end Go.Proofs.Ytionkkjdaghakaa
