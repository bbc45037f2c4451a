/- marigoldref07.Last, walked. -/
import Derived.Test.YtkccakaaklemdaaRefV6
namespace Go.Proofs.Ytkccakaaklemdaa
open Go.RowKit
set_option maxRecDepth 100000 in
set_option maxHeartbeats 4000000 in
theorem rvlast_any (l : List Vote) (u : Int) (A : Option Addr) (k : Nat) (w : World) (hr : Rd 4 encVote w A l) (hl : l.length ≤ 100000) :
    Calls Try.prog 26 #[.slice A l.length k, .int .i64 u] w fun e w' => ∃ v, e = .returned v ∧ Own w' w.heap.size 38 4 encVote v (lastL l u) ∧ Below w.heap.size w w' := by
  have hm := hr.1
  have hunV := Try.underlying27
  have hwho := rwho_any l A k w hr hl
  have hdb := Lib.hid (fun V (hV : Below w.heap.size w V) (s f : Int) => rdouble_any l s f A k V (hr.below hV))
  go_enter Try.func26, Try.ntmps26
  go_wp2_with (go_at_call 42; (with_reducible refine hwho.mono ?_); clear hwho; rintro e w1 ⟨r, A1, k1, rfl, hw, hs, hB1⟩; have hw' := Lib.hid hw; have hrl : r.length ≤ 100000 := Nat.le_trans hw.2.2 hl; have hR1 := hs.rd; have hm1 := hR1.1; clear hw)
  go_loopw [5, 7, 8, 9, 10, 11] (fun v i _u8 _u9 _u10 _u11 wr => ∃ (j : Nat) (out : List Vote), j ≤ r.length ∧ i = .int .i64 j ∧ Own wr w1.heap.size 38 4 encVote v out ∧ Hid (LastPart l u (r.take j) out) ∧ Below w1.heap.size w1 wr) (fun _ i _ _ _ _ _ => r.length - (intOf i).toNat)
  case atStart => exact ⟨0, [], Nat.zero_le _, rfl, Own.nil _ _ _ _ _, Lib.hid (by simpa using lap_nil l u), Below.refl _ _⟩
  case round =>
    obtain ⟨j, out, hj, rfl, hu, hop, hBW⟩ := hrel
    have hB := below_call hB1 hB1.size hBW
    by_cases hlt : j < r.length
    · obtain ⟨b', o', rfl, hbo, -⟩ := (hR1.below hBW).atI hlt
      have htk := Lib.hid (List.take_succ_eq_append_getElem hlt)
      have hst := Lib.hid (show ∀ V, Below w1.heap.size w1 V → V.cell? ⟨b', o' + j, none⟩ = some (.int .i64 r[j]) from fun V hV => by
        obtain ⟨b2, o2, he, _, q0⟩ := (hR1.below hV).atI hlt
        cases he
        exact q0)
      have hless := Lib.hid (show ∀ g ∈ r.take j, g < r[j] from fun g hg => by
        obtain ⟨i, hi, rfl⟩ := List.mem_take_iff_getElem.1 hg
        exact rises_le hw'.out.1 i j (by omega) hlt (by omega))
      obtain ⟨f, hfe⟩ : ∃ f, r[j] = f := ⟨_, rfl⟩
      rw [hfe] at htk hst hless
      clear hfe
      have hol : out.length ≤ 100000 := by have := hop.out.2.2; simp at this; omega
      have hub : ∀ k, u5.ownBlock = some k → w1.heap.size ≤ k := fun k hk => (hu.base k hk).1
      have htake := Lib.hid (show ∀ z, L1 l u f l.length z → LB l u f l.length false → LastPart l u (r.take (j + 1)) (out ++ [z]) from fun z h1 hb => by
        obtain ⟨h2, h3⟩ := last_is h1 hb
        rw [htk.out, ← h3]
        exact lap_take hop.out h2 (by rw [h3]; exact hless.out))
      have hskip := Lib.hid (show (∀ v, InLast l u v → v.frm ≠ f) → LastPart l u (r.take (j + 1)) out from fun h => by rw [htk.out]; exact lap_skip hop.out h)
      rename World => w5
      go_wp2_with fail
      go_loopw [8, 9, 10, 11] (fun a b i _u11 wr => ∃ (q : Nat) (bb : Bool), q ≤ l.length ∧ i = .int .i64 q ∧ b = .bool bb ∧ ((a = .int .i64 (-1) ∧ Hid (L0 l u f q)) ∨ ∃ (n : Nat) (hn : n < l.length), a = .int .i64 n ∧ Hid (L1 l u f q l[n])) ∧ Hid (LB l u f q bb) ∧ Below w5.heap.size w5 wr) (fun _ _ i _ _ => l.length - (intOf i).toNat)
      case atStart => exact ⟨0, false, Nat.zero_le _, rfl, rfl, .inl ⟨rfl, Lib.hid (by simp [L0])⟩, Lib.hid (by simp [LB]), Below.refl _ _⟩
      case round =>
        obtain ⟨q, bb, hq, rfl, rfl, hat, hlb, hBX⟩ := hrel
        have hB1x := below_call hBW hBW.size hBX
        have hBx := below_call hB hB.size hBX
        have d0 := hst.out _ hB1x
        by_cases hql : q < l.length
        · obtain ⟨b3, o3, rfl, hbo3, e0, e1, e2, e3⟩ := (hr.below hBx).atVote hql
          obtain ⟨y, hy⟩ : ∃ y, l[q] = y := ⟨_, rfl⟩
          rw [hy] at e0 e1 e2 e3
          have hym := List.getElem_mem hql
          have hy' := Lib.hid hy
          have hsy := Lib.hid (show ∀ V, Below w.heap.size w V → V.cell? ⟨b3, o3 + q * 4, none⟩ = some (.int .i64 y.frm) ∧ V.cell? ⟨b3, o3 + q * 4 + 1, none⟩ = some (.int .i64 y.slot) ∧ V.cell? ⟨b3, o3 + q * 4 + 2, none⟩ = some (.int .u64 y.head.hi) ∧ V.cell? ⟨b3, o3 + q * 4 + 3, none⟩ = some (.int .u64 y.head.lo) from fun V hV => by
            obtain ⟨b2, o2, he, _, q0, q1, q2, q3⟩ := (hr.below hV).atVote hql
            cases he
            rw [hy] at q0 q1 q2 q3
            exact ⟨q0, q1, q2, q3⟩)
          by_cases hmt : Mt u f y
          · have c1 : (y.frm != f) = false := by simp [hmt.1]
            have c2 : decide (u < y.slot) = false := by have := hmt.2; simp; omega
            have hlb2 := Lib.hid (lb_yes hql hy hlb.out hmt)
            obtain ⟨dd, hdd⟩ : ∃ dd, decide (Dbl l y.slot f) = dd := ⟨_, rfl⟩
            have hdd' := Lib.hid hdd
            rw [hdd] at hlb2
            rcases hat with ⟨rfl, h0⟩ | ⟨n, hn, rfl, h1⟩
            · have hl1 := Lib.hid (l0_yes hql hy h0.out hmt)
              clear hy hym hmt hdd
              cases bb with
              | false =>
                have hlb3 := Lib.hid (show LB l u f (q + 1) dd by have := hlb2.out; simpa using this)
                go_wp2_with fail
                go_quiet (fail)
                have hq6 := pw_below_drewN hBX nq
                generalize wr.drewN nq = w6 at hq6 ⊢
                have hB6 := below_call hB hB.size hq6
                have hB61 := below_call hBW hBW.size hq6
                have g0 := gr_cell (hst.out _ hB61)
                obtain ⟨y0, y1, y2, y3⟩ := hsy.out _ hB6
                have g1 := gr_cell y1
                have hdx := fun p => hdb.out (gr w6 p) (hB6.trans ((gr_below _ _).mono hB6.size)) y.slot f
                rw [hdd'.out] at hdx
                clear y0 y1 y2 y3 e0 e1 e2 e3 d0
                go_wp2_with fail
                refine wp_region_gr (by kernel_rfl) (by kernel_rfl) ?_
                repeat (go_big_quiet_step ((go_at_call 43; with_reducible exact Calls.gr_of (hdx _))))
                refine wpQuiet_nil ?_
                rintro _ ⟨pq, rfl⟩
                have hq7 := hq6.trans ((gr_below w6 pq).mono hq6.size)
                generalize gr w6 pq = w7 at hq7 ⊢
                have hB7 := below_call hB hB.size hq7
                obtain ⟨z0, z1, z2, z3⟩ := hsy.out _ hB7
                clear g0 g1 hdx hq6 hB6 hB61
                go_wp2_with fail
                go_quiet (fail)
                go_wp2_with fail
                go_roundw
                case rel => exact ⟨q + 1, dd, hql, by go_num, rfl, .inr ⟨q, hql, rfl, Lib.hid (by rw [hy'.out]; exact hl1.out)⟩, hlb3, pw_below_drewN hq7 _⟩
                case measure => simp [intOf]; omega
              | true =>
                have hlb3 := Lib.hid (show LB l u f (q + 1) true by have := hlb2.out; simpa using this)
                go_wp2_with fail
                go_quiet (fail)
                have hq6 := pw_below_drewN hBX nq
                generalize wr.drewN nq = w6 at hq6 ⊢
                have hB6 := below_call hB hB.size hq6
                have hB61 := below_call hBW hBW.size hq6
                have g0 := gr_cell (hst.out _ hB61)
                obtain ⟨y0, y1, y2, y3⟩ := hsy.out _ hB6
                have g1 := gr_cell y1
                have hdx := fun p => hdb.out (gr w6 p) (hB6.trans ((gr_below _ _).mono hB6.size)) y.slot f
                rw [hdd'.out] at hdx
                clear y0 y1 y2 y3 e0 e1 e2 e3 d0
                go_wp2_with fail
                refine wp_region_gr (by kernel_rfl) (by kernel_rfl) ?_
                repeat (go_big_quiet_step ((go_at_call 43; with_reducible exact Calls.gr_of (hdx _))))
                refine wpQuiet_nil ?_
                rintro _ ⟨pq, rfl⟩
                have hq7 := hq6.trans ((gr_below w6 pq).mono hq6.size)
                generalize gr w6 pq = w7 at hq7 ⊢
                have hB7 := below_call hB hB.size hq7
                obtain ⟨z0, z1, z2, z3⟩ := hsy.out _ hB7
                clear g0 g1 hdx hq6 hB6 hB61
                go_wp2_with fail
                go_quiet (fail)
                go_wp2_with fail
                go_roundw
                case rel => exact ⟨q + 1, true, hql, by go_num, rfl, .inr ⟨q, hql, rfl, Lib.hid (by rw [hy'.out]; exact hl1.out)⟩, hlb3, pw_below_drewN hq7 _⟩
                case measure => simp [intOf]; omega
            · have hsz := Lib.hid (show ∀ V, Below w.heap.size w V → V.cell? ⟨b3, o3 + n * 4 + 1, none⟩ = some (.int .i64 l[n].slot) from fun V hV => by
                obtain ⟨b2, o2, he, _, q0, q1, q2, q3⟩ := (hr.below hV).atVote hn
                cases he
                exact q1)
              have hL1 := h1.out
              obtain ⟨z, hz⟩ : ∃ z, l[n] = z := ⟨_, rfl⟩
              rw [hz] at hsz hL1
              have hz' := Lib.hid hz
              have c4 : decide ((n : Int) < 0) = false := by simp
              by_cases hzs : z.slot < y.slot
              · have hl1 := Lib.hid (l1_new hql hy hL1 hmt hzs)
                have c3 : decide (z.slot < y.slot) = true := by simpa using hzs
                clear hy hym hmt hdd hL1 hz hzs h1
                cases bb with
                | false =>
                  have hlb3 := Lib.hid (show LB l u f (q + 1) dd by have := hlb2.out; simpa using this)
                  go_wp2_with fail
                  go_quiet (fail)
                  have hq6 := pw_below_drewN hBX nq
                  generalize wr.drewN nq = w6 at hq6 ⊢
                  have hB6 := below_call hB hB.size hq6
                  have hB61 := below_call hBW hBW.size hq6
                  have g0 := gr_cell (hst.out _ hB61)
                  obtain ⟨y0, y1, y2, y3⟩ := hsy.out _ hB6
                  have g1 := gr_cell y1
                  have hdx := fun p => hdb.out (gr w6 p) (hB6.trans ((gr_below _ _).mono hB6.size)) y.slot f
                  rw [hdd'.out] at hdx
                  clear y0 y1 y2 y3 e0 e1 e2 e3 d0
                  go_wp2_with fail
                  refine wp_region_gr (by kernel_rfl) (by kernel_rfl) ?_
                  repeat (go_big_quiet_step ((go_at_call 43; with_reducible exact Calls.gr_of (hdx _))))
                  refine wpQuiet_nil ?_
                  rintro _ ⟨pq, rfl⟩
                  have hq7 := hq6.trans ((gr_below w6 pq).mono hq6.size)
                  generalize gr w6 pq = w7 at hq7 ⊢
                  have hB7 := below_call hB hB.size hq7
                  obtain ⟨z0, z1, z2, z3⟩ := hsy.out _ hB7
                  have z5 := hsz.out _ hB7
                  clear g0 g1 hdx hq6 hB6 hB61
                  go_wp2_with fail
                  go_quiet (fail)
                  go_wp2_with fail
                  go_roundw
                  case rel => exact ⟨q + 1, dd, hql, by go_num, rfl, .inr ⟨q, hql, rfl, Lib.hid (by rw [hy'.out]; exact hl1.out)⟩, hlb3, pw_below_drewN hq7 _⟩
                  case measure => simp [intOf]; omega
                | true =>
                  have hlb3 := Lib.hid (show LB l u f (q + 1) true by have := hlb2.out; simpa using this)
                  go_wp2_with fail
                  go_quiet (fail)
                  have hq6 := pw_below_drewN hBX nq
                  generalize wr.drewN nq = w6 at hq6 ⊢
                  have hB6 := below_call hB hB.size hq6
                  have hB61 := below_call hBW hBW.size hq6
                  have g0 := gr_cell (hst.out _ hB61)
                  obtain ⟨y0, y1, y2, y3⟩ := hsy.out _ hB6
                  have g1 := gr_cell y1
                  have hdx := fun p => hdb.out (gr w6 p) (hB6.trans ((gr_below _ _).mono hB6.size)) y.slot f
                  rw [hdd'.out] at hdx
                  clear y0 y1 y2 y3 e0 e1 e2 e3 d0
                  go_wp2_with fail
                  refine wp_region_gr (by kernel_rfl) (by kernel_rfl) ?_
                  repeat (go_big_quiet_step ((go_at_call 43; with_reducible exact Calls.gr_of (hdx _))))
                  refine wpQuiet_nil ?_
                  rintro _ ⟨pq, rfl⟩
                  have hq7 := hq6.trans ((gr_below w6 pq).mono hq6.size)
                  generalize gr w6 pq = w7 at hq7 ⊢
                  have hB7 := below_call hB hB.size hq7
                  obtain ⟨z0, z1, z2, z3⟩ := hsy.out _ hB7
                  have z5 := hsz.out _ hB7
                  clear g0 g1 hdx hq6 hB6 hB61
                  go_wp2_with fail
                  go_quiet (fail)
                  go_wp2_with fail
                  go_roundw
                  case rel => exact ⟨q + 1, true, hql, by go_num, rfl, .inr ⟨q, hql, rfl, Lib.hid (by rw [hy'.out]; exact hl1.out)⟩, hlb3, pw_below_drewN hq7 _⟩
                  case measure => simp [intOf]; omega
              · have hl1 := Lib.hid (l1_keep hql hy hL1 (fun _ => by omega))
                have c3 : decide (z.slot < y.slot) = false := by simpa using hzs
                clear hy hym hmt hdd hL1 hz hzs h1
                cases bb with
                | false =>
                  have hlb3 := Lib.hid (show LB l u f (q + 1) dd by have := hlb2.out; simpa using this)
                  go_wp2_with fail
                  go_quiet (fail)
                  have hq6 := pw_below_drewN hBX nq
                  generalize wr.drewN nq = w6 at hq6 ⊢
                  have hB6 := below_call hB hB.size hq6
                  have hB61 := below_call hBW hBW.size hq6
                  have g0 := gr_cell (hst.out _ hB61)
                  obtain ⟨y0, y1, y2, y3⟩ := hsy.out _ hB6
                  have g1 := gr_cell y1
                  have hdx := fun p => hdb.out (gr w6 p) (hB6.trans ((gr_below _ _).mono hB6.size)) y.slot f
                  rw [hdd'.out] at hdx
                  clear y0 y1 y2 y3 e0 e1 e2 e3 d0
                  go_wp2_with fail
                  refine wp_region_gr (by kernel_rfl) (by kernel_rfl) ?_
                  repeat (go_big_quiet_step ((go_at_call 43; with_reducible exact Calls.gr_of (hdx _))))
                  refine wpQuiet_nil ?_
                  rintro _ ⟨pq, rfl⟩
                  have hq7 := hq6.trans ((gr_below w6 pq).mono hq6.size)
                  generalize gr w6 pq = w7 at hq7 ⊢
                  have hB7 := below_call hB hB.size hq7
                  obtain ⟨z0, z1, z2, z3⟩ := hsy.out _ hB7
                  have z5 := hsz.out _ hB7
                  clear g0 g1 hdx hq6 hB6 hB61
                  go_wp2_with fail
                  go_quiet (fail)
                  go_wp2_with fail
                  go_roundw
                  case rel => exact ⟨q + 1, dd, hql, by go_num, rfl, .inr ⟨n, hn, rfl, Lib.hid (by rw [hz'.out]; exact hl1.out)⟩, hlb3, pw_below_drewN hq7 _⟩
                  case measure => simp [intOf]; omega
                | true =>
                  have hlb3 := Lib.hid (show LB l u f (q + 1) true by have := hlb2.out; simpa using this)
                  go_wp2_with fail
                  go_quiet (fail)
                  have hq6 := pw_below_drewN hBX nq
                  generalize wr.drewN nq = w6 at hq6 ⊢
                  have hB6 := below_call hB hB.size hq6
                  have hB61 := below_call hBW hBW.size hq6
                  have g0 := gr_cell (hst.out _ hB61)
                  obtain ⟨y0, y1, y2, y3⟩ := hsy.out _ hB6
                  have g1 := gr_cell y1
                  have hdx := fun p => hdb.out (gr w6 p) (hB6.trans ((gr_below _ _).mono hB6.size)) y.slot f
                  rw [hdd'.out] at hdx
                  clear y0 y1 y2 y3 e0 e1 e2 e3 d0
                  go_wp2_with fail
                  refine wp_region_gr (by kernel_rfl) (by kernel_rfl) ?_
                  repeat (go_big_quiet_step ((go_at_call 43; with_reducible exact Calls.gr_of (hdx _))))
                  refine wpQuiet_nil ?_
                  rintro _ ⟨pq, rfl⟩
                  have hq7 := hq6.trans ((gr_below w6 pq).mono hq6.size)
                  generalize gr w6 pq = w7 at hq7 ⊢
                  have hB7 := below_call hB hB.size hq7
                  obtain ⟨z0, z1, z2, z3⟩ := hsy.out _ hB7
                  have z5 := hsz.out _ hB7
                  clear g0 g1 hdx hq6 hB6 hB61
                  go_wp2_with fail
                  go_quiet (fail)
                  go_wp2_with fail
                  go_roundw
                  case rel => exact ⟨q + 1, true, hql, by go_num, rfl, .inr ⟨n, hn, rfl, Lib.hid (by rw [hz'.out]; exact hl1.out)⟩, hlb3, pw_below_drewN hq7 _⟩
                  case measure => simp [intOf]; omega
          · have hlb2 := Lib.hid (lb_no hql hy hlb.out hmt)
            have hat2 : (u8 = .int .i64 (-1) ∧ Hid (L0 l u f (q + 1))) ∨ ∃ (n : Nat) (hn : n < l.length), u8 = .int .i64 n ∧ Hid (L1 l u f (q + 1) l[n]) := by
              rcases hat with ⟨h1, h0⟩ | ⟨n, hn, h1, h2⟩
              · exact .inl ⟨h1, Lib.hid (l0_no hql hy h0.out hmt)⟩
              · exact .inr ⟨n, hn, h1, Lib.hid (l1_keep hql hy h2.out (fun h => absurd h hmt))⟩
            have hat3 := Lib.hid hat2
            clear hat hat2 hy hym
            by_cases hf : y.frm = f
            · have c1 : (y.frm != f) = false := by simp [hf]
              have c2 : decide (u < y.slot) = true := by
                have : ¬ y.slot ≤ u := fun h => hmt ⟨hf, h⟩
                simp; omega
              clear hmt hf
              go_wp2_with fail
              go_quiet (fail)
              go_wp2_with fail
              go_roundw
              case rel => exact ⟨q + 1, bb, hql, by go_num, rfl, hat3.out, hlb2, pw_below_drewN hBX _⟩
              case measure => simp [intOf]; omega
            · have c1 : (y.frm != f) = true := by simpa using hf
              clear hmt hf
              go_wp2_with fail
              go_quiet (fail)
              go_wp2_with fail
              go_roundw
              case rel => exact ⟨q + 1, bb, hql, by go_num, rfl, hat3.out, hlb2, pw_below_drewN hBX _⟩
              case measure => simp [intOf]; omega
        · obtain rfl : q = l.length := by omega
          have hu2 := hu.below hBX
          rcases hat with ⟨rfl, h0⟩ | ⟨n, hn, rfl, h1⟩
          · have hs2 := Lib.hid (hskip.out (last_no0 h0.out))
            go_wp2_with fail
            go_roundw
            case rel => exact ⟨j + 1, out, hlt, by go_num, hu2, hs2, hB1x⟩
            case measure => simp [intOf]; omega
          · have c4 : decide ((0 : Int) ≤ (n : Int)) = true := by simp
            cases bb with
            | true =>
              have hs2 := Lib.hid (hskip.out (last_noB hlb.out))
              go_wp2_with fail
              go_roundw
              case rel => exact ⟨j + 1, out, hlt, by go_num, hu2, hs2, hB1x⟩
              case measure => simp [intOf]; omega
            | false =>
              have hs2 := Lib.hid (htake.out _ h1.out hlb.out)
              obtain ⟨b3, o3, rfl, hbo3, e0, e1, e2, e3⟩ := (hr.below hBx).atVote hn
              obtain ⟨z, hz⟩ : ∃ z, l[n] = z := ⟨_, rfl⟩
              rw [hz] at e0 e1 e2 e3 hs2
              clear hz h1
              have hvl := vlay wr z
              have hu4 := hu2.below hvl.1
              have hB4 := below_call hB1x hB1x.size hvl.1
              have hx4 := hvl.2
              clear hvl
              go_wp2_with (at_builtin; refine wp_append1 rfl rfl hunV infoV rfl (by decide) encVote_len encVote_one rfl hu4 (g := wr.heap.size) (c := 1) rfl (y := z) hx4 rfl (by omega) (by unfold maxLen; omega) hB4.size ?_; intro v6 w6 hu6 hg6 hat6)
              go_roundw
              case rel => exact ⟨j + 1, out ++ [z], hlt, by go_num, hu6, hs2, below_step hB4 hB4.size hg6 hub⟩
              case measure => simp [intOf]; omega
    · obtain rfl : j = r.length := by omega
      have ho := hop.out
      rw [List.take_length] at ho
      have he := lap_all hw'.out ho
      subst he
      obtain ⟨A2, k2, rfl, _⟩ := hu.rd encVote_len
      clear ho
      go_wp2_with fail
      go_ret
      exact ⟨_, rfl, hu.mono hB1.size, hB⟩
end Go.Proofs.Ytkccakaaklemdaa
