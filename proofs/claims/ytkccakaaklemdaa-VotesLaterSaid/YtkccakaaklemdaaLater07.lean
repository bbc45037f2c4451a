/- VotesLater, walked. -/
import Derived.Test.YtkccakaaklemdaaRead0
import Derived.Test.YtkccakaaklemdaaEachP
namespace Go.Proofs.Ytkccakaaklemdaa
open Go.RowKit
theorem max_ex {p : Vote → Prop} [DecidablePred p] : ∀ {l : List Vote}, (∃ x ∈ l, p x) → ∃ x ∈ l, p x ∧ ∀ y ∈ l, p y → y.slot ≤ x.slot
  | [], h => by obtain ⟨x, hx, _⟩ := h; cases hx
  | a :: l, h => by
    by_cases hl : ∃ x ∈ l, p x
    · obtain ⟨x, hx, hp, hm⟩ := max_ex hl
      by_cases ha : p a ∧ x.slot < a.slot
      · refine ⟨a, by simp, ha.1, fun y hy hpy => ?_⟩
        rcases List.mem_cons.1 hy with rfl | hy
        · exact Int.le_refl _
        · have := hm y hy hpy; omega
      · refine ⟨x, by simp [hx], hp, fun y hy hpy => ?_⟩
        rcases List.mem_cons.1 hy with rfl | hy
        · by_cases h1 : x.slot < y.slot
          · exact absurd ⟨hpy, h1⟩ ha
          · omega
        · exact hm y hy hpy
    · obtain ⟨x, hx, hp⟩ := h
      rcases List.mem_cons.1 hx with rfl | hx
      · refine ⟨x, by simp, hp, fun y hy hpy => ?_⟩
        rcases List.mem_cons.1 hy with rfl | hy
        · exact Int.le_refl _
        · exact absurd ⟨y, hy, hpy⟩ hl
      · exact absurd ⟨x, hx, hp⟩ hl
theorem later_law {l : List Vote} {v : Vote} {u : Int} (hv : v ∈ l) (hu : v.slot ≤ u) (hno : ∀ x ∈ lastL l u, x.frm ≠ v.frm) : ∃ y ∈ l, y.frm = v.frm ∧ y.slot ≤ u ∧ Dbl l y.slot v.frm := by
  by_cases h : ∃ y ∈ l, y.frm = v.frm ∧ y.slot ≤ u ∧ Dbl l y.slot v.frm
  · exact h
  · exfalso
    obtain ⟨x, hx, ⟨hf, hs⟩, hm⟩ := max_ex (p := fun x => x.frm = v.frm ∧ x.slot ≤ u) ⟨v, hv, rfl, hu⟩
    refine hno x (((lastL_is l u).2 x).2 ⟨hx, hs, fun y hy hyf hyu => hm y hy ⟨hyf.trans hf, hyu⟩, fun y hy hyf hyu hd => h ⟨y, hy, hyf.trans hf, hyu, ?_⟩⟩) hf
    rw [← hf]; exact hd
theorem later_ge {l : List Vote} {v x : Vote} {u : Int} (hv : v ∈ l) (hu : v.slot ≤ u) (hx : x ∈ lastL l u) (hf : x.frm = v.frm) : v.slot ≤ x.slot :=
  (((lastL_is l u).2 x).1 hx).2.2.1 v hv hf.symm hu
set_option maxRecDepth 100000 in
set_option maxHeartbeats 4000000 in
theorem later_any (l : List Vote) (u at_ : Int) (A : Option Addr) (k : Nat) (w : World) (hr : Rd 4 encVote w A l) :
    Calls Try.prog 10 #[.slice A l.length k, .int .i64 u, .int .i64 at_] w fun e w' => e = .returned (.bool true) ∧ Below w.heap.size w w' := by
  have hm := hr.1
  have haw := awake7_any w
  by_cases hsm : l.length ≤ 40 ∧ 0 ≤ at_ ∧ at_ < l.length
  · obtain ⟨h1, h2, h3⟩ := hsm
    obtain ⟨n, rfl⟩ := Int.eq_ofNat_of_zero_le h2
    have hn : n < l.length := by omega
    have b1 : decide (40 < l.length) = false := by simp; omega
    have b2 : decide (40 < (l.length : Int)) = false := by simp; omega
    have b3 : decide ((n : Int) < 0) = false := by simp
    have b4 : decide ((l.length : Int) ≤ (n : Int)) = false := by simp; omega
    obtain ⟨bv, ov, rfl, hbv, _⟩ := hr.atVote hn
    have hvm := List.getElem_mem hn
    have hst : ∀ V, Below w.heap.size w V → V.cell? ⟨bv, ov + n * 4, none⟩ = some (.int .i64 l[n].frm) ∧ V.cell? ⟨bv, ov + n * 4 + 1, none⟩ = some (.int .i64 l[n].slot) := fun V hV => by
      obtain ⟨b2, o2, he, _, q0, q1, _⟩ := (hr.below hV).atVote hn
      cases he
      exact ⟨q0, q1⟩
    obtain ⟨v, hv⟩ : ∃ v, l[n] = v := ⟨_, rfl⟩
    rw [hv] at hst hvm
    have hst' := Lib.hid hst
    clear hst hv h2
    by_cases hu : v.slot ≤ u
    · have b5 : decide (u < v.slot) = false := by simp; omega
      have hge := Lib.hid (fun x h1 h2 => later_ge (x := x) hvm hu h1 h2)
      have hex := Lib.hid (fun h => later_law hvm hu h)
      have hla := fun V (hV : Below w.heap.size w V) => vlast_any l u _ k V (hr.below hV) (by omega)
      have hdo := Lib.hid (fun V (hV : Below w.heap.size w V) (s : Int) => doubles_any l s _ k V (hr.below hV) (by omega))
      have hml := lastL_len l u
      obtain ⟨m, hmm⟩ : ∃ m, lastL l u = m := ⟨_, rfl⟩
      rw [hmm] at hge hex hla hml
      have hml4 : m.length ≤ 40 := by omega
      clear hmm hml hu hvm
      go_enter Try.func10, Try.ntmps10
      go_wp2_with (first
        | (go_at_call 19; (with_reducible refine haw.mono ?_); clear haw; rintro e w1 ⟨rfl, hB1⟩; obtain ⟨c0, c1⟩ := hst'.out _ hB1)
        | (go_at_call 25; (with_reducible refine (hla _ hB1).mono ?_); clear hla; rintro e w2 ⟨q, rfl, hq2, hb2⟩; obtain ⟨A2, k2, rfl, hR2⟩ := hq2.rd encVote_len; have hB2 := below_call hB1 hB1.size hb2))
      clear c0 c1 hB1 hb2 hq2
      go_loopw [9] (fun i wr => ∃ j : Nat, j ≤ m.length ∧ i = .int .i64 j ∧ Hid (∀ x ∈ m.take j, x.frm ≠ v.frm) ∧ Below w2.heap.size w2 wr) (fun i _ => m.length - (intOf i).toNat)
      case atStart => exact ⟨0, Nat.zero_le _, rfl, Lib.hid (by simp), Below.refl _ _⟩
      case round =>
        obtain ⟨j, hj, rfl, hno, hBW⟩ := hrel
        have hBr := below_call hB2 hB2.size hBW
        obtain ⟨c0, c1⟩ := hst'.out _ hBr
        by_cases hlt : j < m.length
        · obtain ⟨b', o', rfl, hbo, d0, d1, d2, d3⟩ := (hR2.below hBW).atVote hlt
          have hxm := List.getElem_mem hlt
          have htk := Lib.hid (List.take_succ_eq_append_getElem hlt)
          obtain ⟨x, hx⟩ : ∃ x, m[j] = x := ⟨_, rfl⟩
          rw [hx] at d0 d1 d2 d3 hxm htk
          clear hx
          by_cases hf : x.frm = v.frm
          · have c2 : (x.frm == v.frm) = true := by simpa using hf
            have hle := hge.out x hxm hf
            have c3 : decide (v.slot ≤ x.slot) = true := by simpa using hle
            clear hxm hf
            go_wp2_with fail
            go_quiet (fail)
            go_wp2_with fail
            go_quiet (fail)
            go_wp2_with fail
            go_ret
            exact ⟨rfl, pw_below_drewN (pw_below_drewN hBr _) _⟩
          · have c2 : (x.frm == v.frm) = false := by simpa using hf
            have hno2 : ∀ y ∈ m.take (j + 1), y.frm ≠ v.frm := fun y hy => by
              rw [htk.out] at hy
              rcases List.mem_append.1 hy with hy | hy
              · exact hno.out y hy
              · rw [List.mem_singleton.1 hy]; exact hf
            have hno2' := Lib.hid hno2
            clear hxm hf hno2
            go_wp2_with fail
            go_quiet (fail)
            go_wp2_with fail
            go_roundw
            case rel => exact ⟨j + 1, hlt, by go_num, hno2', pw_below_drewN hBW _⟩
            case measure => simp [intOf]; omega
        · obtain rfl : j = m.length := by omega
          have hno2 := hno.out
          rw [List.take_length] at hno2
          have hex2 := Lib.hid (hex.out hno2)
          rename World => w3
          clear hno2 hno hex c0 c1 hBW
          go_wp2_with fail
          go_loopw [10, 11, 12] (fun i _u11 _u12 wr => ∃ j : Nat, j ≤ l.length ∧ i = .int .i64 j ∧ Hid (∀ y ∈ l.take j, ¬ (y.frm = v.frm ∧ y.slot ≤ u ∧ Dbl l y.slot v.frm)) ∧ Below w3.heap.size w3 wr) (fun i _ _ _ => l.length - (intOf i).toNat)
          case atStart => exact ⟨0, Nat.zero_le _, rfl, Lib.hid (by simp), Below.refl _ _⟩
          case round =>
            obtain ⟨j2, hj2, rfl, hno, hBW⟩ := hrel
            have hBt := below_call hBr hBr.size hBW
            by_cases hlt : j2 < l.length
            · obtain ⟨b', o', he, hbo, d0, d1, d2, d3⟩ := (hr.below hBt).atVote hlt
              cases he
              obtain ⟨c0, c1⟩ := hst'.out _ hBt
              have htk := Lib.hid (List.take_succ_eq_append_getElem hlt)
              obtain ⟨y, hy⟩ : ∃ y, l[j2] = y := ⟨_, rfl⟩
              rw [hy] at d0 d1 d2 d3 htk
              clear hy
              have hnext := Lib.hid (fun (h : ¬ (y.frm = v.frm ∧ y.slot ≤ u ∧ Dbl l y.slot v.frm)) => show ∀ z ∈ l.take (j2 + 1), ¬ (z.frm = v.frm ∧ z.slot ≤ u ∧ Dbl l z.slot v.frm) from fun z hz => by
                rw [htk.out] at hz
                rcases List.mem_append.1 hz with hz | hz
                · exact hno.out z hz
                · rw [List.mem_singleton.1 hz]; exact h)
              by_cases hf : y.frm = v.frm
              · have c2 : (y.frm == v.frm) = true := by simpa using hf
                by_cases hs : y.slot ≤ u
                · have c3 : decide (y.slot ≤ u) = true := by simpa using hs
                  have hdis := (dblL_is l y.slot)
                  have hdl := dblL_len l y.slot
                  have hdo2 := fun V (hV : Below w.heap.size w V) => hdo.out V hV y.slot
                  obtain ⟨d, hd⟩ : ∃ d, dblL l y.slot = d := ⟨_, rfl⟩
                  rw [hd] at hdis hdl hdo2
                  have hmem := Lib.hid (hdis.2 v.frm)
                  have hnot := Lib.hid (fun (h : v.frm ∉ d) => hnext.out (fun hh => h (hmem.out.2 hh.2.2)))
                  have hdl4 : d.length ≤ 40 := by omega
                  clear hd hdis hdl hf hs
                  go_wp2_with fail
                  go_quiet (fail)
                  go_wp2_with (go_at_call 21; (with_reducible refine (hdo2 _ (pw_below_drewN hBt _)).mono ?_); clear hdo2; rintro e w4 ⟨q, rfl, hq4, hb4⟩; obtain ⟨A4, k4, rfl, hR4⟩ := hq4.rd encI_len; have hB4 := below_call (pw_below_drewN hBt _) hBt.size hb4; have hB34 := below_call (pw_below_drewN hBW _) hBW.size hb4)
                  clear c0 c1 d0 d1 d2 d3 hq4 hb4
                  go_loopw [12] (fun i wr => ∃ j : Nat, j ≤ d.length ∧ i = .int .i64 j ∧ Hid (v.frm ∉ d.take j) ∧ Below w4.heap.size w4 wr) (fun i _ => d.length - (intOf i).toNat)
                  case atStart => exact ⟨0, Nat.zero_le _, rfl, Lib.hid (by simp), Below.refl _ _⟩
                  case round =>
                    obtain ⟨j3, hj3, rfl, hnd, hBX⟩ := hrel
                    have hBx := below_call hB4 hB4.size hBX
                    have hB3x := below_call hB34 hB34.size hBX
                    obtain ⟨c0, c1⟩ := hst'.out _ hBx
                    by_cases hlt3 : j3 < d.length
                    · obtain ⟨b3, o3, rfl, hbo3, d0⟩ := (hR4.below hBX).atI hlt3
                      have htk3 := Lib.hid (List.take_succ_eq_append_getElem hlt3)
                      obtain ⟨z, hz⟩ : ∃ z, d[j3] = z := ⟨_, rfl⟩
                      rw [hz] at d0 htk3
                      clear hz
                      by_cases hzf : z = v.frm
                      · have c3 : (z == v.frm) = true := by simpa using hzf
                        clear hzf
                        go_wp2_with fail
                        go_quiet (fail)
                        go_wp2_with fail
                        go_ret
                        exact ⟨rfl, pw_below_drewN hBx _⟩
                      · have c3 : (z == v.frm) = false := by simpa using hzf
                        have hnd2 := Lib.hid (show v.frm ∉ d.take (j3 + 1) by
                          rw [htk3.out, List.mem_append, List.mem_singleton]
                          rintro (h | h)
                          · exact hnd.out h
                          · exact hzf h.symm)
                        clear hzf
                        go_wp2_with fail
                        go_quiet (fail)
                        go_wp2_with fail
                        go_roundw
                        case rel => exact ⟨j3 + 1, hlt3, by go_num, hnd2, pw_below_drewN hBX _⟩
                        case measure => simp [intOf]; omega
                    · obtain rfl : j3 = d.length := by omega
                      have hnd2 := hnd.out
                      rw [List.take_length] at hnd2
                      have hnx := Lib.hid (hnot.out hnd2)
                      clear hnd2
                      go_wp2_with fail
                      go_roundw
                      case rel => exact ⟨j2 + 1, hlt, by go_num, hnx, hB3x⟩
                      case measure => simp [intOf]; omega
                · have c3 : decide (y.slot ≤ u) = false := by simpa using hs
                  have hnx := Lib.hid (hnext.out (fun h => hs h.2.1))
                  clear hf hs
                  go_wp2_with fail
                  go_quiet (fail)
                  go_wp2_with fail
                  go_roundw
                  case rel => exact ⟨j2 + 1, hlt, by go_num, hnx, pw_below_drewN hBW _⟩
                  case measure => simp [intOf]; omega
              · have c2 : (y.frm == v.frm) = false := by simpa using hf
                have hnx := Lib.hid (hnext.out (fun h => hf h.1))
                clear hf
                go_wp2_with fail
                go_quiet (fail)
                go_wp2_with fail
                go_roundw
                case rel => exact ⟨j2 + 1, hlt, by go_num, hnx, pw_below_drewN hBW _⟩
                case measure => simp [intOf]; omega
            · exfalso
              obtain rfl : j2 = l.length := by omega
              have h := hno.out
              rw [List.take_length] at h
              obtain ⟨y, hy, hyp⟩ := hex2.out
              exact h y hy hyp
    · have b5 : decide (u < v.slot) = true := by simp; omega
      clear hu
      go_enter Try.func10, Try.ntmps10
      go_wp2_with (go_at_call 19; (with_reducible refine haw.mono ?_); clear haw; rintro e w1 ⟨rfl, hB1⟩; obtain ⟨c0, c1⟩ := hst'.out _ hB1)
      go_ret
      exact ⟨rfl, hB1⟩
  · have hcase : (40 < l.length) ∨ (l.length ≤ 40 ∧ at_ < 0) ∨ (l.length ≤ 40 ∧ 0 ≤ at_ ∧ (l.length : Int) ≤ at_) := by omega
    clear hsm
    go_enter Try.func10, Try.ntmps10
    rcases hcase with h1 | ⟨h1, h2⟩ | ⟨h1, h2, h3⟩
    · go_wp2_with (go_at_call 19; (with_reducible refine haw.mono ?_); clear haw; rintro e w1 ⟨rfl, hB1⟩)
      go_ret
      exact ⟨rfl, hB1⟩
    · go_wp2_with (go_at_call 19; (with_reducible refine haw.mono ?_); clear haw; rintro e w1 ⟨rfl, hB1⟩)
      go_ret
      exact ⟨rfl, hB1⟩
    · go_wp2_with (go_at_call 19; (with_reducible refine haw.mono ?_); clear haw; rintro e w1 ⟨rfl, hB1⟩)
      go_ret
      exact ⟨rfl, hB1⟩
theorem later_walk (A : Option Addr) (l : List Vote) (k : Nat) (u n : Int) (w : World) (_ : l.length ≤ k) (_ : k ≤ maxLen) (hr : Rd 4 encVote w A l) (_ : ∀ b ∈ l, b.Ok) (_ : I64 u) (_ : I64 n) :
    Calls Try.prog 10 #[.slice A l.length k, .int .i64 u, .int .i64 n] w fun e w' => e = .returned (.bool true) ∧ Below w.heap.size w w' :=
  later_any l u n A k w hr
end Go.Proofs.Ytkccakaaklemdaa
