/- VotesOne, walked. -/
import Derived.Test.YtkccakaaklemdaaRead0
import Derived.Test.YtkccakaaklemdaaLaw07b
namespace Go.Proofs.Ytkccakaaklemdaa
open Go.RowKit
set_option maxRecDepth 100000 in
set_option maxHeartbeats 4000000 in
theorem one_any (l : List Vote) (s : Int) (A : Option Addr) (k : Nat) (w : World) (hr : Rd 4 encVote w A l) :
    Calls Try.prog 6 #[.slice A l.length k, .int .i64 s] w fun e w' => e = .returned (.bool true) ∧ Below w.heap.size w w' := by
  have hm := hr.1
  have haw := awake7_any w
  by_cases hsm : l.length ≤ 40
  · have b1 : decide (40 < l.length) = false := by simp; omega
    have b2 : decide (40 < (l.length : Int)) = false := by simp; omega
    have hof := fun V (hV : Below w.heap.size w V) => vof_any l s A k V (hr.below hV) (by omega)
    have hla := fun V (hV : Below w.heap.size w V) => vlast_any l s A k V (hr.below hV) (by omega)
    have hdo := fun V (hV : Below w.heap.size w V) => doubles_any l s A k V (hr.below hV) (by omega)
    have hth := Lib.hid (fun V (hV : Below w.heap.size w V) (x : Vote) => there_any l x A k V (hr.below hV))
    have hol := ofL_len l s
    have hml := lastL_len l s
    have hdl := dblL_len l s
    have h1 := Lib.hid (show ∀ x ∈ ofL l s, x ∈ l ∧ x.slot = s ∧ x.frm ∉ dblL l s from fun x hx => by
      obtain ⟨h1, h2, h3⟩ := ((ofL_is l s).2 x).1 hx
      exact ⟨h1, h2, fun h => h3 (((dblL_is l s).2 _).1 h)⟩)
    have h2 := Lib.hid (fun i j hi hj hij => risesV_lt (ofL_is l s).1 i j hi hj hij)
    have h3 := Lib.hid (show ∀ x ∈ lastL l s, x ∈ l ∧ x.slot ≤ s from fun x hx => by
      obtain ⟨h1, h2, _⟩ := ((lastL_is l s).2 x).1 hx
      exact ⟨h1, h2⟩)
    have h4 := Lib.hid (fun i j hi hj hij => risesV_lt (lastL_is l s).1 i j hi hj hij)
    obtain ⟨o, ho⟩ : ∃ o, ofL l s = o := ⟨_, rfl⟩
    obtain ⟨m, hmm⟩ : ∃ m, lastL l s = m := ⟨_, rfl⟩
    obtain ⟨d, hd⟩ : ∃ d, dblL l s = d := ⟨_, rfl⟩
    rw [ho] at hof hol h1 h2
    rw [hmm] at hla hml h3 h4
    rw [hd] at hdo hdl h1
    have hol4 : o.length ≤ 40 := by omega
    have hml4 : m.length ≤ 40 := by omega
    have hdl4 : d.length ≤ 40 := by omega
    clear ho hmm hd hol hml hdl
    go_enter Try.func6, Try.ntmps6
    go_wp2_with (first
      | (go_at_call 19; (with_reducible refine haw.mono ?_); clear haw; rintro e w1 ⟨rfl, hB1⟩)
      | (go_at_call 21; (with_reducible refine (hdo _ hB1).mono ?_); clear hdo; rintro e w2 ⟨u, rfl, hq2, hb2⟩; obtain ⟨A2, k2, rfl, hR2⟩ := hq2.rd encI_len; have hB2 := below_call hB1 hB1.size hb2)
      | (go_at_call 14; (with_reducible refine (hof _ hB2).mono ?_); clear hof; rintro e w3 ⟨u, rfl, hq3, hb3⟩; obtain ⟨A3, k3, rfl, hR3⟩ := hq3.rd encVote_len; have hB3 := below_call hB2 hB2.size hb3; have hR23 := hR2.below hb3)
      | (go_at_call 25; (with_reducible refine (hla _ hB3).mono ?_); clear hla; rintro e w4 ⟨u, rfl, hq4, hb4⟩; obtain ⟨A4, k4, rfl, hR4⟩ := hq4.rd encVote_len; have hB4 := below_call hB3 hB3.size hb4; have hR24 := hR23.below hb4; have hR34 := hR3.below hb4))
    clear hq2 hq3 hq4 hb2 hb3 hb4 hB1 hB2 hB3 hR2 hR3 hR23
    go_loopw [9, 10, 11] (fun i _u10 _u11 wr => ∃ j : Nat, j ≤ o.length ∧ i = .int .i64 j ∧ Below w4.heap.size w4 wr) (fun i _ _ _ => o.length - (intOf i).toNat)
    case atStart => exact ⟨0, Nat.zero_le _, rfl, Below.refl _ _⟩
    case round =>
      obtain ⟨j, hj, rfl, hBW⟩ := hrel
      have hBr := below_call hB4 hB4.size hBW
      by_cases hlt : j < o.length
      · obtain ⟨x, hx⟩ : ∃ x, o[j] = x := ⟨_, rfl⟩
        obtain ⟨hxl, hxs, hxd⟩ := h1.out x (hx ▸ List.getElem_mem hlt)
        have hxd' := Lib.hid hxd
        obtain ⟨bo, oo, rfl, hbo, -⟩ := (hR34.below hBW).atVote hlt
        have hsx := Lib.hid (show ∀ V, Below w4.heap.size w4 V → V.cell? ⟨bo, oo + j * 4, none⟩ = some (.int .i64 x.frm) ∧ V.cell? ⟨bo, oo + j * 4 + 1, none⟩ = some (.int .i64 x.slot) ∧ V.cell? ⟨bo, oo + j * 4 + 2, none⟩ = some (.int .u64 x.head.hi) ∧ V.cell? ⟨bo, oo + j * 4 + 3, none⟩ = some (.int .u64 x.head.lo) from fun V hV => by
          obtain ⟨b2, o2, he, _, q0, q1, q2, q3⟩ := (hR34.below hV).atVote hlt
          cases he
          rw [hx] at q0 q1 q2 q3
          exact ⟨q0, q1, q2, q3⟩)
        obtain ⟨d0, d1, d2, d3⟩ := hsx.out _ hBW
        have hthx := hth.out _ hBr x
        have hdx : decide (x ∈ l) = true := by simpa using hxl
        rw [hdx] at hthx
        have c1 : (x.slot != s) = false := by simpa using hxs
        clear hdx hxl hxs hxd
        have hInner : ∀ V, Below w4.heap.size w4 V → True := fun _ _ => trivial
        clear hInner
        cases j with
        | zero =>
          clear hx
          have hs0 := hsx.out
          simp only [Nat.zero_mul, Nat.add_zero] at d0 d1 d2 d3 hs0
          clear hsx
          have hsx := Lib.hid hs0
          clear hs0
          go_wp2_with (go_at_call 27; (with_reducible refine hthx.mono ?_); clear hthx; rintro e w5 ⟨rfl, hb5⟩; have hB45 := below_call hBW hBW.size hb5; obtain ⟨e0, e1, e2, e3⟩ := hsx.out _ hB45)
          go_quiet (fail)
          go_wp2_with fail
          rename_i nq
          have hBq := pw_below_drewN hB45 nq
          generalize w5.drewN nq = w6 at hBq ⊢
          clear e0 e1 e2 e3 d0 d1 d2 d3 hb5 hB45 hBr hBW
          have hB6 := below_call hB4 hB4.size hBq
          go_loopw [11] (fun i wr => ∃ j : Nat, j ≤ d.length ∧ i = .int .i64 j ∧ Below w6.heap.size w6 wr) (fun i _ => d.length - (intOf i).toNat)
          case atStart => exact ⟨0, Nat.zero_le _, rfl, Below.refl _ _⟩
          case round =>
            obtain ⟨j3, hj3, rfl, hBX⟩ := hrel
            have hBx := below_call hBq hBq.size hBX
            obtain ⟨e0, e1, e2, e3⟩ := hsx.out _ hBx
            by_cases hlt3 : j3 < d.length
            · obtain ⟨b3, o3, rfl, hbo3, f0⟩ := (hR24.below hBx).atI hlt3
              have hzf : (d[j3] == x.frm) = false := by
                simp only [beq_eq_false_iff_ne]
                exact fun e => hxd'.out (e ▸ List.getElem_mem hlt3)
              obtain ⟨z, hz⟩ : ∃ z, d[j3] = z := ⟨_, rfl⟩
              rw [hz] at f0 hzf
              clear hz
              go_wp2_with fail
              go_quiet (fail)
              go_wp2_with fail
              go_roundw
              case rel => exact ⟨j3 + 1, hlt3, by go_num, pw_below_drewN hBX _⟩
              case measure => simp [intOf]; omega
            · obtain rfl : j3 = d.length := by omega
              go_wp2_with fail
              go_roundw
              case rel => exact ⟨1, by omega, by go_num, hBx⟩
              case measure => simp [intOf]; omega
        | succ j =>
          have hlt2 : j < o.length := by omega
          have hyx := h2.out j (j + 1) hlt2 hlt (by omega)
          rw [hx] at hyx
          clear hx
          have hsy := Lib.hid (show ∀ V, Below w4.heap.size w4 V → V.cell? ⟨bo, oo + j * 4, none⟩ = some (.int .i64 o[j].frm) from fun V hV => by
            obtain ⟨b2, o2, he, _, q0, q1, q2, q3⟩ := (hR34.below hV).atVote hlt2
            cases he
            exact q0)
          obtain ⟨y, hy⟩ : ∃ y, o[j] = y := ⟨_, rfl⟩
          rw [hy] at hyx hsy
          have c3 : decide (x.frm ≤ y.frm) = false := by simp; omega
          have c4 : decide ((0 : Int) < (j : Int) + 1) = true := decide_eq_true (by omega)
          have i0 : (0 : Int) ≤ (j : Int) + 1 := by omega
          clear hy hyx
          go_wp2_with (go_at_call 27; (with_reducible refine hthx.mono ?_); clear hthx; rintro e w5 ⟨rfl, hb5⟩; have hB45 := below_call hBW hBW.size hb5; obtain ⟨e0, e1, e2, e3⟩ := hsx.out _ hB45; have e4 := hsy.out _ hB45)
          go_quiet (fail)
          go_wp2_with fail
          rename_i nq
          have hBq := pw_below_drewN hB45 nq
          generalize w5.drewN nq = w6 at hBq ⊢
          clear e0 e1 e2 e3 e4 d0 d1 d2 d3 hb5 hB45 hBr hBW
          have hB6 := below_call hB4 hB4.size hBq
          go_loopw [11] (fun i wr => ∃ j : Nat, j ≤ d.length ∧ i = .int .i64 j ∧ Below w6.heap.size w6 wr) (fun i _ => d.length - (intOf i).toNat)
          case atStart => exact ⟨0, Nat.zero_le _, rfl, Below.refl _ _⟩
          case round =>
            obtain ⟨j3, hj3, rfl, hBX⟩ := hrel
            have hBx := below_call hBq hBq.size hBX
            obtain ⟨e0, e1, e2, e3⟩ := hsx.out _ hBx
            by_cases hlt3 : j3 < d.length
            · obtain ⟨b3, o3, rfl, hbo3, f0⟩ := (hR24.below hBx).atI hlt3
              have hzf : (d[j3] == x.frm) = false := by
                simp only [beq_eq_false_iff_ne]
                exact fun e => hxd'.out (e ▸ List.getElem_mem hlt3)
              obtain ⟨z, hz⟩ : ∃ z, d[j3] = z := ⟨_, rfl⟩
              rw [hz] at f0 hzf
              clear hz
              go_wp2_with fail
              go_quiet (fail)
              go_wp2_with fail
              go_roundw
              case rel => exact ⟨j3 + 1, hlt3, by go_num, pw_below_drewN hBX _⟩
              case measure => simp [intOf]; omega
            · obtain rfl : j3 = d.length := by omega
              go_wp2_with fail
              go_roundw
              case rel => exact ⟨j + 1 + 1, by omega, by go_num, hBx⟩
              case measure => simp [intOf]; omega
      · obtain rfl : j = o.length := by omega
        rename World => w5
        clear h1 h2 hR24 hR34
        have hR45 := hR4.below hBW
        clear hR4 hBW hB4 hlt hj
        go_wp2_with fail
        go_loopw [12, 13] (fun i _u13 wr => ∃ j : Nat, j ≤ m.length ∧ i = .int .i64 j ∧ Below w5.heap.size w5 wr) (fun i _ _ => m.length - (intOf i).toNat)
        case atStart => exact ⟨0, Nat.zero_le _, rfl, Below.refl _ _⟩
        case round =>
          obtain ⟨j, hj, rfl, hBW⟩ := hrel
          have hBt := below_call hBr hBr.size hBW
          by_cases hlt : j < m.length
          · obtain ⟨x, hx⟩ : ∃ x, m[j] = x := ⟨_, rfl⟩
            obtain ⟨hxl, hxs⟩ := h3.out x (hx ▸ List.getElem_mem hlt)
            obtain ⟨bo, oo, rfl, hbo, -⟩ := (hR45.below hBW).atVote hlt
            have hsx := Lib.hid (show ∀ V, Below w5.heap.size w5 V → V.cell? ⟨bo, oo + j * 4, none⟩ = some (.int .i64 x.frm) ∧ V.cell? ⟨bo, oo + j * 4 + 1, none⟩ = some (.int .i64 x.slot) ∧ V.cell? ⟨bo, oo + j * 4 + 2, none⟩ = some (.int .u64 x.head.hi) ∧ V.cell? ⟨bo, oo + j * 4 + 3, none⟩ = some (.int .u64 x.head.lo) from fun V hV => by
              obtain ⟨b2, o2, he, _, q0, q1, q2, q3⟩ := (hR45.below hV).atVote hlt
              cases he
              rw [hx] at q0 q1 q2 q3
              exact ⟨q0, q1, q2, q3⟩)
            obtain ⟨d0, d1, d2, d3⟩ := hsx.out _ hBW
            have hthx := hth.out _ hBt x
            have hdx : decide (x ∈ l) = true := by simpa using hxl
            rw [hdx] at hthx
            have c1 : decide (s < x.slot) = false := by simp; omega
            clear hdx hxl hxs
            cases j with
            | zero =>
              clear hx
              have hs0 := hsx.out
              simp only [Nat.zero_mul, Nat.add_zero] at d0 d1 d2 d3 hs0
              clear hsx
              have hsx := Lib.hid hs0
              clear hs0
              go_wp2_with (go_at_call 27; (with_reducible refine hthx.mono ?_); clear hthx; rintro e w6 ⟨rfl, hb6⟩; have hB56 := below_call hBW hBW.size hb6; obtain ⟨e0, e1, e2, e3⟩ := hsx.out _ hB56)
              go_quiet (fail)
              go_wp2_with fail
              go_roundw
              case rel => exact ⟨1, by omega, by go_num, pw_below_drewN hB56 _⟩
              case measure => simp [intOf]; omega
            | succ j =>
              have hlt2 : j < m.length := by omega
              have hyx := h4.out j (j + 1) hlt2 hlt (by omega)
              rw [hx] at hyx
              clear hx
              have hsy := Lib.hid (show ∀ V, Below w5.heap.size w5 V → V.cell? ⟨bo, oo + j * 4, none⟩ = some (.int .i64 m[j].frm) from fun V hV => by
                obtain ⟨b2, o2, he, _, q0, q1, q2, q3⟩ := (hR45.below hV).atVote hlt2
                cases he
                exact q0)
              obtain ⟨y, hy⟩ : ∃ y, m[j] = y := ⟨_, rfl⟩
              rw [hy] at hyx hsy
              have c3 : decide (x.frm ≤ y.frm) = false := by simp; omega
              have c4 : decide ((0 : Int) < (j : Int) + 1) = true := decide_eq_true (by omega)
              have i0 : (0 : Int) ≤ (j : Int) + 1 := by omega
              clear hy hyx
              go_wp2_with (go_at_call 27; (with_reducible refine hthx.mono ?_); clear hthx; rintro e w6 ⟨rfl, hb6⟩; have hB56 := below_call hBW hBW.size hb6; obtain ⟨e0, e1, e2, e3⟩ := hsx.out _ hB56; have e4 := hsy.out _ hB56)
              go_quiet (fail)
              go_wp2_with fail
              go_roundw
              case rel => exact ⟨j + 1 + 1, by omega, by go_num, pw_below_drewN hB56 _⟩
              case measure => simp [intOf]; omega
          · obtain rfl : j = m.length := by omega
            go_wp2_with fail
            go_ret
            exact ⟨rfl, hBt⟩
  · have hcase : 40 < l.length := by omega
    clear hsm
    go_enter Try.func6, Try.ntmps6
    go_wp2_with (go_at_call 19; (with_reducible refine haw.mono ?_); clear haw; rintro e w1 ⟨rfl, hB1⟩)
    go_ret
    exact ⟨rfl, hB1⟩
theorem one_walk (A : Option Addr) (l : List Vote) (k : Nat) (n : Int) (w : World) (_ : l.length ≤ k) (_ : k ≤ maxLen) (hr : Rd 4 encVote w A l) (_ : ∀ b ∈ l, b.Ok) (_ : I64 n) :
    Calls Try.prog 6 #[.slice A l.length k, .int .i64 n] w fun e w' => e = .returned (.bool true) ∧ Below w.heap.size w w' :=
  one_any l n A k w hr
end Go.Proofs.Ytkccakaaklemdaa
