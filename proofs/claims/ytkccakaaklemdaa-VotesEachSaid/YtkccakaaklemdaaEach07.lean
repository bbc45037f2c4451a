/- VotesEach, walked. -/
import Derived.Test.YtkccakaaklemdaaRead0
import Derived.Test.YtkccakaaklemdaaEachP
namespace Go.Proofs.Ytkccakaaklemdaa
open Go.RowKit
set_option maxRecDepth 100000 in
set_option maxHeartbeats 4000000 in
theorem each_any (l : List Vote) (at_ : Int) (A : Option Addr) (k : Nat) (w : World) (hr : Rd 4 encVote w A l) :
    Calls Try.prog 9 #[.slice A l.length k, .int .i64 at_] w fun e w' => e = .returned (.bool true) ∧ Below w.heap.size w w' := by
  have hm := hr.1
  have haw := awake7_any w
  by_cases hsm : l.length ≤ 40 ∧ 0 ≤ at_ ∧ at_ < l.length
  · obtain ⟨h1, h2, h3⟩ := hsm
    obtain ⟨n, rfl⟩ := Int.eq_ofNat_of_zero_le h2
    have hn : n < l.length := by omega
    have b1 : decide (40 < l.length) = false := by simp; omega
    have b2 : decide (40 < (l.length : Int)) = false := by simp; omega
    have b3 : decide ((n : Int) < 0) = false := by simp
    have b4 : decide ((l.length : Int) ≤ (n : Int)) = false := by simp; omega
    obtain ⟨hlaw, hsame⟩ := each_law (List.getElem_mem hn)
    have hrn := fun V (hV : Below w.heap.size w V) => (hr.below hV).atVote hn
    obtain ⟨v, hv⟩ : ∃ v, l[n] = v := ⟨_, rfl⟩
    rw [hv] at hlaw hsame
    simp only [hv] at hrn
    have hof := fun V (hV : Below w.heap.size w V) => vof_any l v.slot A k V (hr.below hV) (by omega)
    have hdb := fun V (hV : Below w.heap.size w V) => doubles_any l v.slot A k V (hr.below hV) (by omega)
    have hol := ofL_len l v.slot
    have hdl := dblL_len l v.slot
    obtain ⟨o, ho⟩ : ∃ o, ofL l v.slot = o := ⟨_, rfl⟩
    obtain ⟨d, hd⟩ : ∃ d, dblL l v.slot = d := ⟨_, rfl⟩
    rw [ho] at hlaw hsame hof hol
    rw [hd] at hlaw hdb hdl
    have hol4 : o.length ≤ 40 := by omega
    have hdl4 : d.length ≤ 40 := by omega
    have hlaw' := Lib.hid hlaw
    have hsame' := Lib.hid hsame
    clear ho hd hlaw hsame hv h1 h2 hol hdl
    go_enter Try.func9, Try.ntmps9
    go_wp2_with (first
      | (go_at_call 19; (with_reducible refine haw.mono ?_); clear haw; rintro e w1 ⟨rfl, hB1⟩; obtain ⟨bv, ov, rfl, hbov, d0, d1, d2, d3⟩ := hrn w1 hB1; have hvl := vlay w1 v; have hB2 := below_call hB1 hB1.size hvl.1; obtain ⟨c0, c1, c2, c3⟩ := blk4 hvl.2)
      | (go_at_call 14; (with_reducible refine (hof _ hB2).mono ?_); clear hof; rintro e w3 ⟨u, rfl, ho3, hb3⟩; obtain ⟨A3, k3, rfl, hR3⟩ := ho3.rd encVote_len; have hB3 := below_call hB2 hB2.size hb3; have x3 := bl_own hb3 hvl.2))
    clear c0 c1 c2 c3 d0 d1 d2 d3 hvl hrn ho3 hb3 hB1 hB2
    go_loopw [7, 9] (fun q i wr => ∃ j : Nat, j ≤ o.length ∧ i = .int .i64 j ∧ q = .int .i64 (cntV v.frm (o.take j) : Nat) ∧ Below w3.heap.size w3 wr) (fun _ i _ => o.length - (intOf i).toNat)
    case atStart => exact ⟨0, Nat.zero_le _, rfl, by simp [cntV], Below.refl _ _⟩
    case round =>
      obtain ⟨j, hj, rfl, rfl, hBW⟩ := hrel
      have hBr := below_call hB3 hB3.size hBW
      have hcl := cntV_len v.frm o j
      have xr := bl_own hBW x3
      obtain ⟨c0, c1, c2, c3⟩ := blk4 xr
      by_cases hlt : j < o.length
      · have hsn := cntV_snoc v.frm hlt
        have hxv := hsame'.out _ (List.getElem_mem hlt)
        obtain ⟨b', o', rfl, hbo, d0, d1, d2, d3⟩ := (hR3.below hBW).atVote hlt
        obtain ⟨x, hx⟩ : ∃ x, o[j] = x := ⟨_, rfl⟩
        rw [hx] at d0 d1 d2 d3 hsn hxv
        obtain ⟨q, hq⟩ : ∃ q, cntV v.frm (o.take j) = q := ⟨_, rfl⟩
        rw [hq] at hsn hcl
        rw [hq]
        have hq' := Lib.hid hq
        clear hq hx
        by_cases hf : x.frm = v.frm
        · have heq := neq_votew x v
          have hdx : decide (x = v) = true := by simpa using hxv hf
          have hdf : (x.frm == v.frm) = true := by simpa using hf
          rw [hdx] at heq
          rw [if_pos hf] at hsn
          have hsn' := Lib.hid hsn
          clear hsn hxv hf hdx
          go_wp2_with fail
          go_quiet (fail)
          go_wp2_with fail
          go_quiet (fail)
          go_wp2_with fail
          go_roundw
          case rel => exact ⟨j + 1, hlt, by go_num, by rw [hsn'.out]; go_num, pw_below_drewN hBW _⟩
          case measure => simp [intOf]; omega
        · have hdf : (x.frm == v.frm) = false := by simpa using hf
          rw [if_neg hf] at hsn
          have hsn' := Lib.hid hsn
          clear hsn hxv hf
          go_wp2_with fail
          go_quiet (fail)
          go_wp2_with fail
          go_roundw
          case rel => exact ⟨j + 1, hlt, by go_num, by rw [hsn'.out]; go_num, pw_below_drewN hBW _⟩
          case measure => simp [intOf]; omega
      · obtain rfl : j = o.length := by omega
        rw [List.take_length] at hcl ⊢
        obtain ⟨q, hq⟩ : ∃ q, cntV v.frm o = q := ⟨_, rfl⟩
        rw [hq] at hcl
        rw [hq]
        have hq' := Lib.hid hq
        clear hq
        have hdb' := hdb _ hBr
        go_wp2_with (go_at_call 21; (with_reducible refine hdb'.mono ?_); clear hdb'; rintro e w4 ⟨u, rfl, ho4, hb4⟩; obtain ⟨A4, k4, rfl, hR4⟩ := ho4.rd encI_len; have hB4 := below_call hBr hBr.size hb4; have x4 := bl_own hb4 xr)
        clear c0 c1 c2 c3 xr hBr hBW hb4 ho4 hB3
        go_loopw [10, 12] (fun q2 i wr => ∃ j : Nat, j ≤ d.length ∧ i = .int .i64 j ∧ q2 = .int .i64 (cntI v.frm (d.take j) : Nat) ∧ Below w4.heap.size w4 wr) (fun _ i _ => d.length - (intOf i).toNat)
        case atStart => exact ⟨0, Nat.zero_le _, rfl, by simp [cntI], Below.refl _ _⟩
        case round =>
          obtain ⟨j, hj2, rfl, rfl, hBW⟩ := hrel
          have hBr := below_call hB4 hB4.size hBW
          have hcl2 := cntI_len v.frm d j
          have xr := bl_own hBW x4
          obtain ⟨c0, c1, c2, c3⟩ := blk4 xr
          by_cases hlt : j < d.length
          · have hsn := cntI_snoc v.frm hlt
            obtain ⟨b', o', rfl, hbo, d0⟩ := (hR4.below hBW).atI hlt
            obtain ⟨x, hx⟩ : ∃ x, d[j] = x := ⟨_, rfl⟩
            rw [hx] at d0 hsn
            obtain ⟨q3, hq3⟩ : ∃ q, cntI v.frm (d.take j) = q := ⟨_, rfl⟩
            rw [hq3] at hsn hcl2
            rw [hq3]
            have hq3' := Lib.hid hq3
            clear hq3 hx
            by_cases hf : x = v.frm
            · have hdf : (x == v.frm) = true := by simpa using hf
              rw [if_pos hf] at hsn
              have hsn' := Lib.hid hsn
              clear hsn hf
              go_wp2_with fail
              go_quiet (fail)
              go_wp2_with fail
              go_roundw
              case rel => exact ⟨j + 1, hlt, by go_num, by rw [hsn'.out]; go_num, pw_below_drewN hBW _⟩
              case measure => simp [intOf]; omega
            · have hdf : (x == v.frm) = false := by simpa using hf
              rw [if_neg hf] at hsn
              have hsn' := Lib.hid hsn
              clear hsn hf
              go_wp2_with fail
              go_quiet (fail)
              go_wp2_with fail
              go_roundw
              case rel => exact ⟨j + 1, hlt, by go_num, by rw [hsn'.out]; go_num, pw_below_drewN hBW _⟩
              case measure => simp [intOf]; omega
          · obtain rfl : j = d.length := by omega
            rw [List.take_length] at hcl2 ⊢
            obtain ⟨q3, hq3⟩ : ∃ q, cntI v.frm d = q := ⟨_, rfl⟩
            rw [hq3] at hcl2
            rw [hq3]
            have hfin : q + q3 = 1 := by rw [← hq'.out, ← hq3]; exact hlaw'.out
            clear hq3
            go_wp2_with fail
            go_ret
            have hfin2 : ((q : Int) + (q3 : Int)) = 1 := by omega
            exact ⟨ret_bool (by simp [hfin2]), hBr⟩
  · have hcase : (40 < l.length) ∨ (l.length ≤ 40 ∧ at_ < 0) ∨ (l.length ≤ 40 ∧ 0 ≤ at_ ∧ (l.length : Int) ≤ at_) := by omega
    clear hsm
    go_enter Try.func9, Try.ntmps9
    rcases hcase with h1 | ⟨h1, h2⟩ | ⟨h1, h2, h3⟩
    · go_wp2_with (go_at_call 19; (with_reducible refine haw.mono ?_); clear haw; rintro e w1 ⟨rfl, hB1⟩)
      go_ret
      exact ⟨rfl, hB1⟩
    · go_wp2_with (go_at_call 19; (with_reducible refine haw.mono ?_); clear haw; rintro e w1 ⟨rfl, hB1⟩)
      go_ret
      exact ⟨rfl, hB1⟩
    · go_wp2_with (go_at_call 19; (with_reducible refine haw.mono ?_); clear haw; rintro e w1 ⟨rfl, hB1⟩)
      go_ret
      exact ⟨rfl, hB1⟩
theorem each_walk (A : Option Addr) (l : List Vote) (k : Nat) (n : Int) (w : World) (_ : l.length ≤ k) (_ : k ≤ maxLen) (hr : Rd 4 encVote w A l) (_ : ∀ b ∈ l, b.Ok) (_ : I64 n) :
    Calls Try.prog 9 #[.slice A l.length k, .int .i64 n] w fun e w' => e = .returned (.bool true) ∧ Below w.heap.size w w' :=
  each_any l n A k w hr
end Go.Proofs.Ytkccakaaklemdaa
