/- VotesSlots, walked. -/
import Derived.Test.YtkccakaaklemdaaRead0
import Derived.Test.YtkccakaaklemdaaLaw07b
import Derived.Test.YtkccakaaklemdaaApart
namespace Go.Proofs.Ytkccakaaklemdaa
open Go.RowKit
set_option maxRecDepth 100000 in
set_option maxHeartbeats 4000000 in
theorem slots_any (l : List Vote) (s : Int) (A : Option Addr) (k : Nat) (w : World) (hr : Rd 4 encVote w A l) :
    Calls Try.prog 8 #[.slice A l.length k, .int .i64 s] w fun e w' => e = .returned (.bool true) ∧ Below w.heap.size w w' := by
  have hm := hr.1
  have hunV := Try.underlying27
  have haw := awake7_any w
  by_cases hsm : l.length ≤ 40
  · have b1 : decide (40 < l.length) = false := by simp; omega
    have b2 : decide (40 < (l.length : Int)) = false := by simp; omega
    have hof := fun V (hV : Below w.heap.size w V) => vof_any l s A k V (hr.below hV) (by omega)
    have hla := fun V (hV : Below w.heap.size w V) => vlast_any l s A k V (hr.below hV) (by omega)
    have hdo := fun V (hV : Below w.heap.size w V) => doubles_any l s A k V (hr.below hV) (by omega)
    have hof2 := fun V (B : Option Addr) (kb : Nat) (hB : Rd 4 encVote V B (ownS l s)) => vof_any (ownS l s) s B kb V hB (by have := ownS_len l s; omega)
    have hla2 := fun V (B : Option Addr) (kb : Nat) (hB : Rd 4 encVote V B (uptoS l s)) => vlast_any (uptoS l s) s B kb V hB (by have := uptoS_len l s; omega)
    have hdo2 := fun V (B : Option Addr) (kb : Nat) (hB : Rd 4 encVote V B (ownS l s)) => doubles_any (ownS l s) s B kb V hB (by have := ownS_len l s; omega)
    rw [ofL_own] at hof2
    rw [lastL_upto] at hla2
    rw [dblL_own] at hdo2
    obtain ⟨o, ho⟩ : ∃ o, ofL l s = o := ⟨_, rfl⟩
    obtain ⟨m, hmm⟩ : ∃ m, lastL l s = m := ⟨_, rfl⟩
    obtain ⟨d, hd⟩ : ∃ d, dblL l s = d := ⟨_, rfl⟩
    rw [ho] at hof hof2
    rw [hmm] at hla hla2
    rw [hd] at hdo hdo2
    have hof' := Lib.hid hof
    have hof2' := Lib.hid hof2
    have hla' := Lib.hid hla
    have hla2' := Lib.hid hla2
    have hdo' := Lib.hid hdo
    have hdo2' := Lib.hid hdo2
    clear ho hmm hd hof hof2 hla hla2 hdo hdo2
    go_enter Try.func8, Try.ntmps8
    go_wp2_with (go_at_call 19; (with_reducible refine haw.mono ?_); clear haw; rintro e w1 ⟨rfl, hB1⟩)
    go_loopw [6, 7, 8] (fun u v i wr => ∃ j : Nat, j ≤ l.length ∧ i = .int .i64 j ∧ Own wr w1.heap.size 38 4 encVote u (ownS (l.take j) s) ∧ Own wr w1.heap.size 38 4 encVote v (uptoS (l.take j) s) ∧ Apart2 u v ∧ Below w1.heap.size w1 wr) (fun _ _ i _ => l.length - (intOf i).toNat)
    case atStart => exact ⟨0, Nat.zero_le _, rfl, Own.nil _ _ _ _ _, Own.nil _ _ _ _ _, apart_nil _, Below.refl _ _⟩
    case round =>
      obtain ⟨j, hj, rfl, hu, hv, hap, hBW⟩ := hrel
      have hBr := below_call hB1 hB1.size hBW
      by_cases hlt : j < l.length
      · obtain ⟨b', o', rfl, hbo, d0, d1, d2, d3⟩ := (hr.below hBr).atVote hlt
        have hsu := ownS_snoc l s hlt
        have hsv := uptoS_snoc l s hlt
        have hlu : (ownS (l.take j) s).length ≤ 40 := by have := ownS_len (l.take j) s; simp at this; omega
        have hlv : (uptoS (l.take j) s).length ≤ 40 := by have := uptoS_len (l.take j) s; simp at this; omega
        obtain ⟨x, hxe⟩ : ∃ x, l[j] = x := ⟨_, rfl⟩
        rw [hxe] at d0 d1 d2 d3 hsu hsv
        have hst := Lib.hid (show ∀ V, Below w1.heap.size w1 V → V.cell? ⟨b', o' + j * 4, none⟩ = some (.int .i64 x.frm) ∧ V.cell? ⟨b', o' + j * 4 + 1, none⟩ = some (.int .i64 x.slot) ∧ V.cell? ⟨b', o' + j * 4 + 2, none⟩ = some (.int .u64 x.head.hi) ∧ V.cell? ⟨b', o' + j * 4 + 3, none⟩ = some (.int .u64 x.head.lo) from fun V hV => ?hst)
        case hst =>
          obtain ⟨b2, o2, he, _, q0, q1, q2, q3⟩ := (hr.below (below_call hB1 hB1.size hV)).atVote hlt
          cases he
          rw [hxe] at q0 q1 q2 q3
          exact ⟨q0, q1, q2, q3⟩
        clear hxe
        have hub : ∀ k, u6.ownBlock = some k → w1.heap.size ≤ k ∧ k < wr.heap.size := fun k hk => hu.base k hk
        have hvb : ∀ k, u7.ownBlock = some k → w1.heap.size ≤ k ∧ k < wr.heap.size := fun k hk => hv.base k hk
        have hvl := vlay wr x
        have hu1 := hu.below hvl.1
        have hv1 := hv.below hvl.1
        have hBv := below_call hBW hBW.size hvl.1
        have hx1 := hvl.2
        have hsz1 := hvl.1.size
        have hn1 : wr.heap.size < (wr.alloc (.cells #[.int .i64 x.frm, .int .i64 x.slot, .int .u64 x.head.hi, .int .u64 x.head.lo] 38)).heap.size := by simp
        clear hvl
        by_cases hs1 : x.slot = s
        · have hle : x.slot ≤ s := by omega
          have c1 : (x.slot == s) = true := by simpa using hs1
          have c2 : decide (x.slot ≤ s) = true := by simpa using hle
          rw [if_pos hs1] at hsu
          rw [if_pos hle] at hsv
          have hsu' := Lib.hid hsu
          have hsv' := Lib.hid hsv
          clear hsu hsv hs1 hle
          go_wp2_with (first
            | (at_builtin; refine wp_append1 rfl rfl hunV infoV rfl (by decide) encVote_len encVote_one rfl hu1 (g := wr.heap.size) (c := 1) rfl (y := x) hx1 rfl (by omega) (by unfold maxLen; omega) hBv.size ?_; intro v6 w6 hu6 hg6 hat6; have hB6 := below_step hBv hBv.size hg6 (fun k hk => (hub k hk).1); have hv6 := hv1.row2 hg6 hap; have hap6 := hap.grow hat6 (fun k hk => Nat.lt_trans (hvb k hk).2 hn1); obtain ⟨q0, q1, q2, q3⟩ := hst.out _ hB6; have hvl := vlay w6 x; have hu7 := hu6.below hvl.1; have hv7 := hv6.below hvl.1; have hB7 := below_call hB6 hB6.size hvl.1; have hx7 := hvl.2; have hvb7 := (fun k hk => (hu6.base k hk : w1.heap.size ≤ k ∧ k < w6.heap.size)); have hn7 := hvl.1.size; clear hvl)
            | (at_builtin; refine wp_append1 rfl rfl hunV infoV rfl (by decide) encVote_len encVote_one rfl hv7 (g := w6.heap.size) (c := 1) rfl (y := x) hx7 rfl (by omega) (by unfold maxLen; omega) hB7.size ?_; intro v8 w8 hv8 hg8 hat8; have hB8 := below_step hB7 hB7.size hg8 (fun k hk => (hvb k hk).1); have hu8 := hu7.row2 hg8 hap6.symm; have hap8 := hap6.symm.grow hat8 (fun k hk => Nat.lt_of_lt_of_le (hvb7 k hk).2 hn7)))
          go_roundw
          case rel =>
            refine ⟨j + 1, hlt, by go_num, ?_, ?_, hap8.symm, hB8⟩
            · rw [hsu'.out]; exact hu8
            · rw [hsv'.out]; exact hv8
          case measure => simp [intOf]; omega
        · have c1 : (x.slot == s) = false := by simpa using hs1
          rw [if_neg hs1, List.append_nil] at hsu
          have hsu' := Lib.hid hsu
          clear hsu hs1
          by_cases hle : x.slot ≤ s
          · have c2 : decide (x.slot ≤ s) = true := by simpa using hle
            rw [if_pos hle] at hsv
            have hsv' := Lib.hid hsv
            clear hsv hle
            go_wp2_with (at_builtin; refine wp_append1 rfl rfl hunV infoV rfl (by decide) encVote_len encVote_one rfl hv1 (g := wr.heap.size) (c := 1) rfl (y := x) hx1 rfl (by omega) (by unfold maxLen; omega) hBv.size ?_; intro v8 w8 hv8 hg8 hat8; have hB8 := below_step hBv hBv.size hg8 (fun k hk => (hvb k hk).1); have hu8 := hu1.row2 hg8 hap.symm; have hap8 := hap.symm.grow hat8 (fun k hk => Nat.lt_trans (hub k hk).2 hn1))
            go_roundw
            case rel =>
              refine ⟨j + 1, hlt, by go_num, ?_, ?_, hap8.symm, hB8⟩
              · rw [hsu'.out]; exact hu8
              · rw [hsv'.out]; exact hv8
            case measure => simp [intOf]; omega
          · have c2 : decide (x.slot ≤ s) = false := by simpa using hle
            rw [if_neg hle, List.append_nil] at hsv
            have hsv' := Lib.hid hsv
            clear hsv hle
            go_wp2_with fail
            go_roundw
            case rel =>
              refine ⟨j + 1, hlt, by go_num, ?_, ?_, hap, hBW⟩
              · rw [hsu'.out]; exact hu
              · rw [hsv'.out]; exact hv
            case measure => simp [intOf]; omega
      · obtain rfl : j = l.length := by omega
        rw [List.take_length] at hu hv
        obtain ⟨A2, k2, rfl, hR2⟩ := hu.rd encVote_len
        obtain ⟨A3, k3, rfl, hR3⟩ := hv.rd encVote_len
        have hso := fun V (B C : Option Addr) (kb kc : Nat) (h1 : Rd 4 encVote V B o) (h2 : Rd 4 encVote V C o) => same_any o o B C kb kc V h1 h2
        have hsl := fun V (B C : Option Addr) (kb kc : Nat) (h1 : Rd 4 encVote V B m) (h2 : Rd 4 encVote V C m) => same_any m m B C kb kc V h1 h2
        have hsd := fun V (B C : Option Addr) (kb kc : Nat) (h1 : Rd 1 encI V B d) (h2 : Rd 1 encI V C d) => ints_any d d B C kb kc V h1 h2
        simp only [decide_true] at hso hsl hsd
        have hso' := Lib.hid hso
        have hsl' := Lib.hid hsl
        have hsd' := Lib.hid hsd
        clear hso hsl hsd hu hv hap
        go_wp2_with (first
          | (go_at_call 14; (with_reducible refine (hof'.out _ hBr).mono ?_); clear hof'; rintro e w2 ⟨u, rfl, hq2, hb2⟩; obtain ⟨A4, k4, rfl, hR4⟩ := hq2.rd encVote_len; have hB2 := below_call hBr hBr.size hb2; have hR22 := hR2.below hb2; have hR32 := hR3.below hb2)
          | (go_at_call 14; (with_reducible refine (hof2'.out _ _ _ hR22).mono ?_); clear hof2'; rintro e w3 ⟨u, rfl, hq3, hb3⟩; obtain ⟨A5, k5, rfl, hR5⟩ := hq3.rd encVote_len; have hB3 := below_call hB2 hB2.size hb3; have hR23 := hR22.below hb3; have hR33 := hR32.below hb3; have hR43 := hR4.below hb3)
          | (go_at_call 23; (with_reducible refine (hso'.out _ _ _ _ _ hR43 hR5).mono ?_); clear hso'; rintro e w4 ⟨rfl, hb4⟩; have hB4 := below_call hB3 hB3.size hb4; have hR24 := hR23.below hb4; have hR34 := hR33.below hb4)
          | (go_at_call 25; (with_reducible refine (hla'.out _ hB4).mono ?_); clear hla'; rintro e w5 ⟨u, rfl, hq5, hb5⟩; obtain ⟨A6, k6, rfl, hR6⟩ := hq5.rd encVote_len; have hB5 := below_call hB4 hB4.size hb5; have hR25 := hR24.below hb5; have hR35 := hR34.below hb5)
          | (go_at_call 25; (with_reducible refine (hla2'.out _ _ _ hR35).mono ?_); clear hla2'; rintro e w6 ⟨u, rfl, hq6, hb6⟩; obtain ⟨A7, k7, rfl, hR7⟩ := hq6.rd encVote_len; have hB6 := below_call hB5 hB5.size hb6; have hR26 := hR25.below hb6; have hR66 := hR6.below hb6)
          | (go_at_call 23; (with_reducible refine (hsl'.out _ _ _ _ _ hR66 hR7).mono ?_); clear hsl'; rintro e w7 ⟨rfl, hb7⟩; have hB7 := below_call hB6 hB6.size hb7; have hR27 := hR26.below hb7)
          | (go_at_call 21; (with_reducible refine (hdo'.out _ hB7).mono ?_); clear hdo'; rintro e w8 ⟨u, rfl, hq8, hb8⟩; obtain ⟨A8, k8, rfl, hR8⟩ := hq8.rd encI_len; have hB8 := below_call hB7 hB7.size hb8; have hR28 := hR27.below hb8)
          | (go_at_call 21; (with_reducible refine (hdo2'.out _ _ _ hR28).mono ?_); clear hdo2'; rintro e w9 ⟨u, rfl, hq9, hb9⟩; obtain ⟨A9, k9, rfl, hR9⟩ := hq9.rd encI_len; have hB9 := below_call hB8 hB8.size hb9; have hR89 := hR8.below hb9)
          | (go_at_call 20; (with_reducible refine (hsd'.out _ _ _ _ _ hR89 hR9).mono ?_); clear hsd'; rintro e wa ⟨rfl, hba⟩; have hBa := below_call hB9 hB9.size hba))
        go_ret
        exact ⟨rfl, hBa⟩
  · have hcase : 40 < l.length := by omega
    clear hsm
    go_enter Try.func8, Try.ntmps8
    go_wp2_with (go_at_call 19; (with_reducible refine haw.mono ?_); clear haw; rintro e w1 ⟨rfl, hB1⟩)
    go_ret
    exact ⟨rfl, hB1⟩
theorem slots_walk (A : Option Addr) (l : List Vote) (k : Nat) (n : Int) (w : World) (_ : l.length ≤ k) (_ : k ≤ maxLen) (hr : Rd 4 encVote w A l) (_ : ∀ b ∈ l, b.Ok) (_ : I64 n) :
    Calls Try.prog 8 #[.slice A l.length k, .int .i64 n] w fun e w' => e = .returned (.bool true) ∧ Below w.heap.size w w' :=
  slots_any l n A k w hr
end Go.Proofs.Ytkccakaaklemdaa
