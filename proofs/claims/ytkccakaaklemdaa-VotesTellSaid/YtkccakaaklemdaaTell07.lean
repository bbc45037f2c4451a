/- VotesTell, walked. -/
import Derived.Test.YtkccakaaklemdaaRead0
import Derived.Test.YtkccakaaklemdaaLaw07b
import Derived.Test.YtkccakaaklemdaaRefV7
namespace Go.Proofs.Ytkccakaaklemdaa
open Go.RowKit
set_option maxRecDepth 100000 in
set_option maxHeartbeats 4000000 in
theorem tell7_any (l : List Vote) (s : Int) (A : Option Addr) (k : Nat) (w : World) (hr : Rd 4 encVote w A l) :
    Calls Try.prog 4 #[.slice A l.length k, .int .i64 s] w fun e w' => e = .returned (.bool true) ∧ Below w.heap.size w w' := by
  have hm := hr.1
  have haw := awake7_any w
  by_cases hsm : l.length ≤ 40
  · have b1 : decide (40 < l.length) = false := by simp; omega
    have b2 : decide (40 < (l.length : Int)) = false := by simp; omega
    have hof := fun V (hV : Below w.heap.size w V) => vof_any l s A k V (hr.below hV) (by omega)
    have hla := fun V (hV : Below w.heap.size w V) => vlast_any l s A k V (hr.below hV) (by omega)
    have hdo := fun V (hV : Below w.heap.size w V) => doubles_any l s A k V (hr.below hV) (by omega)
    have hof2 := fun V (hV : Below w.heap.size w V) => rvof_any l s A k V (hr.below hV) (by omega)
    have hla2 := fun V (hV : Below w.heap.size w V) => rvlast_any l s A k V (hr.below hV) (by omega)
    have hdo2 := fun V (hV : Below w.heap.size w V) => rvdoubles_any l s A k V (hr.below hV) (by omega)
    obtain ⟨o, ho⟩ : ∃ o, ofL l s = o := ⟨_, rfl⟩
    obtain ⟨m, hmm⟩ : ∃ m, lastL l s = m := ⟨_, rfl⟩
    obtain ⟨d, hd⟩ : ∃ d, dblL l s = d := ⟨_, rfl⟩
    rw [ho] at hof hof2
    rw [hmm] at hla hla2
    rw [hd] at hdo hdo2
    have hof' := Lib.hid hof
    have hof2' := Lib.hid hof2
    have hla' := Lib.hid hla
    have hla2' := Lib.hid hla2
    have hdo' := Lib.hid hdo
    have hdo2' := Lib.hid hdo2
    have hso := fun V (B C : Option Addr) (kb kc : Nat) (h1 : Rd 4 encVote V B o) (h2 : Rd 4 encVote V C o) => same_any o o B C kb kc V h1 h2
    have hsl := fun V (B C : Option Addr) (kb kc : Nat) (h1 : Rd 4 encVote V B m) (h2 : Rd 4 encVote V C m) => same_any m m B C kb kc V h1 h2
    have hsd := fun V (B C : Option Addr) (kb kc : Nat) (h1 : Rd 1 encI V B d) (h2 : Rd 1 encI V C d) => ints_any d d B C kb kc V h1 h2
    simp only [decide_true] at hso hsl hsd
    have hso' := Lib.hid hso
    have hsl' := Lib.hid hsl
    have hsd' := Lib.hid hsd
    clear ho hmm hd hof hof2 hla hla2 hdo hdo2 hso hsl hsd
    go_enter Try.func4, Try.ntmps4
    go_wp2_with (first
      | (go_at_call 19; (with_reducible refine haw.mono ?_); clear haw; rintro e w1 ⟨rfl, hB1⟩)
      | (go_at_call 21; (with_reducible refine (hdo'.out _ hB1).mono ?_); clear hdo'; rintro e w8 ⟨u, rfl, hq8, hb8⟩; obtain ⟨A8, k8, rfl, hR8⟩ := hq8.rd encI_len; have hB8 := below_call hB1 hB1.size hb8)
      | (go_at_call 22; (with_reducible refine (hdo2'.out _ hB8).mono ?_); clear hdo2'; rintro e w9 ⟨u, rfl, hq9, hb9⟩; obtain ⟨A9, k9, rfl, hR9⟩ := hq9.rd encI_len; have hB9 := below_call hB8 hB8.size hb9; have hR89 := hR8.below hb9)
      | (go_at_call 20; (with_reducible refine (hsd'.out _ _ _ _ _ hR89 hR9).mono ?_); clear hsd'; rintro e wa ⟨rfl, hba⟩; have hBa := below_call hB9 hB9.size hba)
      | (go_at_call 14; (with_reducible refine (hof'.out _ hBa).mono ?_); clear hof'; rintro e wb ⟨u, rfl, hqb, hbb⟩; obtain ⟨A4, k4, rfl, hR4⟩ := hqb.rd encVote_len; have hBb := below_call hBa hBa.size hbb)
      | (go_at_call 24; (with_reducible refine (hof2'.out _ hBb).mono ?_); clear hof2'; rintro e wc ⟨u, rfl, hqc, hbc⟩; obtain ⟨A5, k5, rfl, hR5⟩ := hqc.rd encVote_len; have hBc := below_call hBb hBb.size hbc; have hR4c := hR4.below hbc)
      | (go_at_call 23; (with_reducible refine (hso'.out _ _ _ _ _ hR4c hR5).mono ?_); clear hso'; rintro e wd ⟨rfl, hbd⟩; have hBd := below_call hBc hBc.size hbd)
      | (go_at_call 25; (with_reducible refine (hla'.out _ hBd).mono ?_); clear hla'; rintro e we ⟨u, rfl, hqe, hbe⟩; obtain ⟨A6, k6, rfl, hR6⟩ := hqe.rd encVote_len; have hBe := below_call hBd hBd.size hbe)
      | (go_at_call 26; (with_reducible refine (hla2'.out _ hBe).mono ?_); clear hla2'; rintro e wf ⟨u, rfl, hqf, hbf⟩; obtain ⟨A7, k7, rfl, hR7⟩ := hqf.rd encVote_len; have hBf := below_call hBe hBe.size hbf; have hR6f := hR6.below hbf)
      | (go_at_call 23; (with_reducible refine (hsl'.out _ _ _ _ _ hR6f hR7).mono ?_); clear hsl'; rintro e wg ⟨rfl, hbg⟩; have hBg := below_call hBf hBf.size hbg))
    go_ret
    exact ⟨rfl, hBg⟩
  · have hcase : 40 < l.length := by omega
    clear hsm
    go_enter Try.func4, Try.ntmps4
    go_wp2_with (go_at_call 19; (with_reducible refine haw.mono ?_); clear haw; rintro e w1 ⟨rfl, hB1⟩)
    go_ret
    exact ⟨rfl, hB1⟩
theorem tell7_walk (A : Option Addr) (l : List Vote) (k : Nat) (n : Int) (w : World) (_ : l.length ≤ k) (_ : k ≤ maxLen) (hr : Rd 4 encVote w A l) (_ : ∀ b ∈ l, b.Ok) (_ : I64 n) :
    Calls Try.prog 4 #[.slice A l.length k, .int .i64 n] w fun e w' => e = .returned (.bool true) ∧ Below w.heap.size w w' :=
  tell7_any l n A k w hr
end Go.Proofs.Ytkccakaaklemdaa
