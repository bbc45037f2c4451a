/- VotesOrder, walked. (Printed by gen_order.py.) -/
import Derived.Test.YtkccakaaklemdaaRead0
import Derived.Test.YtkccakaaklemdaaLaw07b
import Derived.Test.YtkccakaaklemdaaApart
import Derived.Test.YtkccakaaklemdaaAppend
import Derived.Test.YtkccakaaklemdaaCut
namespace Go.Proofs.Ytkccakaaklemdaa
open Go.RowKit
set_option maxRecDepth 100000 in
set_option maxHeartbeats 4000000 in
theorem order_any (l : List Vote) (s at_ : Int) (A : Option Addr) (k : Nat) (w : World) (hlk : l.length ≤ k) (hkm : k ≤ maxLen) (hr : Rd 4 encVote w A l) (hN : A = none → k = 0) :
    Calls Try.prog 5 #[.slice A l.length k, .int .i64 s, .int .i64 at_] w fun e w' => e = .returned (.bool true) ∧ Below w.heap.size w w' := by
  have hm := hr.1
  have hunV := Try.underlying27
  have haw := awake7_any w
  have hkm' : k ≤ 9223372036854775807 := by unfold maxLen at hkm; omega
  by_cases hsm : l.length ≤ 40 ∧ 0 ≤ at_ ∧ at_ ≤ l.length
  · obtain ⟨h1, h2, h3⟩ := hsm
    obtain ⟨n, rfl⟩ := Int.eq_ofNat_of_zero_le h2
    have hn : n ≤ l.length := by omega
    have b1 : decide (40 < l.length) = false := by simp; omega
    have b2 : decide (40 < (l.length : Int)) = false := by simp; omega
    have b3 : decide ((n : Int) < 0) = false := by simp
    have b4 : decide ((l.length : Int) < (n : Int)) = false := by simp; omega
    have hof := fun V (hV : Below w.heap.size w V) => vof_any l s A k V (hr.below hV) (by omega)
    have hla := fun V (hV : Below w.heap.size w V) => vlast_any l s A k V (hr.below hV) (by omega)
    have hdo := fun V (hV : Below w.heap.size w V) => doubles_any l s A k V (hr.below hV) (by omega)
    have hmem : ∀ x, x ∈ l ↔ x ∈ l.drop n ++ l := fun x => by
      rw [List.mem_append]
      exact ⟨.inr, fun h => h.elim List.mem_of_mem_drop id⟩
    obtain ⟨q, hq⟩ : ∃ q, l.drop n ++ l = q := ⟨_, rfl⟩
    rw [hq] at hmem
    have hql : q.length ≤ 100000 := by rw [← hq]; simp; omega
    have hof2 := fun V (B : Option Addr) (kb : Nat) (hB : Rd 4 encVote V B q) => vof_any q s B kb V hB hql
    have hla2 := fun V (B : Option Addr) (kb : Nat) (hB : Rd 4 encVote V B q) => vlast_any q s B kb V hB hql
    have hdo2 := fun V (B : Option Addr) (kb : Nat) (hB : Rd 4 encVote V B q) => doubles_any q s B kb V hB hql
    rw [← ofL_congr hmem] at hof2
    rw [← lastL_congr hmem] at hla2
    rw [← dblL_congr hmem] at hdo2
    obtain ⟨o, ho⟩ : ∃ o, ofL l s = o := ⟨_, rfl⟩
    obtain ⟨m, hmm⟩ : ∃ m, lastL l s = m := ⟨_, rfl⟩
    obtain ⟨d, hd⟩ : ∃ d, dblL l s = d := ⟨_, rfl⟩
    rw [ho] at hof hof2
    rw [hmm] at hla hla2
    rw [hd] at hdo hdo2
    have hof' := Lib.hid hof
    have hof2' := Lib.hid hof2
    have hla' := Lib.hid hla
    have hla2' := Lib.hid hla2
    have hdo' := Lib.hid hdo
    have hdo2' := Lib.hid hdo2
    have hso := fun V (B C : Option Addr) (kb kc : Nat) (h1 : Rd 4 encVote V B o) (h2 : Rd 4 encVote V C o) => same_any o o B C kb kc V h1 h2
    have hsl := fun V (B C : Option Addr) (kb kc : Nat) (h1 : Rd 4 encVote V B m) (h2 : Rd 4 encVote V C m) => same_any m m B C kb kc V h1 h2
    have hsd := fun V (B C : Option Addr) (kb kc : Nat) (h1 : Rd 1 encI V B d) (h2 : Rd 1 encI V C d) => ints_any d d B C kb kc V h1 h2
    simp only [decide_true] at hso hsl hsd
    have hso' := Lib.hid hso
    have hsl' := Lib.hid hsl
    have hsd' := Lib.hid hsd
    have hq' := Lib.hid hq
    clear ho hmm hd hof hof2 hla hla2 hdo hdo2 hso hsl hsd hmem hq hql h2 h3
    by_cases hl : l = []
    · subst hl
      obtain rfl : n = 0 := by simpa using hn
      have hnil : ([] : List Vote).length = 0 := rfl
      have hqn := Lib.hid (show ([] : List Vote) = q by rw [← hq'.out]; rfl)
      have t1 := hof'.out
      have t2 := hla'.out
      have t3 := hdo'.out
      simp only [List.length_nil] at t1 t2 t3
      clear hof' hla' hdo'
      have hof' := Lib.hid t1
      have hla' := Lib.hid t2
      have hdo' := Lib.hid t3
      clear hq' t1 t2 t3
      cases A with
      | none =>
        obtain rfl := hN rfl
        go_enter Try.func5, Try.ntmps5
        go_wp2_with (first
          | (go_at_call 19; (with_reducible refine haw.mono ?_); clear haw; rintro e w1 ⟨rfl, hB1⟩; have hr1 := hr.below hB1)
          | (at_builtin; (refine wp_append_all rfl rfl hunV infoV rfl (by decide) encVote_len encVote_one rfl (Own.nil w1 w1.heap.size _ _ _) (A := none) (c := 0) (ys := ([] : List Vote)) rfl (fun e => by first | rfl | cases e) (Rd_nil _ _ _ _) (by first | omega | (simp; done) | (simp; omega)) (by unfold maxLen; first | omega | (simp; done) | (simp; omega)) (Nat.le_refl _) ?_; intro v5 w5 ho5 hg5 hat5; rw [List.nil_append] at ho5; have hb5 := below_step (Below.refl w1.heap.size w1) (Nat.le_refl _) hg5 (fun _ e => by cases e); obtain ⟨A5, c5, hv5, hR5, hN5⟩ := ho5.src encVote_len; subst hv5; have hr5 := hr1.below hb5))
          | (at_builtin; refine wp_append_all rfl rfl hunV infoV rfl (by decide) encVote_len encVote_one rfl ho5 (A := none) (c := 0) (ys := ([] : List Vote)) rfl (fun e => by first | rfl | cases e) hr5 (by first | omega | (simp; done) | (simp; omega)) (by unfold maxLen; first | omega | (simp; done) | (simp; omega)) hb5.size ?_; intro v2 w2 ho2 hg2 hat2; have hb2 := below_step hb5 hb5.size hg2 (fun k e => (ho5.base k e).1)))
        have hB2 := below_call hB1 hB1.size hb2
        have hq2 : Own w2 w1.heap.size 38 4 encVote v2 q := by rw [← hqn.out]; exact ho2
        obtain ⟨A2, k2, rfl, hR2⟩ := hq2.rd encVote_len
        go_wp2_with (first
          | (go_at_call 21; (with_reducible refine (hdo'.out _ hB2).mono ?_); clear hdo'; rintro e w8 ⟨u, rfl, hq8, hb8⟩; obtain ⟨A8, k8, rfl, hR8⟩ := hq8.rd encI_len; have hB8 := below_call hB2 hB2.size hb8; have hR28 := hR2.below hb8)
          | (go_at_call 21; (with_reducible refine (hdo2'.out _ _ _ hR28).mono ?_); clear hdo2'; rintro e w9 ⟨u, rfl, hq9, hb9⟩; obtain ⟨A9, k9, rfl, hR9⟩ := hq9.rd encI_len; have hB9 := below_call hB8 hB8.size hb9; have hR89 := hR8.below hb9; have hR29 := hR28.below hb9)
          | (go_at_call 20; (with_reducible refine (hsd'.out _ _ _ _ _ hR89 hR9).mono ?_); clear hsd'; rintro e wa ⟨rfl, hba⟩; have hBa := below_call hB9 hB9.size hba; have hR2a := hR29.below hba)
          | (go_at_call 14; (with_reducible refine (hof'.out _ hBa).mono ?_); clear hof'; rintro e wb ⟨u, rfl, hqb, hbb⟩; obtain ⟨A4, k4, rfl, hR4⟩ := hqb.rd encVote_len; have hBb := below_call hBa hBa.size hbb; have hR2b := hR2a.below hbb)
          | (go_at_call 14; (with_reducible refine (hof2'.out _ _ _ hR2b).mono ?_); clear hof2'; rintro e wc ⟨u, rfl, hqc, hbc⟩; obtain ⟨A5, k5, rfl, hR5⟩ := hqc.rd encVote_len; have hBc := below_call hBb hBb.size hbc; have hR2c := hR2b.below hbc; have hR4c := hR4.below hbc)
          | (go_at_call 23; (with_reducible refine (hso'.out _ _ _ _ _ hR4c hR5).mono ?_); clear hso'; rintro e wd ⟨rfl, hbd⟩; have hBd := below_call hBc hBc.size hbd; have hR2d := hR2c.below hbd)
          | (go_at_call 25; (with_reducible refine (hla'.out _ hBd).mono ?_); clear hla'; rintro e we ⟨u, rfl, hqe, hbe⟩; obtain ⟨A6, k6, rfl, hR6⟩ := hqe.rd encVote_len; have hBe := below_call hBd hBd.size hbe; have hR2e := hR2d.below hbe)
          | (go_at_call 25; (with_reducible refine (hla2'.out _ _ _ hR2e).mono ?_); clear hla2'; rintro e wf ⟨u, rfl, hqf, hbf⟩; obtain ⟨A7, k7, rfl, hR7⟩ := hqf.rd encVote_len; have hBf := below_call hBe hBe.size hbf; have hR6f := hR6.below hbf)
          | (go_at_call 23; (with_reducible refine (hsl'.out _ _ _ _ _ hR6f hR7).mono ?_); clear hsl'; rintro e wg ⟨rfl, hbg⟩; have hBg := below_call hBf hBf.size hbg))
        go_ret
        exact ⟨rfl, hBg⟩
      | some ad =>
        by_cases hk : k = 0
        · subst hk
          go_enter Try.func5, Try.ntmps5
          go_wp2_with (first
            | (go_at_call 19; (with_reducible refine haw.mono ?_); clear haw; rintro e w1 ⟨rfl, hB1⟩; have hr1 := hr.below hB1)
            | (at_builtin; (refine wp_append_all rfl rfl hunV infoV rfl (by decide) encVote_len encVote_one rfl (Own.nil w1 w1.heap.size _ _ _) (A := _) (c := _) (ys := ([] : List Vote)) rfl (fun e => by first | rfl | cases e) (Rd_nil _ _ _ _) (by first | omega | (simp; done) | (simp; omega)) (by unfold maxLen; first | omega | (simp; done) | (simp; omega)) (Nat.le_refl _) ?_; intro v5 w5 ho5 hg5 hat5; rw [List.nil_append] at ho5; have hb5 := below_step (Below.refl w1.heap.size w1) (Nat.le_refl _) hg5 (fun _ e => by cases e); obtain ⟨A5, c5, hv5, hR5, hN5⟩ := ho5.src encVote_len; subst hv5; have hr5 := hr1.below hb5))
            | (at_builtin; refine wp_append_all rfl rfl hunV infoV rfl (by decide) encVote_len encVote_one rfl ho5 (A := (some ad)) (c := 0) (ys := ([] : List Vote)) rfl (fun e => by first | rfl | cases e) hr5 (by first | omega | (simp; done) | (simp; omega)) (by unfold maxLen; first | omega | (simp; done) | (simp; omega)) hb5.size ?_; intro v2 w2 ho2 hg2 hat2; have hb2 := below_step hb5 hb5.size hg2 (fun k e => (ho5.base k e).1)))
          have hB2 := below_call hB1 hB1.size hb2
          have hq2 : Own w2 w1.heap.size 38 4 encVote v2 q := by rw [← hqn.out]; exact ho2
          obtain ⟨A2, k2, rfl, hR2⟩ := hq2.rd encVote_len
          go_wp2_with (first
            | (go_at_call 21; (with_reducible refine (hdo'.out _ hB2).mono ?_); clear hdo'; rintro e w8 ⟨u, rfl, hq8, hb8⟩; obtain ⟨A8, k8, rfl, hR8⟩ := hq8.rd encI_len; have hB8 := below_call hB2 hB2.size hb8; have hR28 := hR2.below hb8)
            | (go_at_call 21; (with_reducible refine (hdo2'.out _ _ _ hR28).mono ?_); clear hdo2'; rintro e w9 ⟨u, rfl, hq9, hb9⟩; obtain ⟨A9, k9, rfl, hR9⟩ := hq9.rd encI_len; have hB9 := below_call hB8 hB8.size hb9; have hR89 := hR8.below hb9; have hR29 := hR28.below hb9)
            | (go_at_call 20; (with_reducible refine (hsd'.out _ _ _ _ _ hR89 hR9).mono ?_); clear hsd'; rintro e wa ⟨rfl, hba⟩; have hBa := below_call hB9 hB9.size hba; have hR2a := hR29.below hba)
            | (go_at_call 14; (with_reducible refine (hof'.out _ hBa).mono ?_); clear hof'; rintro e wb ⟨u, rfl, hqb, hbb⟩; obtain ⟨A4, k4, rfl, hR4⟩ := hqb.rd encVote_len; have hBb := below_call hBa hBa.size hbb; have hR2b := hR2a.below hbb)
            | (go_at_call 14; (with_reducible refine (hof2'.out _ _ _ hR2b).mono ?_); clear hof2'; rintro e wc ⟨u, rfl, hqc, hbc⟩; obtain ⟨A5, k5, rfl, hR5⟩ := hqc.rd encVote_len; have hBc := below_call hBb hBb.size hbc; have hR2c := hR2b.below hbc; have hR4c := hR4.below hbc)
            | (go_at_call 23; (with_reducible refine (hso'.out _ _ _ _ _ hR4c hR5).mono ?_); clear hso'; rintro e wd ⟨rfl, hbd⟩; have hBd := below_call hBc hBc.size hbd; have hR2d := hR2c.below hbd)
            | (go_at_call 25; (with_reducible refine (hla'.out _ hBd).mono ?_); clear hla'; rintro e we ⟨u, rfl, hqe, hbe⟩; obtain ⟨A6, k6, rfl, hR6⟩ := hqe.rd encVote_len; have hBe := below_call hBd hBd.size hbe; have hR2e := hR2d.below hbe)
            | (go_at_call 25; (with_reducible refine (hla2'.out _ _ _ hR2e).mono ?_); clear hla2'; rintro e wf ⟨u, rfl, hqf, hbf⟩; obtain ⟨A7, k7, rfl, hR7⟩ := hqf.rd encVote_len; have hBf := below_call hBe hBe.size hbf; have hR6f := hR6.below hbf)
            | (go_at_call 23; (with_reducible refine (hsl'.out _ _ _ _ _ hR6f hR7).mono ?_); clear hsl'; rintro e wg ⟨rfl, hbg⟩; have hBg := below_call hBf hBf.size hbg))
          go_ret
          exact ⟨rfl, hBg⟩
        · have hi1 : (0 : Int) ≤ (k : Int) := by omega
          go_enter Try.func5, Try.ntmps5
          go_wp2_with (first
            | (go_at_call 19; (with_reducible refine haw.mono ?_); clear haw; rintro e w1 ⟨rfl, hB1⟩; have hr1 := hr.below hB1)
            | (at_builtin; (refine wp_append_all rfl rfl hunV infoV rfl (by decide) encVote_len encVote_one rfl (Own.nil w1 w1.heap.size _ _ _) (A := _) (c := _) (ys := ([] : List Vote)) rfl (fun e => by first | rfl | cases e) (Rd_nil _ _ _ _) (by first | omega | (simp; done) | (simp; omega)) (by unfold maxLen; first | omega | (simp; done) | (simp; omega)) (Nat.le_refl _) ?_; intro v5 w5 ho5 hg5 hat5; rw [List.nil_append] at ho5; have hb5 := below_step (Below.refl w1.heap.size w1) (Nat.le_refl _) hg5 (fun _ e => by cases e); obtain ⟨A5, c5, hv5, hR5, hN5⟩ := ho5.src encVote_len; subst hv5; have hr5 := hr1.below hb5))
            | (at_builtin; refine wp_append_all rfl rfl hunV infoV rfl (by decide) encVote_len encVote_one rfl ho5 (A := (some ad)) (c := k) (ys := ([] : List Vote)) rfl (fun e => by first | rfl | cases e) hr5 (by first | omega | (simp; done) | (simp; omega)) (by unfold maxLen; first | omega | (simp; done) | (simp; omega)) hb5.size ?_; intro v2 w2 ho2 hg2 hat2; have hb2 := below_step hb5 hb5.size hg2 (fun k e => (ho5.base k e).1)))
          have hB2 := below_call hB1 hB1.size hb2
          have hq2 : Own w2 w1.heap.size 38 4 encVote v2 q := by rw [← hqn.out]; exact ho2
          obtain ⟨A2, k2, rfl, hR2⟩ := hq2.rd encVote_len
          go_wp2_with (first
            | (go_at_call 21; (with_reducible refine (hdo'.out _ hB2).mono ?_); clear hdo'; rintro e w8 ⟨u, rfl, hq8, hb8⟩; obtain ⟨A8, k8, rfl, hR8⟩ := hq8.rd encI_len; have hB8 := below_call hB2 hB2.size hb8; have hR28 := hR2.below hb8)
            | (go_at_call 21; (with_reducible refine (hdo2'.out _ _ _ hR28).mono ?_); clear hdo2'; rintro e w9 ⟨u, rfl, hq9, hb9⟩; obtain ⟨A9, k9, rfl, hR9⟩ := hq9.rd encI_len; have hB9 := below_call hB8 hB8.size hb9; have hR89 := hR8.below hb9; have hR29 := hR28.below hb9)
            | (go_at_call 20; (with_reducible refine (hsd'.out _ _ _ _ _ hR89 hR9).mono ?_); clear hsd'; rintro e wa ⟨rfl, hba⟩; have hBa := below_call hB9 hB9.size hba; have hR2a := hR29.below hba)
            | (go_at_call 14; (with_reducible refine (hof'.out _ hBa).mono ?_); clear hof'; rintro e wb ⟨u, rfl, hqb, hbb⟩; obtain ⟨A4, k4, rfl, hR4⟩ := hqb.rd encVote_len; have hBb := below_call hBa hBa.size hbb; have hR2b := hR2a.below hbb)
            | (go_at_call 14; (with_reducible refine (hof2'.out _ _ _ hR2b).mono ?_); clear hof2'; rintro e wc ⟨u, rfl, hqc, hbc⟩; obtain ⟨A5, k5, rfl, hR5⟩ := hqc.rd encVote_len; have hBc := below_call hBb hBb.size hbc; have hR2c := hR2b.below hbc; have hR4c := hR4.below hbc)
            | (go_at_call 23; (with_reducible refine (hso'.out _ _ _ _ _ hR4c hR5).mono ?_); clear hso'; rintro e wd ⟨rfl, hbd⟩; have hBd := below_call hBc hBc.size hbd; have hR2d := hR2c.below hbd)
            | (go_at_call 25; (with_reducible refine (hla'.out _ hBd).mono ?_); clear hla'; rintro e we ⟨u, rfl, hqe, hbe⟩; obtain ⟨A6, k6, rfl, hR6⟩ := hqe.rd encVote_len; have hBe := below_call hBd hBd.size hbe; have hR2e := hR2d.below hbe)
            | (go_at_call 25; (with_reducible refine (hla2'.out _ _ _ hR2e).mono ?_); clear hla2'; rintro e wf ⟨u, rfl, hqf, hbf⟩; obtain ⟨A7, k7, rfl, hR7⟩ := hqf.rd encVote_len; have hBf := below_call hBe hBe.size hbf; have hR6f := hR6.below hbf)
            | (go_at_call 23; (with_reducible refine (hsl'.out _ _ _ _ _ hR6f hR7).mono ?_); clear hsl'; rintro e wg ⟨rfl, hbg⟩; have hBg := below_call hBf hBf.size hbg))
          go_ret
          exact ⟨rfl, hBg⟩
    · obtain ⟨b, o2, rfl, _⟩ := hr.2 hl
      have hi0 : (0 : Int) ≤ (n : Int) := by omega
      have hi1 : (n : Int) ≤ (l.length : Int) := by omega
      have hi2 : (l.length : Int) ≤ (k : Int) := by omega
      have hi3 : (n : Int) ≤ (k : Int) := by omega
      obtain ⟨rest, hrest⟩ : ∃ rest, l.drop n = rest := ⟨_, rfl⟩
      have hrl : l.length - n = rest.length := by rw [← hrest]; simp
      have hrle : rest.length ≤ 40 := by omega
      have hqn := Lib.hid (show rest ++ l = q by rw [← hq'.out, hrest])
      have hrest' := Lib.hid hrest
      clear hq' hrest hl
      by_cases hk : n = k
      · subst hk
        have hrn := Lib.hid (show rest = [] from List.eq_nil_of_length_eq_zero (by omega))
        go_enter Try.func5, Try.ntmps5
        go_wp2_with (first
          | (go_at_call 19; (with_reducible refine haw.mono ?_); clear haw; rintro e w1 ⟨rfl, hB1⟩; have hr1 := hr.below hB1)
          | (at_builtin; (refine wp_append_all rfl rfl hunV infoV rfl (by decide) encVote_len encVote_one rfl (Own.nil w1 w1.heap.size _ _ _) (A := _) (c := _) (ys := rest) rfl (fun e => by first | rfl | cases e) (by rw [hrn.out]; exact Rd_nil _ _ _ _) (by first | omega | (simp; done) | (simp; omega)) (by unfold maxLen; first | omega | (simp; done) | (simp; omega)) (Nat.le_refl _) ?_; intro v5 w5 ho5 hg5 hat5; rw [List.nil_append] at ho5; have hb5 := below_step (Below.refl w1.heap.size w1) (Nat.le_refl _) hg5 (fun _ e => by cases e); obtain ⟨A5, c5, hv5, hR5, hN5⟩ := ho5.src encVote_len; subst hv5; have hr5 := hr1.below hb5))
          | (at_builtin; refine wp_append_all rfl rfl hunV infoV rfl (by decide) encVote_len encVote_one rfl ho5 (A := (some ⟨b, o2, none⟩)) (c := n) (ys := l) rfl (fun e => by first | rfl | cases e) hr5 (by first | omega | (simp; done) | (simp; omega)) (by unfold maxLen; first | omega | (simp; done) | (simp; omega)) hb5.size ?_; intro v2 w2 ho2 hg2 hat2; have hb2 := below_step hb5 hb5.size hg2 (fun k e => (ho5.base k e).1)))
        have hB2 := below_call hB1 hB1.size hb2
        have hq2 : Own w2 w1.heap.size 38 4 encVote v2 q := by rw [← hqn.out]; exact ho2
        obtain ⟨A2, k2, rfl, hR2⟩ := hq2.rd encVote_len
        go_wp2_with (first
          | (go_at_call 21; (with_reducible refine (hdo'.out _ hB2).mono ?_); clear hdo'; rintro e w8 ⟨u, rfl, hq8, hb8⟩; obtain ⟨A8, k8, rfl, hR8⟩ := hq8.rd encI_len; have hB8 := below_call hB2 hB2.size hb8; have hR28 := hR2.below hb8)
          | (go_at_call 21; (with_reducible refine (hdo2'.out _ _ _ hR28).mono ?_); clear hdo2'; rintro e w9 ⟨u, rfl, hq9, hb9⟩; obtain ⟨A9, k9, rfl, hR9⟩ := hq9.rd encI_len; have hB9 := below_call hB8 hB8.size hb9; have hR89 := hR8.below hb9; have hR29 := hR28.below hb9)
          | (go_at_call 20; (with_reducible refine (hsd'.out _ _ _ _ _ hR89 hR9).mono ?_); clear hsd'; rintro e wa ⟨rfl, hba⟩; have hBa := below_call hB9 hB9.size hba; have hR2a := hR29.below hba)
          | (go_at_call 14; (with_reducible refine (hof'.out _ hBa).mono ?_); clear hof'; rintro e wb ⟨u, rfl, hqb, hbb⟩; obtain ⟨A4, k4, rfl, hR4⟩ := hqb.rd encVote_len; have hBb := below_call hBa hBa.size hbb; have hR2b := hR2a.below hbb)
          | (go_at_call 14; (with_reducible refine (hof2'.out _ _ _ hR2b).mono ?_); clear hof2'; rintro e wc ⟨u, rfl, hqc, hbc⟩; obtain ⟨A5, k5, rfl, hR5⟩ := hqc.rd encVote_len; have hBc := below_call hBb hBb.size hbc; have hR2c := hR2b.below hbc; have hR4c := hR4.below hbc)
          | (go_at_call 23; (with_reducible refine (hso'.out _ _ _ _ _ hR4c hR5).mono ?_); clear hso'; rintro e wd ⟨rfl, hbd⟩; have hBd := below_call hBc hBc.size hbd; have hR2d := hR2c.below hbd)
          | (go_at_call 25; (with_reducible refine (hla'.out _ hBd).mono ?_); clear hla'; rintro e we ⟨u, rfl, hqe, hbe⟩; obtain ⟨A6, k6, rfl, hR6⟩ := hqe.rd encVote_len; have hBe := below_call hBd hBd.size hbe; have hR2e := hR2d.below hbe)
          | (go_at_call 25; (with_reducible refine (hla2'.out _ _ _ hR2e).mono ?_); clear hla2'; rintro e wf ⟨u, rfl, hqf, hbf⟩; obtain ⟨A7, k7, rfl, hR7⟩ := hqf.rd encVote_len; have hBf := below_call hBe hBe.size hbf; have hR6f := hR6.below hbf)
          | (go_at_call 23; (with_reducible refine (hsl'.out _ _ _ _ _ hR6f hR7).mono ?_); clear hsl'; rintro e wg ⟨rfl, hbg⟩; have hBg := below_call hBf hBf.size hbg))
        go_ret
        exact ⟨rfl, hBg⟩
      · go_enter Try.func5, Try.ntmps5
        go_wp2_with (first
          | (go_at_call 19; (with_reducible refine haw.mono ?_); clear haw; rintro e w1 ⟨rfl, hB1⟩; have hr1 := hr.below hB1)
          | (at_builtin; (refine wp_append_all rfl rfl hunV infoV rfl (by decide) encVote_len encVote_one rfl (Own.nil w1 w1.heap.size _ _ _) (A := (some ⟨b, o2 + n * 4, none⟩)) (c := _) (ys := rest) rfl (fun e => by first | rfl | cases e) (by rw [← hrest'.out]; exact hr1.drop n) (by first | omega | (simp; done) | (simp; omega)) (by unfold maxLen; first | omega | (simp; done) | (simp; omega)) (Nat.le_refl _) ?_; intro v5 w5 ho5 hg5 hat5; rw [List.nil_append] at ho5; have hb5 := below_step (Below.refl w1.heap.size w1) (Nat.le_refl _) hg5 (fun _ e => by cases e); obtain ⟨A5, c5, hv5, hR5, hN5⟩ := ho5.src encVote_len; subst hv5; have hr5 := hr1.below hb5))
          | (at_builtin; refine wp_append_all rfl rfl hunV infoV rfl (by decide) encVote_len encVote_one rfl ho5 (A := (some ⟨b, o2, none⟩)) (c := k) (ys := l) rfl (fun e => by first | rfl | cases e) hr5 (by first | omega | (simp; done) | (simp; omega)) (by unfold maxLen; first | omega | (simp; done) | (simp; omega)) hb5.size ?_; intro v2 w2 ho2 hg2 hat2; have hb2 := below_step hb5 hb5.size hg2 (fun k e => (ho5.base k e).1)))
        have hB2 := below_call hB1 hB1.size hb2
        have hq2 : Own w2 w1.heap.size 38 4 encVote v2 q := by rw [← hqn.out]; exact ho2
        obtain ⟨A2, k2, rfl, hR2⟩ := hq2.rd encVote_len
        go_wp2_with (first
          | (go_at_call 21; (with_reducible refine (hdo'.out _ hB2).mono ?_); clear hdo'; rintro e w8 ⟨u, rfl, hq8, hb8⟩; obtain ⟨A8, k8, rfl, hR8⟩ := hq8.rd encI_len; have hB8 := below_call hB2 hB2.size hb8; have hR28 := hR2.below hb8)
          | (go_at_call 21; (with_reducible refine (hdo2'.out _ _ _ hR28).mono ?_); clear hdo2'; rintro e w9 ⟨u, rfl, hq9, hb9⟩; obtain ⟨A9, k9, rfl, hR9⟩ := hq9.rd encI_len; have hB9 := below_call hB8 hB8.size hb9; have hR89 := hR8.below hb9; have hR29 := hR28.below hb9)
          | (go_at_call 20; (with_reducible refine (hsd'.out _ _ _ _ _ hR89 hR9).mono ?_); clear hsd'; rintro e wa ⟨rfl, hba⟩; have hBa := below_call hB9 hB9.size hba; have hR2a := hR29.below hba)
          | (go_at_call 14; (with_reducible refine (hof'.out _ hBa).mono ?_); clear hof'; rintro e wb ⟨u, rfl, hqb, hbb⟩; obtain ⟨A4, k4, rfl, hR4⟩ := hqb.rd encVote_len; have hBb := below_call hBa hBa.size hbb; have hR2b := hR2a.below hbb)
          | (go_at_call 14; (with_reducible refine (hof2'.out _ _ _ hR2b).mono ?_); clear hof2'; rintro e wc ⟨u, rfl, hqc, hbc⟩; obtain ⟨A5, k5, rfl, hR5⟩ := hqc.rd encVote_len; have hBc := below_call hBb hBb.size hbc; have hR2c := hR2b.below hbc; have hR4c := hR4.below hbc)
          | (go_at_call 23; (with_reducible refine (hso'.out _ _ _ _ _ hR4c hR5).mono ?_); clear hso'; rintro e wd ⟨rfl, hbd⟩; have hBd := below_call hBc hBc.size hbd; have hR2d := hR2c.below hbd)
          | (go_at_call 25; (with_reducible refine (hla'.out _ hBd).mono ?_); clear hla'; rintro e we ⟨u, rfl, hqe, hbe⟩; obtain ⟨A6, k6, rfl, hR6⟩ := hqe.rd encVote_len; have hBe := below_call hBd hBd.size hbe; have hR2e := hR2d.below hbe)
          | (go_at_call 25; (with_reducible refine (hla2'.out _ _ _ hR2e).mono ?_); clear hla2'; rintro e wf ⟨u, rfl, hqf, hbf⟩; obtain ⟨A7, k7, rfl, hR7⟩ := hqf.rd encVote_len; have hBf := below_call hBe hBe.size hbf; have hR6f := hR6.below hbf)
          | (go_at_call 23; (with_reducible refine (hsl'.out _ _ _ _ _ hR6f hR7).mono ?_); clear hsl'; rintro e wg ⟨rfl, hbg⟩; have hBg := below_call hBf hBf.size hbg))
        go_ret
        exact ⟨rfl, hBg⟩
  · have hcase : (40 < l.length) ∨ (l.length ≤ 40 ∧ at_ < 0) ∨ (l.length ≤ 40 ∧ 0 ≤ at_ ∧ (l.length : Int) < at_) := by omega
    clear hsm
    go_enter Try.func5, Try.ntmps5
    rcases hcase with h1 | ⟨h1, h2⟩ | ⟨h1, h2, h3⟩
    · go_wp2_with (go_at_call 19; (with_reducible refine haw.mono ?_); clear haw; rintro e w1 ⟨rfl, hB1⟩)
      go_ret
      exact ⟨rfl, hB1⟩
    · go_wp2_with (go_at_call 19; (with_reducible refine haw.mono ?_); clear haw; rintro e w1 ⟨rfl, hB1⟩)
      go_ret
      exact ⟨rfl, hB1⟩
    · go_wp2_with (go_at_call 19; (with_reducible refine haw.mono ?_); clear haw; rintro e w1 ⟨rfl, hB1⟩)
      go_ret
      exact ⟨rfl, hB1⟩
theorem order_walk (A : Option Addr) (l : List Vote) (k : Nat) (s n : Int) (w : World) (hlk : l.length ≤ k) (hkm : k ≤ maxLen) (hr : Rd 4 encVote w A l) (_ : ∀ b ∈ l, b.Ok) (hN : A = none → k = 0) (_ : I64 s) (_ : I64 n) :
    Calls Try.prog 5 #[.slice A l.length k, .int .i64 s, .int .i64 n] w fun e w' => e = .returned (.bool true) ∧ Below w.heap.size w w' :=
  order_any l s n A k w hlk hkm hr hN
end Go.Proofs.Ytkccakaaklemdaa
