/- VotesMore, walked. -/
import Derived.Test.YtkccakaaklemdaaRead0
import Derived.Test.YtkccakaaklemdaaMoreP
import Derived.Test.YtkccakaaklemdaaAppend
namespace Go.Proofs.Ytkccakaaklemdaa
open Go.RowKit
set_option maxRecDepth 100000 in
set_option maxHeartbeats 4000000 in
theorem more7_any (l : List Vote) (x : Vote) (s : Int) (A : Option Addr) (k : Nat) (w : World) (hr : Rd 4 encVote w A l) (hN : A = none → k = 0) :
    Calls Try.prog 7 #[.slice A l.length k, votev x, .int .i64 s] w fun e w' => e = .returned (.bool true) ∧ Below w.heap.size w w' := by
  have hm := hr.1
  have hunV := Try.underlying27
  have haw := fun V => awake7_any V
  unfold votev
  have hvl0 := vlay w x
  have hB0 := hvl0.1
  have x0 := hvl0.2
  clear hvl0
  obtain ⟨W, hW⟩ : ∃ W, w.alloc (.cells #[.int .i64 x.frm, .int .i64 x.slot, .int .u64 x.head.hi, .int .u64 x.head.lo] 38) = W := ⟨_, rfl⟩
  rw [hW] at hB0 x0
  by_cases hsm : l.length ≤ 40
  · have b1 : decide (40 < l.length) = false := by simp; omega
    have b2 : decide (40 < (l.length : Int)) = false := by simp; omega
    have hof := fun V (hV : Below w.heap.size w V) => vof_any l s A k V (hr.below hV) (by omega)
    have hla := fun V (hV : Below w.heap.size w V) => vlast_any l s A k V (hr.below hV) (by omega)
    have hdo := fun V (hV : Below w.heap.size w V) => doubles_any l s A k V (hr.below hV) (by omega)
    have hlen : (l ++ [x]).length ≤ 100000 := by simp; omega
    have e2 : (l ++ [x]).length = l.length + 1 := by simp
    have hof2 := fun V (B : Option Addr) (kb : Nat) (hB : Rd 4 encVote V B (l ++ [x])) => vof_any (l ++ [x]) s B kb V hB hlen
    have hla2 := fun V (B : Option Addr) (kb : Nat) (hB : Rd 4 encVote V B (l ++ [x])) => vlast_any (l ++ [x]) s B kb V hB hlen
    have hdo2 := fun V (B : Option Addr) (kb : Nat) (hB : Rd 4 encVote V B (l ++ [x])) => doubles_any (l ++ [x]) s B kb V hB hlen
    rw [e2] at hof2 hla2 hdo2
    have q1 := len_of_more l x s
    have q2 := len_dbl_more l x s
    have q3 := noF_of l x s
    have q4 := noF_last l x s
    have q5 := ofL_len l s
    have q6 := lastL_len l s
    have q7 := ofL_len (l ++ [x]) s
    have q9 := dblL_len l s
    have q8 := lastL_len (l ++ [x]) s
    rw [e2] at q7 q8
    obtain ⟨o1, ho1⟩ : ∃ o1, ofL l s = o1 := ⟨_, rfl⟩
    obtain ⟨o2, ho2⟩ : ∃ o2, ofL (l ++ [x]) s = o2 := ⟨_, rfl⟩
    obtain ⟨m1, hm1⟩ : ∃ m1, lastL l s = m1 := ⟨_, rfl⟩
    obtain ⟨m2, hm2⟩ : ∃ m2, lastL (l ++ [x]) s = m2 := ⟨_, rfl⟩
    obtain ⟨d1, hd1⟩ : ∃ d1, dblL l s = d1 := ⟨_, rfl⟩
    obtain ⟨d2, hd2⟩ : ∃ d2, dblL (l ++ [x]) s = d2 := ⟨_, rfl⟩
    rw [ho1] at hof q1 q3 q5
    rw [ho2] at hof2 q1 q3 q7
    rw [hm1] at hla q4 q6
    rw [hm2] at hla2 q4 q8
    rw [hd1] at hdo q2 q9
    rw [hd2] at hdo2 q2
    have c1 : decide ((d2.length : Int) < (d1.length : Int)) = false := by simp; omega
    have c1n : decide (d2.length < d1.length) = false := by simp; omega
    have c2 : decide ((d1.length : Int) + 1 < (d2.length : Int)) = false := by simp; omega
    have c2n : decide (d1.length + 1 < d2.length) = false := by simp; omega
    have c3 : decide ((o2.length : Int) ≤ (o1.length : Int) + 1) = true := by simp; omega
    have c3n : decide (o2.length ≤ o1.length + 1) = true := by simp; omega
    have d1l : d1.length ≤ 41 := by omega
    have d2l : d2.length ≤ 42 := by omega
    have o1l : o1.length ≤ 41 := by omega
    have hw1 := fun V (B : Option Addr) (kb : Nat) (hB : Rd 4 encVote V B o1) => without_any o1 x.frm B kb V hB (by omega)
    have hw2 := fun V (B : Option Addr) (kb : Nat) (hB : Rd 4 encVote V B o2) => without_any o2 x.frm B kb V hB (by omega)
    have hw3 := fun V (B : Option Addr) (kb : Nat) (hB : Rd 4 encVote V B m1) => without_any m1 x.frm B kb V hB (by omega)
    have hw4 := fun V (B : Option Addr) (kb : Nat) (hB : Rd 4 encVote V B m2) => without_any m2 x.frm B kb V hB (by omega)
    rw [q3] at hw2
    rw [q4] at hw4
    obtain ⟨g1, hg1⟩ : ∃ g1, noF x.frm o1 = g1 := ⟨_, rfl⟩
    obtain ⟨g2, hg2⟩ : ∃ g2, noF x.frm m1 = g2 := ⟨_, rfl⟩
    rw [hg1] at hw1 hw2
    rw [hg2] at hw3 hw4
    have hs1 := fun V (B C : Option Addr) (kb kc : Nat) (h1 : Rd 4 encVote V B g1) (h2 : Rd 4 encVote V C g1) => same_any g1 g1 B C kb kc V h1 h2
    have hs2 := fun V (B C : Option Addr) (kb kc : Nat) (h1 : Rd 4 encVote V B g2) (h2 : Rd 4 encVote V C g2) => same_any g2 g2 B C kb kc V h1 h2
    simp only [decide_true] at hs1 hs2
    have hof' := Lib.hid hof
    have hof2' := Lib.hid hof2
    have hla' := Lib.hid hla
    have hla2' := Lib.hid hla2
    have hdo' := Lib.hid hdo
    have hdo2' := Lib.hid hdo2
    have hw1' := Lib.hid hw1
    have hw2' := Lib.hid hw2
    have hw3' := Lib.hid hw3
    have hw4' := Lib.hid hw4
    have hs1' := Lib.hid hs1
    have hs2' := Lib.hid hs2
    clear hof hof2 hla hla2 hdo hdo2 hw1 hw2 hw3 hw4 hs1 hs2 q1 q2 q3 q4 q5 q6 q7 q8 q9 ho1 ho2 hm1 hm2 hd1 hd2 hg1 hg2 e2 hlen
    go_enter Try.func7, Try.ntmps7
    go_wp2_with (go_at_call 19; refine (haw _).mono ?_; clear haw; rintro e w3 ⟨rfl, hb3⟩; have hB3 := below_call hB0 hB0.size hb3; have a1 := bl_own hb3 x0)
    clear x0 hb3 hB0 hW
    obtain ⟨c5, c6, c7, c8⟩ := blk4 a1
    have hKD : Below w3.heap.size w3 w3.drew := (Below.refl _ w3).drew
    have hszD : w3.drew.heap.size = w3.heap.size := rfl
    obtain ⟨Y, hY⟩ : ∃ Y, w3.drew.alloc (.cells #[.int .i64 x.frm, .int .i64 x.slot, .int .u64 x.head.hi, .int .u64 x.head.lo] 38) = Y := ⟨_, rfl⟩
    have hY2 : (w3.alloc (.cells #[.int .i64 x.frm, .int .i64 x.slot, .int .u64 x.head.hi, .int .u64 x.head.lo] 38)).drew = Y := hY
    have hKY : Below w3.heap.size w3 Y := by subst hY; exact hKD.alloc hKD.size _
    have hxY : Y.heap[w3.heap.size]? = some (.cells #[.int .i64 x.frm, .int .i64 x.slot, .int .u64 x.head.hi, .int .u64 x.head.lo] 38 (0, 0)) := by subst hY; exact ha_at hszD.symm
    have hrD := hr.below (below_call hB3 hB3.size hKD)
    have hrY := hr.below (below_call hB3 hB3.size hKY)
    have hnb : ∀ k, (Value.slice none 0 0).ownBlock = some k → w3.heap.size ≤ k := fun k e => by simp [Value.ownBlock] at e
    have hbn : (([] : List Vote).length + l.length) * 32 ≤ 140737488355328 := by simp; omega
    have hln : ([] : List Vote).length + l.length ≤ maxLen := by simp [maxLen]; omega
    have hb1 : (([] ++ l : List Vote).length + 1) * 32 ≤ 140737488355328 := by simp; omega
    have hl1 : ([] ++ l : List Vote).length + 1 ≤ maxLen := by simp [maxLen]; omega
    go_region_held3 (fun W' => W'.cell? ⟨w.heap.size, 0, none⟩ = some (.int .i64 x.frm) ∧ W'.cell? ⟨w.heap.size, 1, none⟩ = some (.int .i64 x.slot) ∧ W'.cell? ⟨w.heap.size, 2, none⟩ = some (.int .u64 x.head.hi) ∧ W'.cell? ⟨w.heap.size, 3, none⟩ = some (.int .u64 x.head.lo))
      (first | exact ⟨c5, c6, c7, c8⟩ | exact blk4 (bl_own hK6 a1) | exact blk4 (bl_own hKZ a1) | exact blk4 (bl_own hK4 a1) | exact blk4 (bl_own hKY a1)) ((first
      | (with_reducible refine step_append_all (w := w3.drew) (by with_unfolding_all rfl) (by with_unfolding_all rfl) hunV infoV (by with_unfolding_all rfl) (by decide) encVote_len encVote_one (by with_unfolding_all rfl) (Own.nil _ w3.heap.size _ _ _) (by with_unfolding_all rfl) hN hrD hbn hln hKD.size ?_; intro v4 w4 ho4 hg4 hat4; have hK4 := below_step hKD hKD.size hg4 hnb; have hO4 : ∀ k, v4.ownBlock = some k → w3.heap.size ≤ k := fun k hk => (ho4.base k hk).1; obtain ⟨Z, hZ⟩ : ∃ Z, w4.alloc (.cells #[.int .i64 x.frm, .int .i64 x.slot, .int .u64 x.head.hi, .int .u64 x.head.lo] 38) = Z := ⟨_, rfl⟩; have hKZ : Below w3.heap.size w3 Z := (by subst hZ; exact hK4.alloc hK4.size _); have hoZ : Own Z w3.heap.size 38 4 encVote v4 ([] ++ l) := (by subst hZ; exact ho4.below ((Below.refl _ w4).alloc (Nat.le_refl _) _)); have hxZ : Z.heap[w4.heap.size]? = some (.cells #[.int .i64 x.frm, .int .i64 x.slot, .int .u64 x.head.hi, .int .u64 x.head.lo] 38 (0, 0)) := (by subst hZ; exact ha_at rfl))
      | (with_reducible refine step_append_all (w := Y) (by with_unfolding_all rfl) (by with_unfolding_all rfl) hunV infoV (by with_unfolding_all rfl) (by decide) encVote_len encVote_one (by with_unfolding_all rfl) (Own.nil _ w3.heap.size _ _ _) (by with_unfolding_all rfl) hN hrY hbn hln hKY.size ?_; intro v4 Z hoZ hgZ hatZ; have hKZ := below_step hKY hKY.size hgZ hnb; have hO4 : ∀ k, v4.ownBlock = some k → w3.heap.size ≤ k := fun k hk => (hoZ.base k hk).1; have hxZ := grown_own hgZ hxY (by simp [Value.ownBlock]))
      | (with_reducible refine step_append1 (w := Z) (by with_unfolding_all rfl) (by with_unfolding_all rfl) hunV infoV (by with_unfolding_all rfl) (by decide) encVote_len encVote_one (by with_unfolding_all rfl) hoZ (c := 1) (by with_unfolding_all rfl) (y := x) hxZ (by with_unfolding_all rfl) hb1 hl1 hKZ.size ?_; intro v6 w6 ho6 hg6 hat6; have hK6 := below_step hKZ hKZ.size hg6 hO4; obtain ⟨A6, k6, hv6, hR6⟩ := ho6.rd encVote_len; simp only [List.nil_append, List.length_append, List.length_singleton] at hv6 hR6; subst hv6)))
    all_goals
      have r0 := bl_own hK6 a1
      have hB6 := below_call hB3 hB3.size hK6
      clear c5 c6 c7 c8 a1 hK6 hKZ hO4 hKD hKY hxY hnb hrD hrY hoZ hxZ hbn hln hb1 hl1
      go_wp2_with (first
        | (go_at_call 21; (with_reducible refine (hdo'.out _ hB6).mono ?_); clear hdo'; rintro e w7 ⟨u, rfl, hq7, hb7⟩; obtain ⟨A7, k7, rfl, _⟩ := hq7.rd encI_len; have hB7 := below_call hB6 hB6.size hb7; have hR7 := hR6.below hb7; have r7 := bl_own hb7 r0)
        | (go_at_call 21; (with_reducible refine (hdo2'.out _ _ _ hR7).mono ?_); clear hdo2'; rintro e w8 ⟨u, rfl, hq8, hb8⟩; obtain ⟨A8, k8, rfl, _⟩ := hq8.rd encI_len; have hB8 := below_call hB7 hB7.size hb8; have hR8 := hR7.below hb8; have r8 := bl_own hb8 r7))
      obtain ⟨c5, c6, c7, c8⟩ := blk4 r8
      go_region_held3 (fun W' => W'.cell? ⟨w.heap.size, 0, none⟩ = some (.int .i64 x.frm) ∧ W'.cell? ⟨w.heap.size, 1, none⟩ = some (.int .i64 x.slot) ∧ W'.cell? ⟨w.heap.size, 2, none⟩ = some (.int .u64 x.head.hi) ∧ W'.cell? ⟨w.heap.size, 3, none⟩ = some (.int .u64 x.head.lo))
        (first | exact ⟨c5, c6, c7, c8⟩ | exact blk4 re | exact blk4 rd | exact blk4 rc | exact blk4 rb | exact blk4 ra) ((first
        | (go_at_call 14; (with_reducible refine (hof'.out _ hB8.drew).mono ?_); rintro e wa ⟨u, rfl, hqa, hba⟩; obtain ⟨Aa, ka, rfl, hRa⟩ := hqa.rd encVote_len; have hBa := below_call hB8.drew hB8.size hba; have hRma := (hR8.below ((Below.refl w8.heap.size w8).drew)).below hba; have ra := bl_own hba r8)
        | (go_at_call 28; (with_reducible refine (hw1'.out _ _ _ hRa).mono ?_); rintro e wb ⟨u, rfl, hqb, hbb⟩; obtain ⟨Ab, kb, rfl, hRb⟩ := hqb.rd encVote_len; have hBb := below_call hBa hBa.size hbb; have hRmb := hRma.below hbb; have rb := bl_own hbb ra)
        | (go_at_call 14; (with_reducible refine (hof2'.out _ _ _ hRmb).mono ?_); rintro e wc ⟨u, rfl, hqc, hbc⟩; obtain ⟨Ac, kc, rfl, hRc⟩ := hqc.rd encVote_len; have hBc := below_call hBb hBb.size hbc; have hRmc := hRmb.below hbc; have hRbc := hRb.below hbc; have rc := bl_own hbc rb)
        | (go_at_call 28; (with_reducible refine (hw2'.out _ _ _ hRc).mono ?_); rintro e wd ⟨u, rfl, hqd, hbd⟩; obtain ⟨Ad, kd, rfl, hRd⟩ := hqd.rd encVote_len; have hBd := below_call hBc hBc.size hbd; have hRmd := hRmc.below hbd; have hRbd := hRbc.below hbd; have rd := bl_own hbd rc)
        | (go_at_call 23; (with_reducible refine (hs1'.out _ _ _ _ _ hRbd hRd).mono ?_); rintro e we ⟨rfl, hbe⟩; have hBe := below_call hBd hBd.size hbe; have hRme := hRmd.below hbe; have re := bl_own hbe rd)))
      clear c5 c6 c7 c8
      go_wp2_with fail
      obtain ⟨c5, c6, c7, c8⟩ := blk4 re
      go_region_held3 (fun W' => W'.cell? ⟨w.heap.size, 0, none⟩ = some (.int .i64 x.frm) ∧ W'.cell? ⟨w.heap.size, 1, none⟩ = some (.int .i64 x.slot) ∧ W'.cell? ⟨w.heap.size, 2, none⟩ = some (.int .u64 x.head.hi) ∧ W'.cell? ⟨w.heap.size, 3, none⟩ = some (.int .u64 x.head.lo))
        (first | exact ⟨c5, c6, c7, c8⟩ | exact blk4 se | exact blk4 sd | exact blk4 sc | exact blk4 sb | exact blk4 sa) ((first
        | (go_at_call 25; (with_reducible refine (hla'.out _ hBe.drew).mono ?_); rintro e ya ⟨u, rfl, hta, hca⟩; obtain ⟨Ba, ja, rfl, hSa⟩ := hta.rd encVote_len; have hCa := below_call hBe.drew hBe.size hca; have hSma := (hRme.below ((Below.refl we.heap.size we).drew)).below hca; have sa := bl_own hca re)
        | (go_at_call 28; (with_reducible refine (hw3'.out _ _ _ hSa).mono ?_); rintro e yb ⟨u, rfl, htb, hcb⟩; obtain ⟨Bb, jb, rfl, hSb⟩ := htb.rd encVote_len; have hCb := below_call hCa hCa.size hcb; have hSmb := hSma.below hcb; have sb := bl_own hcb sa)
        | (go_at_call 25; (with_reducible refine (hla2'.out _ _ _ hSmb).mono ?_); rintro e yc ⟨u, rfl, htc, hcc⟩; obtain ⟨Bc, jc, rfl, hSc⟩ := htc.rd encVote_len; have hCc := below_call hCb hCb.size hcc; have hSmc := hSmb.below hcc; have hSbc := hSb.below hcc; have sc := bl_own hcc sb)
        | (go_at_call 28; (with_reducible refine (hw4'.out _ _ _ hSc).mono ?_); rintro e yd ⟨u, rfl, htd, hcd⟩; obtain ⟨Bd, jd, rfl, hSd⟩ := htd.rd encVote_len; have hCd := below_call hCc hCc.size hcd; have hSmd := hSmc.below hcd; have hSbd := hSbc.below hcd; have sd := bl_own hcd sc)
        | (go_at_call 23; (with_reducible refine (hs2'.out _ _ _ _ _ hSbd hSd).mono ?_); rintro e ye ⟨rfl, hce⟩; have hCe := below_call hCd hCd.size hce; have hSme := hSmd.below hce; have se := bl_own hce sd)))
      clear c5 c6 c7 c8
      go_wp2_with (first
        | (go_at_call 14; (with_reducible refine (hof2'.out _ _ _ hSme).mono ?_); rintro e yf ⟨u, rfl, htf, hcf⟩; obtain ⟨Bf, jf, rfl, _⟩ := htf.rd encVote_len; have hCf := below_call hCe hCe.size hcf)
        | (go_at_call 14; (with_reducible refine (hof'.out _ hCf).mono ?_); rintro e yg ⟨u, rfl, htg, hcg⟩; obtain ⟨Bg, jg, rfl, _⟩ := htg.rd encVote_len; have hCg := below_call hCf hCf.size hcg))
      go_ret
      exact ⟨rfl, hCg⟩
  · have hcase : 40 < l.length := by omega
    clear hsm
    go_enter Try.func7, Try.ntmps7
    go_wp2_with (go_at_call 19; refine (haw _).mono ?_; clear haw; rintro e w3 ⟨rfl, hb3⟩; have hB3 := below_call hB0 hB0.size hb3)
    go_ret
    exact ⟨rfl, hB3⟩
theorem more7_walk (A : Option Addr) (l : List Vote) (k : Nat) (x : Vote) (n : Int) (w : World) (_ : l.length ≤ k) (_ : k ≤ maxLen) (hr : Rd 4 encVote w A l) (_ : ∀ b ∈ l, b.Ok) (hN : A = none → k = 0) (_ : x.Ok) (_ : I64 n) :
    Calls Try.prog 7 #[.slice A l.length k, votev x, .int .i64 n] w fun e w' => e = .returned (.bool true) ∧ Below w.heap.size w w' :=
  more7_any l x n A k w hr hN
end Go.Proofs.Ytkccakaaklemdaa
