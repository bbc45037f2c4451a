/- FfgOrder, walked. -/
import Derived.Test.YtdocgemfedohdaaGD
import Derived.Test.YtdocgemfedohdaaGM
import Derived.Test.YtdocgemfedohdaaGO
import Derived.Deep.CutRange
import Derived.Deep.CutBlock
namespace Go.Proofs.Ytdocgemfedohdaa
open Go.RowKit
theorem same_drop (v : List Lnk) (n : Nat) : ∀ x, x ∈ v ↔ x ∈ v.drop n ++ v := fun x => by
  rw [List.mem_append]
  exact ⟨.inr, fun h => h.elim List.mem_of_mem_drop id⟩
set_option maxRecDepth 100000 in
set_option maxHeartbeats 8000000 in
theorem order11_any (c : Cfg) (l : List Blk) (v : List Lnk) (at' : Int) (A A2 A3 : Option Addr) (k k2 k3 : Nat) (w : World) (hr : Rd 1 encI w A c.W) (hr2 : Rd 5 encBlk w A2 l) (hok : ∀ b ∈ l, b.Ok) (hr3 : Rd 7 encLnk w A3 v) (hk3 : v.length ≤ k3) (hk3m : k3 ≤ maxLen) (hN : A3 = none → k3 = 0) :
    Calls Try.prog 6 #[cfgv A k c, .slice A2 l.length k2, .slice A3 v.length k3, .int .i64 at'] w fun e w' => e = .returned (.bool true) ∧ Below w.heap.size w w' := by
  have hm := hr.1
  have hm2 := hr2.1
  have hm3 := hr3.1
  have haw := fun V => awake11_any V
  have hfew := fun V => few11_any c l.length v.length A A2 A3 k k2 k3 V hm hm2 hm3
  obtain ⟨W, hW⟩ : ∃ W, w.alloc (.cells #[.slice A c.W.length k, .int .u64 c.seed, .int .i64 c.epoch, .int .i64 c.num, .int .i64 c.den] 25) = W := ⟨_, rfl⟩
  have hB : Below w.heap.size w W := by subst hW; exact (Below.refl _ w).alloc (Nat.le_refl _) _
  have b0 : W.heap[w.heap.size]? = some (.cells #[.slice A c.W.length k, .int .u64 c.seed, .int .i64 c.epoch, .int .i64 c.num, .int .i64 c.den] 25 (0, 0)) := by subst hW; exact ha_at rfl
  by_cases hsm : c.W.length ≤ 40 ∧ l.length ≤ 20 ∧ v.length ≤ 40
  · rw [decide_eq_true hsm] at hfew
    obtain ⟨_, hs2, hs3⟩ := hsm
    by_cases hat : v.length ≤ 20 ∧ 0 ≤ at' ∧ at' ≤ v.length
    · obtain ⟨ht1, ht2, ht3⟩ := hat
      obtain ⟨n, rfl⟩ : ∃ n : Nat, at' = n := ⟨at'.toNat, by omega⟩
      have ht4 : n ≤ v.length := by omega
      have hun := Try.underlying27
      have hj1 := fun V (hV : Below w.heap.size w V) => fjust_any c l v A A2 A3 k k2 k3 V (hr.below hV) (hr2.below hV) (by omega) (hr3.below hV) (by omega)
      have hf1 := fun V (hV : Below w.heap.size w V) => ffinal_any c l v A A2 A3 k k2 k3 V (hr.below hV) (hr2.below hV) (by omega) (hr3.below hV) (by omega)
      have hdl : (v.drop n).length = v.length - n := by simp
      have hj2 := fun A5 k5 V (hV : Below w.heap.size w V) h5 => fjust_any c l (v.drop n ++ v) A A2 A5 k k2 k5 V (hr.below hV) (hr2.below hV) (by omega) h5 (by rw [List.length_append]; omega)
      have hf2 := fun A5 k5 V (hV : Below w.heap.size w V) h5 => ffinal_any c l (v.drop n ++ v) A A2 A5 k k2 k5 V (hr.below hV) (hr2.below hV) (by omega) h5 (by rw [List.length_append]; omega)
      obtain ⟨wl, hwl⟩ : ∃ wl, v.drop n ++ v = wl := ⟨_, rfl⟩
      have hsm2 := same_drop v n
      rw [hwl] at hsm2
      simp only [hwl] at hj2 hf2
      rw [← justL_same hsm2] at hj2
      rw [← finalL_same hsm2] at hf2
      clear hsm2
      obtain ⟨gj, hgj⟩ : ∃ g, justL c l v = g := ⟨_, rfl⟩
      obtain ⟨gf, hgf⟩ : ∃ g, finalL c l v = g := ⟨_, rfl⟩
      rw [hgj] at hj1 hj2
      rw [hgf] at hf1 hf2
      clear hgj hgf
      have hsame := fun (g : List Chk) B1 B2 n1 n2 V h1 h2 => show Calls Try.prog 15 #[.slice B1 g.length n1, .slice B2 g.length n2] V fun e w' => e = .returned (.bool true) ∧ Below V.heap.size V w' by have := sameC_any g g B1 B2 n1 n2 V h1 h2; rwa [decide_eq_true rfl] at this
      unfold cfgv at *
      have i1 : (0 : Int) ≤ (n : Int) := by omega
      have i2 : (n : Int) ≤ (v.length : Int) := by omega
      have i3 : (v.length : Int) ≤ (k3 : Int) := by omega
      have i4 : (n : Int) ≤ (k3 : Int) := by omega
      have i5 : (v.length : Int) ≤ 20 := by omega
      have hkm : k3 ≤ 9223372036854775807 := by unfold maxLen at hk3m; omega
      by_cases hv0 : v = []
      · subst hv0
        obtain rfl : n = 0 := by simpa using ht4
        have hwl' := Lib.hid (show ([] : List Lnk) ++ [] = wl from hwl)
        clear hwl
        simp only [List.length_nil] at hfew hj1 hf1
        by_cases hk0 : k3 = 0
        · cases A3 with
          | none =>
            subst hk0
            go_enter Try.func6, Try.ntmps6
            go_wp2_with (first
              | (go_at_call 11; (with_reducible refine (haw _).mono ?_); clear haw; rintro e w1 ⟨rfl, hb1⟩; have hB1 := below_call hB hB.size hb1; have b1 := bl_own hb1 b0; obtain ⟨c10, c11, c12, c13, c14⟩ := blk5 b1)
              | (go_at_call 12; (with_reducible refine (hfew _).mono ?_); clear hfew; rintro e w2 ⟨rfl, hb2⟩; have hB2 := below_call hB1 hB1.size hb2; have b2 := bl_own hb2 b1; obtain ⟨c20, c21, c22, c23, c24⟩ := blk5 b2)
              | (at_builtin; refine wp_append_all rfl rfl hun infoL rfl (by decide) encLnk_len encLnk_one rfl (Own.nil w2 w2.heap.size _ _ _) (A := _) (c := _) (ys := ([] : List Lnk)) (by rfl) (fun e => by first | exact hN e | rfl | cases e) (Rd_nil _ _ _ _) (by first | omega | (simp; done) | (simp; omega)) (by unfold maxLen; first | omega | (simp; done) | (simp; omega)) (Nat.le_refl _) ?_; intro v3 w3 ho3 hg3 _; rw [List.nil_append] at ho3; have hb3 := below_step (Below.refl w2.heap.size w2) (Nat.le_refl _) hg3 (fun _ e => by cases e); have hB3 := below_call hB2 hB2.size hb3)
              | (at_builtin; refine wp_append_all rfl rfl hun infoL rfl (by decide) encLnk_len encLnk_one rfl ho3 (A := _) (c := _) (ys := ([] : List Lnk)) rfl (fun e => by first | exact hN e | rfl | cases e) (Rd_nil _ _ _ _) (by first | omega | (simp; done) | (simp; omega)) (by unfold maxLen; first | omega | (simp; done) | (simp; omega)) hb3.size ?_; intro v5 w5 ho5 hg5 _; have hb5 := below_step hb3 hb3.size hg5 (fun k e => (ho3.base k e).1); have hB5 := below_call hB2 hB2.size hb5; have b5 := bl_own hb5 b2; rw [hwl'.out] at ho5; obtain ⟨A5, k5, rfl, hR5⟩ := ho5.rd encLnk_len; have hj2 := hj2 A5 k5; have hf2 := hf2 A5 k5))
            clear c20 c21 c22 c23 c24
            obtain ⟨c50, c51, c52, c53, c54⟩ := blk5 b5
            go_cut [12] from 47 to 55 (fun vq wx => vq = .bool true ∧ Below w5.heap.size w5 wx)
            case first =>
              have kD : Below w5.heap.size w5 w5.drew := (Below.refl _ w5).drew
              go_region_held3 (fun W' => (W'.cell? ⟨w.heap.size, 0, none⟩ = some (.slice A c.W.length k) ∧ W'.cell? ⟨w.heap.size, 1, none⟩ = some (.int .u64 c.seed) ∧ W'.cell? ⟨w.heap.size, 2, none⟩ = some (.int .i64 c.epoch) ∧ W'.cell? ⟨w.heap.size, 3, none⟩ = some (.int .i64 c.num) ∧ W'.cell? ⟨w.heap.size, 4, none⟩ = some (.int .i64 c.den))) (first | exact blk5 b5 | exact blk5 (bl_own kD b5) | exact blk5 (bl_own kA b5) | exact blk5 (bl_own kB b5) | exact blk5 (bl_own kAB b5) | exact blk5 (bl_own kBA b5) | exact blk5 (bl_own kS b5) | exact blk5 (bl_own kT b5))
                ((first
                  | (go_at_call 16; (with_reducible refine (hj1 _ (below_call hB5 hB5.size kD)).mono ?_); rintro e wa ⟨uwa, rfl, howa, hbwa⟩; have kA := below_call kD kD.size hbwa; obtain ⟨Awa, kwa, rfl, hRwa⟩ := howa.rd encChk_len)
                  | (go_at_call 16; (with_reducible refine (hj2 _ (below_call hB5 hB5.size kA) (hR5.below kA)).mono ?_); rintro e wb ⟨uwb, rfl, howb, hbwb⟩; have kAB := below_call kA kA.size hbwb; obtain ⟨Awb, kwb, rfl, hRwb⟩ := howb.rd encChk_len)
                  | (go_at_call 16; (with_reducible refine (hj2 _ (below_call hB5 hB5.size kD) (hR5.below kD)).mono ?_); rintro e wc ⟨uwc, rfl, howc, hbwc⟩; have kB := below_call kD kD.size hbwc; obtain ⟨Awc, kwc, rfl, hRwc⟩ := howc.rd encChk_len)
                  | (go_at_call 16; (with_reducible refine (hj1 _ (below_call hB5 hB5.size kB)).mono ?_); rintro e wd ⟨uwd, rfl, howd, hbwd⟩; have kBA := below_call kB kB.size hbwd; obtain ⟨Awd, kwd, rfl, hRwd⟩ := howd.rd encChk_len)
                  | (go_at_call 15; (with_reducible refine (hsame gj Awa Awb kwa kwb wb (hRwa.below hbwb) hRwb).mono ?_); rintro e ws ⟨rfl, hbs⟩; have kS := below_call kAB kAB.size hbs)
                  | (go_at_call 15; (with_reducible refine (hsame gj Awd Awc kwd kwc wd hRwd (hRwc.below hbwd)).mono ?_); rintro e wt ⟨rfl, hbt⟩; have kT := below_call kBA kBA.size hbt)))
              all_goals go_wp2
              all_goals go_meet
              all_goals first | exact ⟨rfl, kS⟩ | exact ⟨rfl, kT⟩
            case rest =>
              obtain ⟨rfl, hbx⟩ := hcut
              rename World => w6
              have hB6 := below_call hB5 hB5.size hbx
              have b6 := bl_own hbx b5
              have hR5 := hR5.below hbx
              clear hbx
              obtain ⟨c60, c61, c62, c63, c64⟩ := blk5 b6
              go_wp2_with fail
              go_cut [13] from 56 to 64 (fun vq wx => vq = .bool true ∧ Below w6.heap.size w6 wx)
              case first =>
                have kD : Below w6.heap.size w6 w6.drew := (Below.refl _ w6).drew
                go_region_held3 (fun W' => (W'.cell? ⟨w.heap.size, 0, none⟩ = some (.slice A c.W.length k) ∧ W'.cell? ⟨w.heap.size, 1, none⟩ = some (.int .u64 c.seed) ∧ W'.cell? ⟨w.heap.size, 2, none⟩ = some (.int .i64 c.epoch) ∧ W'.cell? ⟨w.heap.size, 3, none⟩ = some (.int .i64 c.num) ∧ W'.cell? ⟨w.heap.size, 4, none⟩ = some (.int .i64 c.den))) (first | exact blk5 b6 | exact blk5 (bl_own kD b6) | exact blk5 (bl_own kA b6) | exact blk5 (bl_own kB b6) | exact blk5 (bl_own kAB b6) | exact blk5 (bl_own kBA b6) | exact blk5 (bl_own kS b6) | exact blk5 (bl_own kT b6))
                  ((first
                    | (go_at_call 18; (with_reducible refine (hf1 _ (below_call hB6 hB6.size kD)).mono ?_); rintro e wa ⟨uwa, rfl, howa, hbwa⟩; have kA := below_call kD kD.size hbwa; obtain ⟨Awa, kwa, rfl, hRwa⟩ := howa.rd encChk_len)
                    | (go_at_call 18; (with_reducible refine (hf2 _ (below_call hB6 hB6.size kA) (hR5.below kA)).mono ?_); rintro e wb ⟨uwb, rfl, howb, hbwb⟩; have kAB := below_call kA kA.size hbwb; obtain ⟨Awb, kwb, rfl, hRwb⟩ := howb.rd encChk_len)
                    | (go_at_call 18; (with_reducible refine (hf2 _ (below_call hB6 hB6.size kD) (hR5.below kD)).mono ?_); rintro e wc ⟨uwc, rfl, howc, hbwc⟩; have kB := below_call kD kD.size hbwc; obtain ⟨Awc, kwc, rfl, hRwc⟩ := howc.rd encChk_len)
                    | (go_at_call 18; (with_reducible refine (hf1 _ (below_call hB6 hB6.size kB)).mono ?_); rintro e wd ⟨uwd, rfl, howd, hbwd⟩; have kBA := below_call kB kB.size hbwd; obtain ⟨Awd, kwd, rfl, hRwd⟩ := howd.rd encChk_len)
                    | (go_at_call 15; (with_reducible refine (hsame gf Awa Awb kwa kwb wb (hRwa.below hbwb) hRwb).mono ?_); rintro e ws ⟨rfl, hbs⟩; have kS := below_call kAB kAB.size hbs)
                    | (go_at_call 15; (with_reducible refine (hsame gf Awd Awc kwd kwc wd hRwd (hRwc.below hbwd)).mono ?_); rintro e wt ⟨rfl, hbt⟩; have kT := below_call kBA kBA.size hbt)))
                all_goals go_wp2
                all_goals go_meet
                all_goals first | exact ⟨rfl, kS⟩ | exact ⟨rfl, kT⟩
              case rest =>
                obtain ⟨rfl, hbx⟩ := hcut
                rename World => w7
                have hB7 := below_call hB6 hB6.size hbx
                go_wp2_with fail
                go_ret
                exact ⟨rfl, hB7⟩
          | some a =>
            subst hk0
            go_enter Try.func6, Try.ntmps6
            go_wp2_with (first
              | (go_at_call 11; (with_reducible refine (haw _).mono ?_); clear haw; rintro e w1 ⟨rfl, hb1⟩; have hB1 := below_call hB hB.size hb1; have b1 := bl_own hb1 b0; obtain ⟨c10, c11, c12, c13, c14⟩ := blk5 b1)
              | (go_at_call 12; (with_reducible refine (hfew _).mono ?_); clear hfew; rintro e w2 ⟨rfl, hb2⟩; have hB2 := below_call hB1 hB1.size hb2; have b2 := bl_own hb2 b1; obtain ⟨c20, c21, c22, c23, c24⟩ := blk5 b2)
              | (at_builtin; refine wp_append_all rfl rfl hun infoL rfl (by decide) encLnk_len encLnk_one rfl (Own.nil w2 w2.heap.size _ _ _) (A := _) (c := _) (ys := ([] : List Lnk)) (by rfl) (fun e => by first | exact hN e | rfl | cases e) (Rd_nil _ _ _ _) (by first | omega | (simp; done) | (simp; omega)) (by unfold maxLen; first | omega | (simp; done) | (simp; omega)) (Nat.le_refl _) ?_; intro v3 w3 ho3 hg3 _; rw [List.nil_append] at ho3; have hb3 := below_step (Below.refl w2.heap.size w2) (Nat.le_refl _) hg3 (fun _ e => by cases e); have hB3 := below_call hB2 hB2.size hb3)
              | (at_builtin; refine wp_append_all rfl rfl hun infoL rfl (by decide) encLnk_len encLnk_one rfl ho3 (A := _) (c := _) (ys := ([] : List Lnk)) rfl (fun e => by first | exact hN e | rfl | cases e) (Rd_nil _ _ _ _) (by first | omega | (simp; done) | (simp; omega)) (by unfold maxLen; first | omega | (simp; done) | (simp; omega)) hb3.size ?_; intro v5 w5 ho5 hg5 _; have hb5 := below_step hb3 hb3.size hg5 (fun k e => (ho3.base k e).1); have hB5 := below_call hB2 hB2.size hb5; have b5 := bl_own hb5 b2; rw [hwl'.out] at ho5; obtain ⟨A5, k5, rfl, hR5⟩ := ho5.rd encLnk_len; have hj2 := hj2 A5 k5; have hf2 := hf2 A5 k5))
            clear c20 c21 c22 c23 c24
            obtain ⟨c50, c51, c52, c53, c54⟩ := blk5 b5
            go_cut [12] from 47 to 55 (fun vq wx => vq = .bool true ∧ Below w5.heap.size w5 wx)
            case first =>
              have kD : Below w5.heap.size w5 w5.drew := (Below.refl _ w5).drew
              go_region_held3 (fun W' => (W'.cell? ⟨w.heap.size, 0, none⟩ = some (.slice A c.W.length k) ∧ W'.cell? ⟨w.heap.size, 1, none⟩ = some (.int .u64 c.seed) ∧ W'.cell? ⟨w.heap.size, 2, none⟩ = some (.int .i64 c.epoch) ∧ W'.cell? ⟨w.heap.size, 3, none⟩ = some (.int .i64 c.num) ∧ W'.cell? ⟨w.heap.size, 4, none⟩ = some (.int .i64 c.den))) (first | exact blk5 b5 | exact blk5 (bl_own kD b5) | exact blk5 (bl_own kA b5) | exact blk5 (bl_own kB b5) | exact blk5 (bl_own kAB b5) | exact blk5 (bl_own kBA b5) | exact blk5 (bl_own kS b5) | exact blk5 (bl_own kT b5))
                ((first
                  | (go_at_call 16; (with_reducible refine (hj1 _ (below_call hB5 hB5.size kD)).mono ?_); rintro e wa ⟨uwa, rfl, howa, hbwa⟩; have kA := below_call kD kD.size hbwa; obtain ⟨Awa, kwa, rfl, hRwa⟩ := howa.rd encChk_len)
                  | (go_at_call 16; (with_reducible refine (hj2 _ (below_call hB5 hB5.size kA) (hR5.below kA)).mono ?_); rintro e wb ⟨uwb, rfl, howb, hbwb⟩; have kAB := below_call kA kA.size hbwb; obtain ⟨Awb, kwb, rfl, hRwb⟩ := howb.rd encChk_len)
                  | (go_at_call 16; (with_reducible refine (hj2 _ (below_call hB5 hB5.size kD) (hR5.below kD)).mono ?_); rintro e wc ⟨uwc, rfl, howc, hbwc⟩; have kB := below_call kD kD.size hbwc; obtain ⟨Awc, kwc, rfl, hRwc⟩ := howc.rd encChk_len)
                  | (go_at_call 16; (with_reducible refine (hj1 _ (below_call hB5 hB5.size kB)).mono ?_); rintro e wd ⟨uwd, rfl, howd, hbwd⟩; have kBA := below_call kB kB.size hbwd; obtain ⟨Awd, kwd, rfl, hRwd⟩ := howd.rd encChk_len)
                  | (go_at_call 15; (with_reducible refine (hsame gj Awa Awb kwa kwb wb (hRwa.below hbwb) hRwb).mono ?_); rintro e ws ⟨rfl, hbs⟩; have kS := below_call kAB kAB.size hbs)
                  | (go_at_call 15; (with_reducible refine (hsame gj Awd Awc kwd kwc wd hRwd (hRwc.below hbwd)).mono ?_); rintro e wt ⟨rfl, hbt⟩; have kT := below_call kBA kBA.size hbt)))
              all_goals go_wp2
              all_goals go_meet
              all_goals first | exact ⟨rfl, kS⟩ | exact ⟨rfl, kT⟩
            case rest =>
              obtain ⟨rfl, hbx⟩ := hcut
              rename World => w6
              have hB6 := below_call hB5 hB5.size hbx
              have b6 := bl_own hbx b5
              have hR5 := hR5.below hbx
              clear hbx
              obtain ⟨c60, c61, c62, c63, c64⟩ := blk5 b6
              go_wp2_with fail
              go_cut [13] from 56 to 64 (fun vq wx => vq = .bool true ∧ Below w6.heap.size w6 wx)
              case first =>
                have kD : Below w6.heap.size w6 w6.drew := (Below.refl _ w6).drew
                go_region_held3 (fun W' => (W'.cell? ⟨w.heap.size, 0, none⟩ = some (.slice A c.W.length k) ∧ W'.cell? ⟨w.heap.size, 1, none⟩ = some (.int .u64 c.seed) ∧ W'.cell? ⟨w.heap.size, 2, none⟩ = some (.int .i64 c.epoch) ∧ W'.cell? ⟨w.heap.size, 3, none⟩ = some (.int .i64 c.num) ∧ W'.cell? ⟨w.heap.size, 4, none⟩ = some (.int .i64 c.den))) (first | exact blk5 b6 | exact blk5 (bl_own kD b6) | exact blk5 (bl_own kA b6) | exact blk5 (bl_own kB b6) | exact blk5 (bl_own kAB b6) | exact blk5 (bl_own kBA b6) | exact blk5 (bl_own kS b6) | exact blk5 (bl_own kT b6))
                  ((first
                    | (go_at_call 18; (with_reducible refine (hf1 _ (below_call hB6 hB6.size kD)).mono ?_); rintro e wa ⟨uwa, rfl, howa, hbwa⟩; have kA := below_call kD kD.size hbwa; obtain ⟨Awa, kwa, rfl, hRwa⟩ := howa.rd encChk_len)
                    | (go_at_call 18; (with_reducible refine (hf2 _ (below_call hB6 hB6.size kA) (hR5.below kA)).mono ?_); rintro e wb ⟨uwb, rfl, howb, hbwb⟩; have kAB := below_call kA kA.size hbwb; obtain ⟨Awb, kwb, rfl, hRwb⟩ := howb.rd encChk_len)
                    | (go_at_call 18; (with_reducible refine (hf2 _ (below_call hB6 hB6.size kD) (hR5.below kD)).mono ?_); rintro e wc ⟨uwc, rfl, howc, hbwc⟩; have kB := below_call kD kD.size hbwc; obtain ⟨Awc, kwc, rfl, hRwc⟩ := howc.rd encChk_len)
                    | (go_at_call 18; (with_reducible refine (hf1 _ (below_call hB6 hB6.size kB)).mono ?_); rintro e wd ⟨uwd, rfl, howd, hbwd⟩; have kBA := below_call kB kB.size hbwd; obtain ⟨Awd, kwd, rfl, hRwd⟩ := howd.rd encChk_len)
                    | (go_at_call 15; (with_reducible refine (hsame gf Awa Awb kwa kwb wb (hRwa.below hbwb) hRwb).mono ?_); rintro e ws ⟨rfl, hbs⟩; have kS := below_call kAB kAB.size hbs)
                    | (go_at_call 15; (with_reducible refine (hsame gf Awd Awc kwd kwc wd hRwd (hRwc.below hbwd)).mono ?_); rintro e wt ⟨rfl, hbt⟩; have kT := below_call kBA kBA.size hbt)))
                all_goals go_wp2
                all_goals go_meet
                all_goals first | exact ⟨rfl, kS⟩ | exact ⟨rfl, kT⟩
              case rest =>
                obtain ⟨rfl, hbx⟩ := hcut
                rename World => w7
                have hB7 := below_call hB6 hB6.size hbx
                go_wp2_with fail
                go_ret
                exact ⟨rfl, hB7⟩
        · cases A3 with
          | none => exact absurd (hN rfl) hk0
          | some a =>
            have hk0' : ¬ 0 = k3 := fun e => hk0 e.symm
            have hk1 : 0 < k3 := by omega
            go_enter Try.func6, Try.ntmps6
            go_wp2_with (first
              | (go_at_call 11; (with_reducible refine (haw _).mono ?_); clear haw; rintro e w1 ⟨rfl, hb1⟩; have hB1 := below_call hB hB.size hb1; have b1 := bl_own hb1 b0; obtain ⟨c10, c11, c12, c13, c14⟩ := blk5 b1)
              | (go_at_call 12; (with_reducible refine (hfew _).mono ?_); clear hfew; rintro e w2 ⟨rfl, hb2⟩; have hB2 := below_call hB1 hB1.size hb2; have b2 := bl_own hb2 b1; obtain ⟨c20, c21, c22, c23, c24⟩ := blk5 b2)
              | (at_builtin; refine wp_append_all rfl rfl hun infoL rfl (by decide) encLnk_len encLnk_one rfl (Own.nil w2 w2.heap.size _ _ _) (A := _) (c := _) (ys := ([] : List Lnk)) (by rfl) (fun e => by first | exact hN e | rfl | cases e) (Rd_nil _ _ _ _) (by first | omega | (simp; done) | (simp; omega)) (by unfold maxLen; first | omega | (simp; done) | (simp; omega)) (Nat.le_refl _) ?_; intro v3 w3 ho3 hg3 _; rw [List.nil_append] at ho3; have hb3 := below_step (Below.refl w2.heap.size w2) (Nat.le_refl _) hg3 (fun _ e => by cases e); have hB3 := below_call hB2 hB2.size hb3)
              | (at_builtin; refine wp_append_all rfl rfl hun infoL rfl (by decide) encLnk_len encLnk_one rfl ho3 (A := _) (c := _) (ys := ([] : List Lnk)) rfl (fun e => by first | exact hN e | rfl | cases e) (Rd_nil _ _ _ _) (by first | omega | (simp; done) | (simp; omega)) (by unfold maxLen; first | omega | (simp; done) | (simp; omega)) hb3.size ?_; intro v5 w5 ho5 hg5 _; have hb5 := below_step hb3 hb3.size hg5 (fun k e => (ho3.base k e).1); have hB5 := below_call hB2 hB2.size hb5; have b5 := bl_own hb5 b2; rw [hwl'.out] at ho5; obtain ⟨A5, k5, rfl, hR5⟩ := ho5.rd encLnk_len; have hj2 := hj2 A5 k5; have hf2 := hf2 A5 k5))
            clear c20 c21 c22 c23 c24
            obtain ⟨c50, c51, c52, c53, c54⟩ := blk5 b5
            go_cut [12] from 47 to 55 (fun vq wx => vq = .bool true ∧ Below w5.heap.size w5 wx)
            case first =>
              have kD : Below w5.heap.size w5 w5.drew := (Below.refl _ w5).drew
              go_region_held3 (fun W' => (W'.cell? ⟨w.heap.size, 0, none⟩ = some (.slice A c.W.length k) ∧ W'.cell? ⟨w.heap.size, 1, none⟩ = some (.int .u64 c.seed) ∧ W'.cell? ⟨w.heap.size, 2, none⟩ = some (.int .i64 c.epoch) ∧ W'.cell? ⟨w.heap.size, 3, none⟩ = some (.int .i64 c.num) ∧ W'.cell? ⟨w.heap.size, 4, none⟩ = some (.int .i64 c.den))) (first | exact blk5 b5 | exact blk5 (bl_own kD b5) | exact blk5 (bl_own kA b5) | exact blk5 (bl_own kB b5) | exact blk5 (bl_own kAB b5) | exact blk5 (bl_own kBA b5) | exact blk5 (bl_own kS b5) | exact blk5 (bl_own kT b5))
                ((first
                  | (go_at_call 16; (with_reducible refine (hj1 _ (below_call hB5 hB5.size kD)).mono ?_); rintro e wa ⟨uwa, rfl, howa, hbwa⟩; have kA := below_call kD kD.size hbwa; obtain ⟨Awa, kwa, rfl, hRwa⟩ := howa.rd encChk_len)
                  | (go_at_call 16; (with_reducible refine (hj2 _ (below_call hB5 hB5.size kA) (hR5.below kA)).mono ?_); rintro e wb ⟨uwb, rfl, howb, hbwb⟩; have kAB := below_call kA kA.size hbwb; obtain ⟨Awb, kwb, rfl, hRwb⟩ := howb.rd encChk_len)
                  | (go_at_call 16; (with_reducible refine (hj2 _ (below_call hB5 hB5.size kD) (hR5.below kD)).mono ?_); rintro e wc ⟨uwc, rfl, howc, hbwc⟩; have kB := below_call kD kD.size hbwc; obtain ⟨Awc, kwc, rfl, hRwc⟩ := howc.rd encChk_len)
                  | (go_at_call 16; (with_reducible refine (hj1 _ (below_call hB5 hB5.size kB)).mono ?_); rintro e wd ⟨uwd, rfl, howd, hbwd⟩; have kBA := below_call kB kB.size hbwd; obtain ⟨Awd, kwd, rfl, hRwd⟩ := howd.rd encChk_len)
                  | (go_at_call 15; (with_reducible refine (hsame gj Awa Awb kwa kwb wb (hRwa.below hbwb) hRwb).mono ?_); rintro e ws ⟨rfl, hbs⟩; have kS := below_call kAB kAB.size hbs)
                  | (go_at_call 15; (with_reducible refine (hsame gj Awd Awc kwd kwc wd hRwd (hRwc.below hbwd)).mono ?_); rintro e wt ⟨rfl, hbt⟩; have kT := below_call kBA kBA.size hbt)))
              all_goals go_wp2
              all_goals go_meet
              all_goals first | exact ⟨rfl, kS⟩ | exact ⟨rfl, kT⟩
            case rest =>
              obtain ⟨rfl, hbx⟩ := hcut
              rename World => w6
              have hB6 := below_call hB5 hB5.size hbx
              have b6 := bl_own hbx b5
              have hR5 := hR5.below hbx
              clear hbx
              obtain ⟨c60, c61, c62, c63, c64⟩ := blk5 b6
              go_wp2_with fail
              go_cut [13] from 56 to 64 (fun vq wx => vq = .bool true ∧ Below w6.heap.size w6 wx)
              case first =>
                have kD : Below w6.heap.size w6 w6.drew := (Below.refl _ w6).drew
                go_region_held3 (fun W' => (W'.cell? ⟨w.heap.size, 0, none⟩ = some (.slice A c.W.length k) ∧ W'.cell? ⟨w.heap.size, 1, none⟩ = some (.int .u64 c.seed) ∧ W'.cell? ⟨w.heap.size, 2, none⟩ = some (.int .i64 c.epoch) ∧ W'.cell? ⟨w.heap.size, 3, none⟩ = some (.int .i64 c.num) ∧ W'.cell? ⟨w.heap.size, 4, none⟩ = some (.int .i64 c.den))) (first | exact blk5 b6 | exact blk5 (bl_own kD b6) | exact blk5 (bl_own kA b6) | exact blk5 (bl_own kB b6) | exact blk5 (bl_own kAB b6) | exact blk5 (bl_own kBA b6) | exact blk5 (bl_own kS b6) | exact blk5 (bl_own kT b6))
                  ((first
                    | (go_at_call 18; (with_reducible refine (hf1 _ (below_call hB6 hB6.size kD)).mono ?_); rintro e wa ⟨uwa, rfl, howa, hbwa⟩; have kA := below_call kD kD.size hbwa; obtain ⟨Awa, kwa, rfl, hRwa⟩ := howa.rd encChk_len)
                    | (go_at_call 18; (with_reducible refine (hf2 _ (below_call hB6 hB6.size kA) (hR5.below kA)).mono ?_); rintro e wb ⟨uwb, rfl, howb, hbwb⟩; have kAB := below_call kA kA.size hbwb; obtain ⟨Awb, kwb, rfl, hRwb⟩ := howb.rd encChk_len)
                    | (go_at_call 18; (with_reducible refine (hf2 _ (below_call hB6 hB6.size kD) (hR5.below kD)).mono ?_); rintro e wc ⟨uwc, rfl, howc, hbwc⟩; have kB := below_call kD kD.size hbwc; obtain ⟨Awc, kwc, rfl, hRwc⟩ := howc.rd encChk_len)
                    | (go_at_call 18; (with_reducible refine (hf1 _ (below_call hB6 hB6.size kB)).mono ?_); rintro e wd ⟨uwd, rfl, howd, hbwd⟩; have kBA := below_call kB kB.size hbwd; obtain ⟨Awd, kwd, rfl, hRwd⟩ := howd.rd encChk_len)
                    | (go_at_call 15; (with_reducible refine (hsame gf Awa Awb kwa kwb wb (hRwa.below hbwb) hRwb).mono ?_); rintro e ws ⟨rfl, hbs⟩; have kS := below_call kAB kAB.size hbs)
                    | (go_at_call 15; (with_reducible refine (hsame gf Awd Awc kwd kwc wd hRwd (hRwc.below hbwd)).mono ?_); rintro e wt ⟨rfl, hbt⟩; have kT := below_call kBA kBA.size hbt)))
                all_goals go_wp2
                all_goals go_meet
                all_goals first | exact ⟨rfl, kS⟩ | exact ⟨rfl, kT⟩
              case rest =>
                obtain ⟨rfl, hbx⟩ := hcut
                rename World => w7
                have hB7 := below_call hB6 hB6.size hbx
                go_wp2_with fail
                go_ret
                exact ⟨rfl, hB7⟩
      · obtain ⟨b, o, rfl, hbo, _⟩ := hr3.atL (i := 0) (List.length_pos_iff.2 hv0)
        clear hN
        have hRr := fun V (hV : Below w.heap.size w V) => (hr3.below hV).drop n
        obtain ⟨rest, hrest⟩ : ∃ rest, v.drop n = rest := ⟨_, rfl⟩
        rw [hrest] at hdl
        simp only [hrest] at hRr
        rw [hrest] at hwl
        have hwl' := Lib.hid hwl
        clear hwl
        have hdl' := Lib.hid hdl
        have hrr : rest.length ≤ 20 := by omega
        clear hrest hdl
        by_cases hk : n = k3
        · have hr0 : rest = [] := List.eq_nil_of_length_eq_zero (by have := hdl'.out; omega)
          subst hk
          go_enter Try.func6, Try.ntmps6
          go_wp2_with (first
            | (go_at_call 11; (with_reducible refine (haw _).mono ?_); clear haw; rintro e w1 ⟨rfl, hb1⟩; have hB1 := below_call hB hB.size hb1; have b1 := bl_own hb1 b0; obtain ⟨c10, c11, c12, c13, c14⟩ := blk5 b1)
            | (go_at_call 12; (with_reducible refine (hfew _).mono ?_); clear hfew; rintro e w2 ⟨rfl, hb2⟩; have hB2 := below_call hB1 hB1.size hb2; have b2 := bl_own hb2 b1; obtain ⟨c20, c21, c22, c23, c24⟩ := blk5 b2)
            | (at_builtin; refine wp_append_all rfl rfl hun infoL rfl (by decide) encLnk_len encLnk_one rfl (Own.nil w2 w2.heap.size _ _ _) (A := (some ⟨b, o, none⟩)) (c := 0) (ys := rest) (by rw [hr0]; rfl) (fun e => by first | exact hN e | rfl | cases e) (by rw [hr0]; exact Rd_nil _ _ _ _) (by first | omega | (simp; done) | (simp; omega)) (by unfold maxLen; first | omega | (simp; done) | (simp; omega)) (Nat.le_refl _) ?_; intro v3 w3 ho3 hg3 _; rw [List.nil_append] at ho3; have hb3 := below_step (Below.refl w2.heap.size w2) (Nat.le_refl _) hg3 (fun _ e => by cases e); have hB3 := below_call hB2 hB2.size hb3)
            | (at_builtin; refine wp_append_all rfl rfl hun infoL rfl (by decide) encLnk_len encLnk_one rfl ho3 (A := (some ⟨b, o, none⟩)) (c := _) (ys := v) rfl (fun e => by first | exact hN e | rfl | cases e) (hr3.below hB3) (by first | omega | (simp; done) | (simp; omega)) (by unfold maxLen; first | omega | (simp; done) | (simp; omega)) hb3.size ?_; intro v5 w5 ho5 hg5 _; have hb5 := below_step hb3 hb3.size hg5 (fun k e => (ho3.base k e).1); have hB5 := below_call hB2 hB2.size hb5; have b5 := bl_own hb5 b2; rw [hwl'.out] at ho5; obtain ⟨A5, k5, rfl, hR5⟩ := ho5.rd encLnk_len; have hj2 := hj2 A5 k5; have hf2 := hf2 A5 k5))
          clear c20 c21 c22 c23 c24
          obtain ⟨c50, c51, c52, c53, c54⟩ := blk5 b5
          go_cut [12] from 47 to 55 (fun vq wx => vq = .bool true ∧ Below w5.heap.size w5 wx)
          case first =>
            have kD : Below w5.heap.size w5 w5.drew := (Below.refl _ w5).drew
            go_region_held3 (fun W' => (W'.cell? ⟨w.heap.size, 0, none⟩ = some (.slice A c.W.length k) ∧ W'.cell? ⟨w.heap.size, 1, none⟩ = some (.int .u64 c.seed) ∧ W'.cell? ⟨w.heap.size, 2, none⟩ = some (.int .i64 c.epoch) ∧ W'.cell? ⟨w.heap.size, 3, none⟩ = some (.int .i64 c.num) ∧ W'.cell? ⟨w.heap.size, 4, none⟩ = some (.int .i64 c.den))) (first | exact blk5 b5 | exact blk5 (bl_own kD b5) | exact blk5 (bl_own kA b5) | exact blk5 (bl_own kB b5) | exact blk5 (bl_own kAB b5) | exact blk5 (bl_own kBA b5) | exact blk5 (bl_own kS b5) | exact blk5 (bl_own kT b5))
              ((first
                | (go_at_call 16; (with_reducible refine (hj1 _ (below_call hB5 hB5.size kD)).mono ?_); rintro e wa ⟨uwa, rfl, howa, hbwa⟩; have kA := below_call kD kD.size hbwa; obtain ⟨Awa, kwa, rfl, hRwa⟩ := howa.rd encChk_len)
                | (go_at_call 16; (with_reducible refine (hj2 _ (below_call hB5 hB5.size kA) (hR5.below kA)).mono ?_); rintro e wb ⟨uwb, rfl, howb, hbwb⟩; have kAB := below_call kA kA.size hbwb; obtain ⟨Awb, kwb, rfl, hRwb⟩ := howb.rd encChk_len)
                | (go_at_call 16; (with_reducible refine (hj2 _ (below_call hB5 hB5.size kD) (hR5.below kD)).mono ?_); rintro e wc ⟨uwc, rfl, howc, hbwc⟩; have kB := below_call kD kD.size hbwc; obtain ⟨Awc, kwc, rfl, hRwc⟩ := howc.rd encChk_len)
                | (go_at_call 16; (with_reducible refine (hj1 _ (below_call hB5 hB5.size kB)).mono ?_); rintro e wd ⟨uwd, rfl, howd, hbwd⟩; have kBA := below_call kB kB.size hbwd; obtain ⟨Awd, kwd, rfl, hRwd⟩ := howd.rd encChk_len)
                | (go_at_call 15; (with_reducible refine (hsame gj Awa Awb kwa kwb wb (hRwa.below hbwb) hRwb).mono ?_); rintro e ws ⟨rfl, hbs⟩; have kS := below_call kAB kAB.size hbs)
                | (go_at_call 15; (with_reducible refine (hsame gj Awd Awc kwd kwc wd hRwd (hRwc.below hbwd)).mono ?_); rintro e wt ⟨rfl, hbt⟩; have kT := below_call kBA kBA.size hbt)))
            all_goals go_wp2
            all_goals go_meet
            all_goals first | exact ⟨rfl, kS⟩ | exact ⟨rfl, kT⟩
          case rest =>
            obtain ⟨rfl, hbx⟩ := hcut
            rename World => w6
            have hB6 := below_call hB5 hB5.size hbx
            have b6 := bl_own hbx b5
            have hR5 := hR5.below hbx
            clear hbx
            obtain ⟨c60, c61, c62, c63, c64⟩ := blk5 b6
            go_wp2_with fail
            go_cut [13] from 56 to 64 (fun vq wx => vq = .bool true ∧ Below w6.heap.size w6 wx)
            case first =>
              have kD : Below w6.heap.size w6 w6.drew := (Below.refl _ w6).drew
              go_region_held3 (fun W' => (W'.cell? ⟨w.heap.size, 0, none⟩ = some (.slice A c.W.length k) ∧ W'.cell? ⟨w.heap.size, 1, none⟩ = some (.int .u64 c.seed) ∧ W'.cell? ⟨w.heap.size, 2, none⟩ = some (.int .i64 c.epoch) ∧ W'.cell? ⟨w.heap.size, 3, none⟩ = some (.int .i64 c.num) ∧ W'.cell? ⟨w.heap.size, 4, none⟩ = some (.int .i64 c.den))) (first | exact blk5 b6 | exact blk5 (bl_own kD b6) | exact blk5 (bl_own kA b6) | exact blk5 (bl_own kB b6) | exact blk5 (bl_own kAB b6) | exact blk5 (bl_own kBA b6) | exact blk5 (bl_own kS b6) | exact blk5 (bl_own kT b6))
                ((first
                  | (go_at_call 18; (with_reducible refine (hf1 _ (below_call hB6 hB6.size kD)).mono ?_); rintro e wa ⟨uwa, rfl, howa, hbwa⟩; have kA := below_call kD kD.size hbwa; obtain ⟨Awa, kwa, rfl, hRwa⟩ := howa.rd encChk_len)
                  | (go_at_call 18; (with_reducible refine (hf2 _ (below_call hB6 hB6.size kA) (hR5.below kA)).mono ?_); rintro e wb ⟨uwb, rfl, howb, hbwb⟩; have kAB := below_call kA kA.size hbwb; obtain ⟨Awb, kwb, rfl, hRwb⟩ := howb.rd encChk_len)
                  | (go_at_call 18; (with_reducible refine (hf2 _ (below_call hB6 hB6.size kD) (hR5.below kD)).mono ?_); rintro e wc ⟨uwc, rfl, howc, hbwc⟩; have kB := below_call kD kD.size hbwc; obtain ⟨Awc, kwc, rfl, hRwc⟩ := howc.rd encChk_len)
                  | (go_at_call 18; (with_reducible refine (hf1 _ (below_call hB6 hB6.size kB)).mono ?_); rintro e wd ⟨uwd, rfl, howd, hbwd⟩; have kBA := below_call kB kB.size hbwd; obtain ⟨Awd, kwd, rfl, hRwd⟩ := howd.rd encChk_len)
                  | (go_at_call 15; (with_reducible refine (hsame gf Awa Awb kwa kwb wb (hRwa.below hbwb) hRwb).mono ?_); rintro e ws ⟨rfl, hbs⟩; have kS := below_call kAB kAB.size hbs)
                  | (go_at_call 15; (with_reducible refine (hsame gf Awd Awc kwd kwc wd hRwd (hRwc.below hbwd)).mono ?_); rintro e wt ⟨rfl, hbt⟩; have kT := below_call kBA kBA.size hbt)))
              all_goals go_wp2
              all_goals go_meet
              all_goals first | exact ⟨rfl, kS⟩ | exact ⟨rfl, kT⟩
            case rest =>
              obtain ⟨rfl, hbx⟩ := hcut
              rename World => w7
              have hB7 := below_call hB6 hB6.size hbx
              go_wp2_with fail
              go_ret
              exact ⟨rfl, hB7⟩
        · have hk' : ¬ n = k3 := hk
          go_enter Try.func6, Try.ntmps6
          go_wp2_with (first
            | (go_at_call 11; (with_reducible refine (haw _).mono ?_); clear haw; rintro e w1 ⟨rfl, hb1⟩; have hB1 := below_call hB hB.size hb1; have b1 := bl_own hb1 b0; obtain ⟨c10, c11, c12, c13, c14⟩ := blk5 b1)
            | (go_at_call 12; (with_reducible refine (hfew _).mono ?_); clear hfew; rintro e w2 ⟨rfl, hb2⟩; have hB2 := below_call hB1 hB1.size hb2; have b2 := bl_own hb2 b1; obtain ⟨c20, c21, c22, c23, c24⟩ := blk5 b2)
            | (at_builtin; refine wp_append_all rfl rfl hun infoL rfl (by decide) encLnk_len encLnk_one rfl (Own.nil w2 w2.heap.size _ _ _) (A := (some ⟨b, o + n * 7, none⟩)) (c := (k3 - n)) (ys := rest) (by rw [hdl'.out]; rfl) (fun e => by first | exact hN e | rfl | cases e) (hRr w2 hB2) (by first | omega | (simp; done) | (simp; omega)) (by unfold maxLen; first | omega | (simp; done) | (simp; omega)) (Nat.le_refl _) ?_; intro v3 w3 ho3 hg3 _; rw [List.nil_append] at ho3; have hb3 := below_step (Below.refl w2.heap.size w2) (Nat.le_refl _) hg3 (fun _ e => by cases e); have hB3 := below_call hB2 hB2.size hb3)
            | (at_builtin; refine wp_append_all rfl rfl hun infoL rfl (by decide) encLnk_len encLnk_one rfl ho3 (A := (some ⟨b, o, none⟩)) (c := _) (ys := v) rfl (fun e => by first | exact hN e | rfl | cases e) (hr3.below hB3) (by first | omega | (simp; done) | (simp; omega)) (by unfold maxLen; first | omega | (simp; done) | (simp; omega)) hb3.size ?_; intro v5 w5 ho5 hg5 _; have hb5 := below_step hb3 hb3.size hg5 (fun k e => (ho3.base k e).1); have hB5 := below_call hB2 hB2.size hb5; have b5 := bl_own hb5 b2; rw [hwl'.out] at ho5; obtain ⟨A5, k5, rfl, hR5⟩ := ho5.rd encLnk_len; have hj2 := hj2 A5 k5; have hf2 := hf2 A5 k5))
          clear c20 c21 c22 c23 c24
          obtain ⟨c50, c51, c52, c53, c54⟩ := blk5 b5
          go_cut [12] from 47 to 55 (fun vq wx => vq = .bool true ∧ Below w5.heap.size w5 wx)
          case first =>
            have kD : Below w5.heap.size w5 w5.drew := (Below.refl _ w5).drew
            go_region_held3 (fun W' => (W'.cell? ⟨w.heap.size, 0, none⟩ = some (.slice A c.W.length k) ∧ W'.cell? ⟨w.heap.size, 1, none⟩ = some (.int .u64 c.seed) ∧ W'.cell? ⟨w.heap.size, 2, none⟩ = some (.int .i64 c.epoch) ∧ W'.cell? ⟨w.heap.size, 3, none⟩ = some (.int .i64 c.num) ∧ W'.cell? ⟨w.heap.size, 4, none⟩ = some (.int .i64 c.den))) (first | exact blk5 b5 | exact blk5 (bl_own kD b5) | exact blk5 (bl_own kA b5) | exact blk5 (bl_own kB b5) | exact blk5 (bl_own kAB b5) | exact blk5 (bl_own kBA b5) | exact blk5 (bl_own kS b5) | exact blk5 (bl_own kT b5))
              ((first
                | (go_at_call 16; (with_reducible refine (hj1 _ (below_call hB5 hB5.size kD)).mono ?_); rintro e wa ⟨uwa, rfl, howa, hbwa⟩; have kA := below_call kD kD.size hbwa; obtain ⟨Awa, kwa, rfl, hRwa⟩ := howa.rd encChk_len)
                | (go_at_call 16; (with_reducible refine (hj2 _ (below_call hB5 hB5.size kA) (hR5.below kA)).mono ?_); rintro e wb ⟨uwb, rfl, howb, hbwb⟩; have kAB := below_call kA kA.size hbwb; obtain ⟨Awb, kwb, rfl, hRwb⟩ := howb.rd encChk_len)
                | (go_at_call 16; (with_reducible refine (hj2 _ (below_call hB5 hB5.size kD) (hR5.below kD)).mono ?_); rintro e wc ⟨uwc, rfl, howc, hbwc⟩; have kB := below_call kD kD.size hbwc; obtain ⟨Awc, kwc, rfl, hRwc⟩ := howc.rd encChk_len)
                | (go_at_call 16; (with_reducible refine (hj1 _ (below_call hB5 hB5.size kB)).mono ?_); rintro e wd ⟨uwd, rfl, howd, hbwd⟩; have kBA := below_call kB kB.size hbwd; obtain ⟨Awd, kwd, rfl, hRwd⟩ := howd.rd encChk_len)
                | (go_at_call 15; (with_reducible refine (hsame gj Awa Awb kwa kwb wb (hRwa.below hbwb) hRwb).mono ?_); rintro e ws ⟨rfl, hbs⟩; have kS := below_call kAB kAB.size hbs)
                | (go_at_call 15; (with_reducible refine (hsame gj Awd Awc kwd kwc wd hRwd (hRwc.below hbwd)).mono ?_); rintro e wt ⟨rfl, hbt⟩; have kT := below_call kBA kBA.size hbt)))
            all_goals go_wp2
            all_goals go_meet
            all_goals first | exact ⟨rfl, kS⟩ | exact ⟨rfl, kT⟩
          case rest =>
            obtain ⟨rfl, hbx⟩ := hcut
            rename World => w6
            have hB6 := below_call hB5 hB5.size hbx
            have b6 := bl_own hbx b5
            have hR5 := hR5.below hbx
            clear hbx
            obtain ⟨c60, c61, c62, c63, c64⟩ := blk5 b6
            go_wp2_with fail
            go_cut [13] from 56 to 64 (fun vq wx => vq = .bool true ∧ Below w6.heap.size w6 wx)
            case first =>
              have kD : Below w6.heap.size w6 w6.drew := (Below.refl _ w6).drew
              go_region_held3 (fun W' => (W'.cell? ⟨w.heap.size, 0, none⟩ = some (.slice A c.W.length k) ∧ W'.cell? ⟨w.heap.size, 1, none⟩ = some (.int .u64 c.seed) ∧ W'.cell? ⟨w.heap.size, 2, none⟩ = some (.int .i64 c.epoch) ∧ W'.cell? ⟨w.heap.size, 3, none⟩ = some (.int .i64 c.num) ∧ W'.cell? ⟨w.heap.size, 4, none⟩ = some (.int .i64 c.den))) (first | exact blk5 b6 | exact blk5 (bl_own kD b6) | exact blk5 (bl_own kA b6) | exact blk5 (bl_own kB b6) | exact blk5 (bl_own kAB b6) | exact blk5 (bl_own kBA b6) | exact blk5 (bl_own kS b6) | exact blk5 (bl_own kT b6))
                ((first
                  | (go_at_call 18; (with_reducible refine (hf1 _ (below_call hB6 hB6.size kD)).mono ?_); rintro e wa ⟨uwa, rfl, howa, hbwa⟩; have kA := below_call kD kD.size hbwa; obtain ⟨Awa, kwa, rfl, hRwa⟩ := howa.rd encChk_len)
                  | (go_at_call 18; (with_reducible refine (hf2 _ (below_call hB6 hB6.size kA) (hR5.below kA)).mono ?_); rintro e wb ⟨uwb, rfl, howb, hbwb⟩; have kAB := below_call kA kA.size hbwb; obtain ⟨Awb, kwb, rfl, hRwb⟩ := howb.rd encChk_len)
                  | (go_at_call 18; (with_reducible refine (hf2 _ (below_call hB6 hB6.size kD) (hR5.below kD)).mono ?_); rintro e wc ⟨uwc, rfl, howc, hbwc⟩; have kB := below_call kD kD.size hbwc; obtain ⟨Awc, kwc, rfl, hRwc⟩ := howc.rd encChk_len)
                  | (go_at_call 18; (with_reducible refine (hf1 _ (below_call hB6 hB6.size kB)).mono ?_); rintro e wd ⟨uwd, rfl, howd, hbwd⟩; have kBA := below_call kB kB.size hbwd; obtain ⟨Awd, kwd, rfl, hRwd⟩ := howd.rd encChk_len)
                  | (go_at_call 15; (with_reducible refine (hsame gf Awa Awb kwa kwb wb (hRwa.below hbwb) hRwb).mono ?_); rintro e ws ⟨rfl, hbs⟩; have kS := below_call kAB kAB.size hbs)
                  | (go_at_call 15; (with_reducible refine (hsame gf Awd Awc kwd kwc wd hRwd (hRwc.below hbwd)).mono ?_); rintro e wt ⟨rfl, hbt⟩; have kT := below_call kBA kBA.size hbt)))
              all_goals go_wp2
              all_goals go_meet
              all_goals first | exact ⟨rfl, kS⟩ | exact ⟨rfl, kT⟩
            case rest =>
              obtain ⟨rfl, hbx⟩ := hcut
              rename World => w7
              have hB7 := below_call hB6 hB6.size hbx
              go_wp2_with fail
              go_ret
              exact ⟨rfl, hB7⟩
    · clear hok hk3 hk3m hN
      unfold cfgv at *
      go_enter Try.func6, Try.ntmps6
      go_wp2_with (first
        | (go_at_call 11; (with_reducible refine (haw _).mono ?_); clear haw; rintro e w1 ⟨rfl, hb1⟩; have hB1 := below_call hB hB.size hb1; have b1 := bl_own hb1 b0; obtain ⟨c10, c11, c12, c13, c14⟩ := blk5 b1)
        | (go_at_call 12; (with_reducible refine (hfew _).mono ?_); clear hfew; rintro e w2 ⟨rfl, hb2⟩; have hB2 := below_call hB1 hB1.size hb2; have b2 := bl_own hb2 b1; obtain ⟨c20, c21, c22, c23, c24⟩ := blk5 b2))
      all_goals first
        | (exfalso; omega)
        | (go_ret; exact ⟨rfl, hB2⟩)
  · rw [decide_eq_false hsm] at hfew
    clear hsm
    unfold cfgv at *
    go_enter Try.func6, Try.ntmps6
    go_wp2_with (first
      | (go_at_call 11; (with_reducible refine (haw _).mono ?_); clear haw; rintro e w1 ⟨rfl, hb1⟩; have hB1 := below_call hB hB.size hb1; have b1 := bl_own hb1 b0; obtain ⟨c10, c11, c12, c13, c14⟩ := blk5 b1)
      | (go_at_call 12; (with_reducible refine (hfew _).mono ?_); clear hfew; rintro e w2 ⟨rfl, hb2⟩; have hB2 := below_call hB1 hB1.size hb2; have b2 := bl_own hb2 b1; obtain ⟨c20, c21, c22, c23, c24⟩ := blk5 b2))
    go_ret
    exact ⟨rfl, hB2⟩
theorem order11_walk (A : Option Addr) (c : Cfg) (k : Nat) (A2 : Option Addr) (l : List Blk) (k2 : Nat) (A3 : Option Addr) (v : List Lnk) (k3 : Nat) (at' : Int) (w : World) (_ : c.W.length ≤ k) (_ : k ≤ maxLen) (hr : Rd 1 encI w A c.W) (_ : c.Ok) (_ : l.length ≤ k2) (_ : k2 ≤ maxLen) (hr2 : Rd 5 encBlk w A2 l) (hok : ∀ b ∈ l, b.Ok) (hk3 : v.length ≤ k3) (hk3m : k3 ≤ maxLen) (hr3 : Rd 7 encLnk w A3 v) (_ : ∀ b ∈ v, b.Ok) (hN : A3 = none → k3 = 0) (_ : I64 at') :
    Calls Try.prog 6 #[cfgv A k c, .slice A2 l.length k2, .slice A3 v.length k3, .int .i64 at'] w fun e w' => e = .returned (.bool true) ∧ Below w.heap.size w w' :=
  order11_any c l v at' A A2 A3 k k2 k3 w hr hr2 hok hr3 hk3 hk3m hN
end Go.Proofs.Ytdocgemfedohdaa
