/- FfgTells, walked. -/
import Derived.Test.YtdocgemfedohdaaGD
import Derived.Test.YtdocgemfedohdaaGM
import Derived.Test.YtdocgemfedohdaaGO
import Derived.Deep.CutRange
import Derived.Deep.CutBlock
namespace Go.Proofs.Ytdocgemfedohdaa
open Go.RowKit
set_option maxRecDepth 100000 in
set_option maxHeartbeats 8000000 in
theorem tells11_any (c : Cfg) (l : List Blk) (v : List Lnk) (x : Lnk) (A A2 A3 : Option Addr) (k k2 k3 : Nat) (w : World) (hr : Rd 1 encI w A c.W) (hr2 : Rd 5 encBlk w A2 l) (hok : ∀ b ∈ l, b.Ok) (hr3 : Rd 7 encLnk w A3 v) (_ : v.length ≤ k3) (_ : k3 ≤ maxLen) (_ : A3 = none → k3 = 0) :
    Calls Try.prog 3 #[cfgv A k c, .slice A2 l.length k2, .slice A3 v.length k3, lnkv x] w fun e w' => e = .returned (.bool true) ∧ Below w.heap.size w w' := by
  have hm := hr.1
  have hm2 := hr2.1
  have hm3 := hr3.1
  have haw := fun V => awake11_any V
  have hfew := fun V => few11_any c l.length v.length A A2 A3 k k2 k3 V hm hm2 hm3
  obtain ⟨W, hW⟩ : ∃ W, (w.alloc (.cells #[.slice A c.W.length k, .int .u64 c.seed, .int .i64 c.epoch, .int .i64 c.num, .int .i64 c.den] 25)).alloc (.cells #[.int .i64 x.frm, .int .i64 x.src.epoch, .int .u64 x.src.root.hi, .int .u64 x.src.root.lo, .int .i64 x.tgt.epoch, .int .u64 x.tgt.root.hi, .int .u64 x.tgt.root.lo] 33) = W := ⟨_, rfl⟩
  have hB : Below w.heap.size w W := by subst hW; exact ((Below.refl _ w).alloc (Nat.le_refl _) _).alloc (by simp) _
  have b0 : W.heap[w.heap.size]? = some (.cells #[.slice A c.W.length k, .int .u64 c.seed, .int .i64 c.epoch, .int .i64 c.num, .int .i64 c.den] 25 (0, 0)) := by subst hW; exact ha_lt (ha_at rfl)
  have x0 : W.heap[w.heap.size + 1]? = some (.cells #[.int .i64 x.frm, .int .i64 x.src.epoch, .int .u64 x.src.root.hi, .int .u64 x.src.root.lo, .int .i64 x.tgt.epoch, .int .u64 x.tgt.root.hi, .int .u64 x.tgt.root.lo] 33 (0, 0)) := by subst hW; exact ha_at (by simp)
  by_cases hsm : c.W.length ≤ 40 ∧ l.length ≤ 20 ∧ v.length ≤ 40
  · rw [decide_eq_true hsm] at hfew
    obtain ⟨_, hs2, hs3⟩ := hsm
    have hrm := fun V (hV : Below w.heap.size w V) => rfmay_any c l x A A2 k k2 V (hr.below hV) (hr2.below hV) hok (by omega)
    have hfm := fun V (hV : Below w.heap.size w V) => fmay_any c l x A A2 k k2 V (hr.below hV) (hr2.below hV) (by omega)
    have hrs := fun V (hV : Below w.heap.size w V) => rstrong_any c l v x.src x.tgt A A2 A3 k k2 k3 V (hr.below hV) (hr2.below hV) hok (by omega) (hr3.below hV) (by omega)
    have hfs := fun V (hV : Below w.heap.size w V) => fstrong_any c l v x.src x.tgt A A2 A3 k k2 k3 V (hr.below hV) (hr2.below hV) (by omega) (hr3.below hV) (by omega)
    have hrj := fun V (hV : Below w.heap.size w V) => rjust_any c l v A A2 A3 k k2 k3 V (hr.below hV) (hr2.below hV) hok (by omega) (hr3.below hV) (by omega)
    have hfj := fun V (hV : Below w.heap.size w V) => fjust_any c l v A A2 A3 k k2 k3 V (hr.below hV) (hr2.below hV) (by omega) (hr3.below hV) (by omega)
    have hrf := fun V (hV : Below w.heap.size w V) => rFinal_any c l v A A2 A3 k k2 k3 V (hr.below hV) (hr2.below hV) hok (by omega) (hr3.below hV) (by omega)
    have hff := fun V (hV : Below w.heap.size w V) => ffinal_any c l v A A2 A3 k k2 k3 V (hr.below hV) (hr2.below hV) (by omega) (hr3.below hV) (by omega)
    obtain ⟨q1, hq1⟩ : ∃ q, decide (MayL c l x) = q := ⟨_, rfl⟩
    obtain ⟨q2, hq2⟩ : ∃ q, decide (StrongW c l v ⟨x.src, x.tgt⟩) = q := ⟨_, rfl⟩
    rw [hq1] at hrm hfm
    rw [hq2] at hrs hfs
    clear hq1 hq2
    obtain ⟨gj, hgj⟩ : ∃ g, justL c l v = g := ⟨_, rfl⟩
    obtain ⟨gf, hgf⟩ : ∃ g, finalL c l v = g := ⟨_, rfl⟩
    rw [hgj] at hrj hfj
    rw [hgf] at hrf hff
    clear hgj hgf
    have hsame := fun (g : List Chk) B1 B2 n1 n2 V h1 h2 => show Calls Try.prog 15 #[.slice B1 g.length n1, .slice B2 g.length n2] V fun e w' => e = .returned (.bool true) ∧ Below V.heap.size V w' by have := sameC_any g g B1 B2 n1 n2 V h1 h2; rwa [decide_eq_true rfl] at this
    unfold cfgv lnkv chkv at *
    go_enter Try.func3, Try.ntmps3
    go_wp2_with (first
      | (go_at_call 11; (with_reducible refine (haw _).mono ?_); clear haw; rintro e w1 ⟨rfl, hb1⟩; have hB1 := below_call hB hB.size hb1; have b1 := bl_own hb1 b0; obtain ⟨c10, c11, c12, c13, c14⟩ := blk5 b1)
      | (go_at_call 12; (with_reducible refine (hfew _).mono ?_); clear hfew; rintro e w2 ⟨rfl, hb2⟩; have hB2 := below_call hB1 hB1.size hb2; have b2 := bl_own hb2 b1; obtain ⟨c20, c21, c22, c23, c24⟩ := blk5 b2; have x2 := bl_own hb2 (bl_own hb1 x0); obtain ⟨x20, x21, x22, x23, x24, x25, x26⟩ := blkL x2)
      | (go_at_call 13; (with_reducible refine (hrm _ hB2).mono ?_); clear hrm; rintro e w3 ⟨rfl, hb3⟩; have hB3 := below_call hB2 hB2.size hb3; have b3 := bl_own hb3 b2; obtain ⟨c30, c31, c32, c33, c34⟩ := blk5 b3; have x3 := bl_own hb3 x2; obtain ⟨x30, x31, x32, x33, x34, x35, x36⟩ := blkL x3)
      | (go_at_call 14; (with_reducible refine (hrs _ hB3).mono ?_); clear hrs; rintro e w4 ⟨rfl, hb4⟩; have hB4 := below_call hB3 hB3.size hb4; have b4 := bl_own hb4 b3; obtain ⟨c40, c41, c42, c43, c44⟩ := blk5 b4; have x4 := bl_own hb4 x3; obtain ⟨x40, x41, x42, x43, x44, x45, x46⟩ := blkL x4))
    go_cut [13] from 39 to 47 (fun vq wx => vq = .bool true ∧ Below w4.heap.size w4 wx)
    case first =>
      have kD : Below w4.heap.size w4 w4.drew := (Below.refl _ w4).drew
      go_region_held3 (fun W' => (W'.cell? ⟨w.heap.size, 0, none⟩ = some (.slice A c.W.length k) ∧ W'.cell? ⟨w.heap.size, 1, none⟩ = some (.int .u64 c.seed) ∧ W'.cell? ⟨w.heap.size, 2, none⟩ = some (.int .i64 c.epoch) ∧ W'.cell? ⟨w.heap.size, 3, none⟩ = some (.int .i64 c.num) ∧ W'.cell? ⟨w.heap.size, 4, none⟩ = some (.int .i64 c.den))) (first | exact blk5 b4 | exact blk5 (bl_own kD b4) | exact blk5 (bl_own kA b4) | exact blk5 (bl_own kB b4) | exact blk5 (bl_own kAB b4) | exact blk5 (bl_own kBA b4) | exact blk5 (bl_own kS b4) | exact blk5 (bl_own kT b4))
        ((first
          | (go_at_call 16; (with_reducible refine (hfj _ (below_call hB4 hB4.size kD)).mono ?_); rintro e wa ⟨uwa, rfl, howa, hbwa⟩; have kA := below_call kD kD.size hbwa; obtain ⟨Awa, kwa, rfl, hRwa⟩ := howa.rd encChk_len)
          | (go_at_call 17; (with_reducible refine (hrj _ (below_call hB4 hB4.size kA)).mono ?_); rintro e wb ⟨uwb, rfl, howb, hbwb⟩; have kAB := below_call kA kA.size hbwb; obtain ⟨Awb, kwb, rfl, hRwb⟩ := howb.rd encChk_len)
          | (go_at_call 17; (with_reducible refine (hrj _ (below_call hB4 hB4.size kD)).mono ?_); rintro e wc ⟨uwc, rfl, howc, hbwc⟩; have kB := below_call kD kD.size hbwc; obtain ⟨Awc, kwc, rfl, hRwc⟩ := howc.rd encChk_len)
          | (go_at_call 16; (with_reducible refine (hfj _ (below_call hB4 hB4.size kB)).mono ?_); rintro e wd ⟨uwd, rfl, howd, hbwd⟩; have kBA := below_call kB kB.size hbwd; obtain ⟨Awd, kwd, rfl, hRwd⟩ := howd.rd encChk_len)
          | (go_at_call 15; (with_reducible refine (hsame gj Awa Awb kwa kwb wb (hRwa.below hbwb) hRwb).mono ?_); rintro e ws ⟨rfl, hbs⟩; have kS := below_call kAB kAB.size hbs)
          | (go_at_call 15; (with_reducible refine (hsame gj Awd Awc kwd kwc wd hRwd (hRwc.below hbwd)).mono ?_); rintro e wt ⟨rfl, hbt⟩; have kT := below_call kBA kBA.size hbt)))
      all_goals go_wp2
      all_goals go_meet
      all_goals first | exact ⟨rfl, kS⟩ | exact ⟨rfl, kT⟩
    case rest =>
      obtain ⟨rfl, hbx⟩ := hcut
      have hB5 := below_call hB4 hB4.size hbx
      have b5 := bl_own hbx b4
      have x5 := bl_own hbx x4
      obtain ⟨c50, c51, c52, c53, c54⟩ := blk5 b5
      clear hbx
      rename World => w5
      go_wp2_with fail
      go_cut [14] from 48 to 56 (fun vq wx => vq = .bool true ∧ Below w5.heap.size w5 wx)
      case first =>
        have kD : Below w5.heap.size w5 w5.drew := (Below.refl _ w5).drew
        go_region_held3 (fun W' => (W'.cell? ⟨w.heap.size, 0, none⟩ = some (.slice A c.W.length k) ∧ W'.cell? ⟨w.heap.size, 1, none⟩ = some (.int .u64 c.seed) ∧ W'.cell? ⟨w.heap.size, 2, none⟩ = some (.int .i64 c.epoch) ∧ W'.cell? ⟨w.heap.size, 3, none⟩ = some (.int .i64 c.num) ∧ W'.cell? ⟨w.heap.size, 4, none⟩ = some (.int .i64 c.den))) (first | exact blk5 b5 | exact blk5 (bl_own kD b5) | exact blk5 (bl_own kA b5) | exact blk5 (bl_own kB b5) | exact blk5 (bl_own kAB b5) | exact blk5 (bl_own kBA b5) | exact blk5 (bl_own kS b5) | exact blk5 (bl_own kT b5))
          ((first
            | (go_at_call 18; (with_reducible refine (hff _ (below_call hB5 hB5.size kD)).mono ?_); rintro e wa ⟨uwa, rfl, howa, hbwa⟩; have kA := below_call kD kD.size hbwa; obtain ⟨Awa, kwa, rfl, hRwa⟩ := howa.rd encChk_len)
            | (go_at_call 19; (with_reducible refine (hrf _ (below_call hB5 hB5.size kA)).mono ?_); rintro e wb ⟨uwb, rfl, howb, hbwb⟩; have kAB := below_call kA kA.size hbwb; obtain ⟨Awb, kwb, rfl, hRwb⟩ := howb.rd encChk_len)
            | (go_at_call 19; (with_reducible refine (hrf _ (below_call hB5 hB5.size kD)).mono ?_); rintro e wc ⟨uwc, rfl, howc, hbwc⟩; have kB := below_call kD kD.size hbwc; obtain ⟨Awc, kwc, rfl, hRwc⟩ := howc.rd encChk_len)
            | (go_at_call 18; (with_reducible refine (hff _ (below_call hB5 hB5.size kB)).mono ?_); rintro e wd ⟨uwd, rfl, howd, hbwd⟩; have kBA := below_call kB kB.size hbwd; obtain ⟨Awd, kwd, rfl, hRwd⟩ := howd.rd encChk_len)
            | (go_at_call 15; (with_reducible refine (hsame gf Awa Awb kwa kwb wb (hRwa.below hbwb) hRwb).mono ?_); rintro e ws ⟨rfl, hbs⟩; have kS := below_call kAB kAB.size hbs)
            | (go_at_call 15; (with_reducible refine (hsame gf Awd Awc kwd kwc wd hRwd (hRwc.below hbwd)).mono ?_); rintro e wt ⟨rfl, hbt⟩; have kT := below_call kBA kBA.size hbt)))
        all_goals go_wp2
        all_goals go_meet
        all_goals first | exact ⟨rfl, kS⟩ | exact ⟨rfl, kT⟩
      case rest =>
        obtain ⟨rfl, hbx⟩ := hcut
        have hB6 := below_call hB5 hB5.size hbx
        have b6 := bl_own hbx b5
        have x6 := bl_own hbx x5
        obtain ⟨c60, c61, c62, c63, c64⟩ := blk5 b6
        obtain ⟨x60, x61, x62, x63, x64, x65, x66⟩ := blkL x6
        clear hbx
        rename World => w6
        go_wp2_with (first
          | (go_at_call 20; (with_reducible refine (hfm _ hB6).mono ?_); clear hfm; rintro e w7 ⟨rfl, hb7⟩; have hB7 := below_call hB6 hB6.size hb7; have b7 := bl_own hb7 b6; obtain ⟨c70, c71, c72, c73, c74⟩ := blk5 b7; have x7 := bl_own hb7 x6; obtain ⟨x70, x71, x72, x73, x74, x75, x76⟩ := blkL x7)
          | (go_at_call 21; (with_reducible refine (hfs _ hB7).mono ?_); clear hfs; rintro e w8 ⟨rfl, hb8⟩; have hB8 := below_call hB7 hB7.size hb8; have b8 := bl_own hb8 b7; obtain ⟨c80, c81, c82, c83, c84⟩ := blk5 b8; have x8 := bl_own hb8 x7; obtain ⟨x80, x81, x82, x83, x84, x85, x86⟩ := blkL x8))
        go_ret
        exact ⟨rfl, hB8⟩
  · rw [decide_eq_false hsm] at hfew
    clear hsm
    unfold cfgv lnkv at *
    go_enter Try.func3, Try.ntmps3
    go_wp2_with (first
      | (go_at_call 11; (with_reducible refine (haw _).mono ?_); clear haw; rintro e w1 ⟨rfl, hb1⟩; have hB1 := below_call hB hB.size hb1; have b1 := bl_own hb1 b0; obtain ⟨c10, c11, c12, c13, c14⟩ := blk5 b1)
      | (go_at_call 12; (with_reducible refine (hfew _).mono ?_); clear hfew; rintro e w2 ⟨rfl, hb2⟩; have hB2 := below_call hB1 hB1.size hb2; have b2 := bl_own hb2 b1; obtain ⟨c20, c21, c22, c23, c24⟩ := blk5 b2))
    go_ret
    exact ⟨rfl, hB2⟩
theorem tells11_walk (A : Option Addr) (c : Cfg) (k : Nat) (A2 : Option Addr) (l : List Blk) (k2 : Nat) (A3 : Option Addr) (v : List Lnk) (k3 : Nat) (x : Lnk) (w : World) (_ : c.W.length ≤ k) (_ : k ≤ maxLen) (hr : Rd 1 encI w A c.W) (_ : c.Ok) (_ : l.length ≤ k2) (_ : k2 ≤ maxLen) (hr2 : Rd 5 encBlk w A2 l) (hok : ∀ b ∈ l, b.Ok) (hk3 : v.length ≤ k3) (hk3m : k3 ≤ maxLen) (hr3 : Rd 7 encLnk w A3 v) (_ : ∀ b ∈ v, b.Ok) (hN : A3 = none → k3 = 0) (_ : x.Ok) :
    Calls Try.prog 3 #[cfgv A k c, .slice A2 l.length k2, .slice A3 v.length k3, lnkv x] w fun e w' => e = .returned (.bool true) ∧ Below w.heap.size w w' :=
  tells11_any c l v x A A2 A3 k k2 k3 w hr hr2 hok hr3 hk3 hk3m hN
end Go.Proofs.Ytdocgemfedohdaa
