/- SlashEpochs, walked. -/
import Derived.Test.YtdocgemfedohdaaHD
import Derived.Test.YtdocgemfedohdaaHF
import Derived.Test.YtdocgemfedohdaaHI
import Derived.Test.YtdocgemfedohdaaHN
import Derived.IntWalk
import Derived.Deep.CutRange
import Derived.Deep.CutBlock
namespace Go.Proofs.Ytdocgemfedohdaa
open Go.RowKit
theorem once_at {c : Cfg} {l : List Blk} {v : List Lnk} (hno : ¬ Third c v) (m : Nat) (x y : Chk) (hx : (justL c l v)[m]? = some x) (hy : (justL c l v)[m + 1]? = some y) : x.epoch ≠ y.epoch := by
  obtain ⟨_, rfl⟩ := List.getElem?_eq_some_iff.1 hx
  obtain ⟨h, rfl⟩ := List.getElem?_eq_some_iff.1 hy
  exact slash_epochs hno h
set_option maxRecDepth 100000 in
set_option maxHeartbeats 8000000 in
theorem sepochs12_any (c : Cfg) (l : List Blk) (v : List Lnk) (A A2 A3 : Option Addr) (k k2 k3 : Nat) (w : World) (hr : Rd 1 encI w A c.W) (hr2 : Rd 5 encBlk w A2 l) (_ : ∀ b ∈ l, b.Ok) (hr3 : Rd 7 encLnk w A3 v) (hk3 : v.length ≤ k3) (hk3m : k3 ≤ maxLen) (_ : A3 = none → k3 = 0) :
    Calls Try.prog 9 #[cfgv A k c, .slice A2 l.length k2, .slice A3 v.length k3] w fun e w' => e = .returned (.bool true) ∧ Below w.heap.size w w' := by
  have hm := hr.1
  have hm2 := hr2.1
  have hm3 := hr3.1
  have haw := fun V => awake_any V
  have hfew := fun V => few11_any c l.length v.length A A2 A3 k k2 k3 V hm hm2 hm3
  obtain ⟨W, hW⟩ : ∃ W, w.alloc (.cells #[.slice A c.W.length k, .int .u64 c.seed, .int .i64 c.epoch, .int .i64 c.num, .int .i64 c.den] 25) = W := ⟨_, rfl⟩
  have hB : Below w.heap.size w W := by subst hW; exact (Below.refl _ w).alloc (Nat.le_refl _) _
  have b0 : W.heap[w.heap.size]? = some (.cells #[.slice A c.W.length k, .int .u64 c.seed, .int .i64 c.epoch, .int .i64 c.num, .int .i64 c.den] 25 (0, 0)) := by subst hW; exact ha_at rfl
  by_cases hsm : c.W.length ≤ 40 ∧ l.length ≤ 20 ∧ v.length ≤ 40
  · rw [decide_eq_true hsm] at hfew
    obtain ⟨_, hs2, hs3⟩ := hsm
    have hju := fun V (hV : Below w.heap.size w V) => fjust_any c l v A A2 A3 k k2 k3 V (hr.below hV) (hr2.below hV) (by omega) (hr3.below hV) (by omega)
    have hgu := fun V (hV : Below w.heap.size w V) => guilty_any v A3 k3 V (hr3.below hV) hk3 hk3m (by omega)
    have hgl := guiltyL_len v
    have hwt := fun V (hV : Below w.heap.size w V) A4 k4 h4 => dweight_any c (guiltyL v) A A4 k k4 V (hr.below hV) h4
    have htt := fun V (hV : Below w.heap.size w V) => dtotal_any c A k V (hr.below hV)
    have hbw := weightC_bd c (guiltyL v)
    have hon := fun h => once_at (c := c) (l := l) (v := v) h
    unfold Third at hon
    have hjl := justL_len c l v
    generalize justL c l v = a at hju hon hjl
    generalize guiltyL v = gs at *
    have hon' := Lib.hid hon
    clear hon
    obtain ⟨q, hq⟩ : ∃ q, weightC c gs = q := ⟨_, rfl⟩
    obtain ⟨r, hrr⟩ : ∃ r, totalC c = r := ⟨_, rfl⟩
    rw [hq] at hwt hbw hon'
    rw [hrr] at htt hon'
    clear hq hrr
    have hw3 : IntKind.i64.wrap (3 * q) = 3 * q := Go.IntWalk.i64_in _ (by omega)
    have hw3' := Lib.hid hw3
    clear hw3 hbw
    unfold cfgv at *
    go_enter Try.func9, Try.ntmps9
    go_wp2_with (first
      | (go_at_call 26; (with_reducible refine (haw _).mono ?_); clear haw; rintro e w1 ⟨rfl, hb1⟩; have hB1 := below_call hB hB.size hb1; have b1 := bl_own hb1 b0; obtain ⟨c10, c11, c12, c13, c14⟩ := blk5 b1)
      | (go_at_call 12; (with_reducible refine (hfew _).mono ?_); clear hfew; rintro e w2 ⟨rfl, hb2⟩; have hB2 := below_call hB1 hB1.size hb2; have b2 := bl_own hb2 b1; obtain ⟨c20, c21, c22, c23, c24⟩ := blk5 b2))
    have kD : Below w2.heap.size w2 w2.drew := (Below.refl _ w2).drew
    go_cut [31] from 16 to 31 (fun vq wx => vq = .bool (decide (3 * q ≥ r)) ∧ Below w2.heap.size w2 wx)
    case first =>
      have hw3 := hw3'.out
      go_region_held3 (fun W' => (W'.cell? ⟨w.heap.size, 0, none⟩ = some (.slice A c.W.length k) ∧ W'.cell? ⟨w.heap.size, 1, none⟩ = some (.int .u64 c.seed) ∧ W'.cell? ⟨w.heap.size, 2, none⟩ = some (.int .i64 c.epoch) ∧ W'.cell? ⟨w.heap.size, 3, none⟩ = some (.int .i64 c.num) ∧ W'.cell? ⟨w.heap.size, 4, none⟩ = some (.int .i64 c.den))) (first | exact blk5 (bl_own kD b2) | exact blk5 (bl_own kT1 b2) | exact blk5 (bl_own kG1 b2) | exact blk5 (bl_own kG2 b2) | exact blk5 (bl_own kT2 b2) | exact blk5 (bl_own kW1 b2) | exact blk5 (bl_own kW2 b2) | exact blk5 (bl_own kW3 b2) | exact blk5 (bl_own kT3 b2) | exact blk5 b2)
        ((first
          | (go_at_call 27; (with_reducible refine (hgu _ (below_call hB2 hB2.size kD)).mono ?_); rintro e wG1 ⟨uwG1, rfl, howG1, hbwG1⟩; have kG1 := below_call kD kD.size hbwG1; obtain ⟨AwG1, kwG1, rfl, hRwG1⟩ := howG1.rd encI_len)
          | (go_at_call 25; (with_reducible refine (htt _ (below_call hB2 hB2.size kD)).mono ?_); rintro e wT1 ⟨rfl, hbwT1⟩; have kT1 := below_call kD kD.size hbwT1)
          | (go_at_call 27; (with_reducible refine (hgu _ (below_call hB2 hB2.size kT1)).mono ?_); rintro e wG2 ⟨uwG2, rfl, howG2, hbwG2⟩; have kG2 := below_call kT1 kT1.size hbwG2; obtain ⟨AwG2, kwG2, rfl, hRwG2⟩ := howG2.rd encI_len)
          | (go_at_call 25; (with_reducible refine (htt _ (below_call hB2 hB2.size kG1)).mono ?_); rintro e wT2 ⟨rfl, hbwT2⟩; have kT2 := below_call kG1 kG1.size hbwT2)
          | (go_at_call 24; (with_reducible refine (hwt _ (below_call hB2 hB2.size kG1) _ _ hRwG1).mono ?_); rintro e wW1 ⟨rfl, hbwW1⟩; have kW1 := below_call kG1 kG1.size hbwW1)
          | (go_at_call 24; (with_reducible refine (hwt _ (below_call hB2 hB2.size kG2) _ _ hRwG2).mono ?_); rintro e wW2 ⟨rfl, hbwW2⟩; have kW2 := below_call kG2 kG2.size hbwW2)
          | (go_at_call 24; (with_reducible refine (hwt _ (below_call hB2 hB2.size kT2) _ _ (hRwG1.below hbwT2)).mono ?_); rintro e wW3 ⟨rfl, hbwW3⟩; have kW3 := below_call kT2 kT2.size hbwW3)
          | (go_at_call 25; (with_reducible refine (htt _ (below_call hB2 hB2.size kW1)).mono ?_); rintro e wT3 ⟨rfl, hbwT3⟩; have kT3 := below_call kW1 kW1.size hbwT3)))
      all_goals clear hw3
      all_goals go_wp2
      all_goals go_meet
      all_goals first | exact ⟨rfl, kT3⟩ | exact ⟨rfl, kW2⟩ | exact ⟨rfl, kW3⟩
    case rest =>
      obtain ⟨rfl, hbx⟩ := hcut
      rename World => w3
      have hB3 := below_call hB2 hB2.size hbx
      have b3 := bl_own hbx b2
      clear hbx
      obtain ⟨c30, c31, c32, c33, c34⟩ := blk5 b3
      by_cases hz : r ≤ 3 * q
      · have e1 : decide (3 * q ≥ r) = true := decide_eq_true hz
        rw [e1]
        clear hz
        go_wp2_with fail
        go_ret
        exact ⟨rfl, hB3⟩
      · have e1 : decide (3 * q ≥ r) = false := decide_eq_false hz
        rw [e1]
        have hon := Lib.hid (hon'.out (by omega))
        clear hz
        go_wp2_with (go_at_call 16; (with_reducible refine (hju _ hB3).mono ?_); clear hju; rintro e w4 ⟨u4, rfl, ho4, hb4⟩; have hB4 := below_call hB3 hB3.size hb4; obtain ⟨Aa, ka, rfl, hRa⟩ := ho4.rd encChk_len)
        clear kD hb1 hb2 hb4 hB hB1 hB2 hB3 b0 b1 b2 b3 hW c10 c11 c12 c13 c14 c20 c21 c22 c23 c24 c30 c31 c32 c33 c34 ho4
        go_loopw [10] (fun u10 wr => ∃ m : Nat, (m ≤ a.length) ∧ u10 = .int .i64 ((m : Int) + 1) ∧ Below w4.heap.size w4 wr) (fun u10 _ => a.length + 1 - (intOf u10).toNat)
        case atStart => exact ⟨0, Nat.zero_le _, rfl, Below.refl _ _⟩
        case round =>
          obtain ⟨m, hm1, rfl, hBW⟩ := hrel
          have hBo := below_call hB4 hB4.size hBW
          by_cases hlt : m + 1 < a.length
          · have hlt' : m < a.length := by omega
            have hne := hon.out m _ _ (List.getElem?_eq_getElem hlt') (List.getElem?_eq_getElem hlt)
            obtain ⟨b, o, rfl, _, d0, d1, d2⟩ := (hRa.below hBW).atChk hlt
            obtain ⟨bp, op, hep, _, f0, f1, f2⟩ := (hRa.below hBW).atChk hlt'
            cases hep
            obtain ⟨y, hy⟩ : ∃ y, a[m + 1] = y := ⟨_, rfl⟩
            obtain ⟨z, hz⟩ : ∃ y, a[m] = y := ⟨_, rfl⟩
            rw [hy] at d0 hne
            rw [hz] at f0 hne
            clear hy hz d1 d2 f1 f2
            have e2 : (y.epoch == z.epoch) = false := by simpa using fun h => hne h.symm
            clear hne
            have yd := gr_cell d0
            have yf := gr_cell f0
            have j1 : IntKind.i64.wrap ((m : Int) + 1 - 1) = (m : Int) := by rw [show (m : Int) + 1 - 1 = m by omega]; exact Go.IntWalk.i64_in _ (by omega)
            have j2 : IntKind.i64.wrap (m : Int) = (m : Int) := Go.IntWalk.i64_in _ (by omega)
            have j3 : (m : Int) < (a.length : Int) := by omega
            have j4 : (0 : Int) ≤ (m : Int) + 1 := by omega
            have j5 : ((m : Int) + 1).toNat = m + 1 := by omega
            have j6 : (m : Int) + 1 < (a.length : Int) := by omega
            go_wp2_with fail
            refine wp_region_gr (by kernel_rfl) (by kernel_rfl) ?_
            repeat (go_big_quiet_step (fail))
            refine wpQuiet_nil ?_
            rintro _ ⟨pq, rfl⟩
            have hg := gr_below wr pq
            generalize gr wr pq = w6 at hg ⊢
            clear j1 j2 yd yf
            go_wp2_with fail
            go_roundw
            case rel => exact ⟨m + 1, by omega, by go_num, below_call hBW hBW.size hg⟩
            case measure => simp [intOf]; omega
          · have hlti : ¬ (m : Int) + 1 < (a.length : Int) := by omega
            go_wp2_with fail
            go_ret
            exact ⟨rfl, hBo⟩
  · rw [decide_eq_false hsm] at hfew
    clear hsm
    unfold cfgv at *
    go_enter Try.func9, Try.ntmps9
    go_wp2_with (first
      | (go_at_call 26; (with_reducible refine (haw _).mono ?_); clear haw; rintro e w1 ⟨rfl, hb1⟩; have hB1 := below_call hB hB.size hb1; have b1 := bl_own hb1 b0; obtain ⟨c10, c11, c12, c13, c14⟩ := blk5 b1)
      | (go_at_call 12; (with_reducible refine (hfew _).mono ?_); clear hfew; rintro e w2 ⟨rfl, hb2⟩; have hB2 := below_call hB1 hB1.size hb2; have b2 := bl_own hb2 b1; obtain ⟨c20, c21, c22, c23, c24⟩ := blk5 b2))
    refine wp_region_gr (by kernel_rfl) (by kernel_rfl) ?_
    repeat (go_big_quiet_step (fail))
    refine wpQuiet_nil ?_
    rintro _ ⟨pq, rfl⟩
    have hg := gr_below w2 pq
    generalize gr w2 pq = w3 at hg ⊢
    go_wp2_with fail
    go_ret
    exact ⟨rfl, below_call hB2 hB2.size hg⟩
theorem sepochs12_walk (A : Option Addr) (c : Cfg) (k : Nat) (A2 : Option Addr) (l : List Blk) (k2 : Nat) (A3 : Option Addr) (v : List Lnk) (k3 : Nat) (w : World) (_ : c.W.length ≤ k) (_ : k ≤ maxLen) (hr : Rd 1 encI w A c.W) (_ : c.Ok) (_ : l.length ≤ k2) (_ : k2 ≤ maxLen) (hr2 : Rd 5 encBlk w A2 l) (hok : ∀ b ∈ l, b.Ok) (hk3 : v.length ≤ k3) (hk3m : k3 ≤ maxLen) (hr3 : Rd 7 encLnk w A3 v) (_ : ∀ b ∈ v, b.Ok) (hN : A3 = none → k3 = 0) :
    Calls Try.prog 9 #[cfgv A k c, .slice A2 l.length k2, .slice A3 v.length k3] w fun e w' => e = .returned (.bool true) ∧ Below w.heap.size w w' :=
  sepochs12_any c l v A A2 A3 k k2 k3 w hr hr2 hok hr3 hk3 hk3m hN
end Go.Proofs.Ytdocgemfedohdaa
