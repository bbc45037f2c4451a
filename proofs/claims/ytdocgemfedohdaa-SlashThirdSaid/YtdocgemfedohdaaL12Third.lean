/- SlashThird, walked. -/
import Derived.Test.YtdocgemfedohdaaHD
import Derived.Test.YtdocgemfedohdaaHF
import Derived.Test.YtdocgemfedohdaaHI
import Derived.Test.YtdocgemfedohdaaHN
import Derived.IntWalk
namespace Go.Proofs.Ytdocgemfedohdaa
open Go.RowKit
theorem third_at {c : Cfg} {l : List Blk} {v : List Lnk} (i j : Nat) (x y : Chk) (hx : (finalL c l v)[i]? = some x) (hy : (finalL c l v)[j]? = some y) (h1 : undB l x.root y.root = false) (h2 : undB l y.root x.root = false) : Third c v := by
  obtain ⟨hi, rfl⟩ := List.getElem?_eq_some_iff.1 hx
  obtain ⟨hj, rfl⟩ := List.getElem?_eq_some_iff.1 hy
  exact slash_third (List.getElem_mem hi) (List.getElem_mem hj) (of_decide_eq_false h1) (of_decide_eq_false h2)
set_option maxRecDepth 100000 in
set_option maxHeartbeats 8000000 in
theorem third12_any (c : Cfg) (l : List Blk) (v : List Lnk) (A A2 A3 : Option Addr) (k k2 k3 : Nat) (w : World) (hr : Rd 1 encI w A c.W) (hr2 : Rd 5 encBlk w A2 l) (_ : ∀ b ∈ l, b.Ok) (hr3 : Rd 7 encLnk w A3 v) (hk3 : v.length ≤ k3) (hk3m : k3 ≤ maxLen) (_ : A3 = none → k3 = 0) :
    Calls Try.prog 10 #[cfgv A k c, .slice A2 l.length k2, .slice A3 v.length k3] w fun e w' => e = .returned (.bool true) ∧ Below w.heap.size w w' := by
  have hm := hr.1
  have hm2 := hr2.1
  have hm3 := hr3.1
  have haw := fun V => awake_any V
  have hfew := fun V => few11_any c l.length v.length A A2 A3 k k2 k3 V hm hm2 hm3
  obtain ⟨W, hW⟩ : ∃ W, w.alloc (.cells #[.slice A c.W.length k, .int .u64 c.seed, .int .i64 c.epoch, .int .i64 c.num, .int .i64 c.den] 25) = W := ⟨_, rfl⟩
  have hB : Below w.heap.size w W := by subst hW; exact (Below.refl _ w).alloc (Nat.le_refl _) _
  have b0 : W.heap[w.heap.size]? = some (.cells #[.slice A c.W.length k, .int .u64 c.seed, .int .i64 c.epoch, .int .i64 c.num, .int .i64 c.den] 25 (0, 0)) := by subst hW; exact ha_at rfl
  by_cases hsm : c.W.length ≤ 40 ∧ l.length ≤ 20 ∧ v.length ≤ 40
  · rw [decide_eq_true hsm] at hfew
    obtain ⟨_, hs2, hs3⟩ := hsm
    have hfi := fun V (hV : Below w.heap.size w V) => ffinal_any c l v A A2 A3 k k2 k3 V (hr.below hV) (hr2.below hV) (by omega) (hr3.below hV) (by omega)
    have hgu := fun V (hV : Below w.heap.size w V) => guilty_any v A3 k3 V (hr3.below hV) hk3 hk3m (by omega)
    have hgl := guiltyL_len v
    have hun := fun x y V (hV : Below w.heap.size w V) => undB_any l x y A2 k2 V (hr2.below hV) (by omega)
    have hwt := fun V (hV : Below w.heap.size w V) A4 k4 h4 => dweight_any c (guiltyL v) A A4 k k4 V (hr.below hV) h4
    have htt := fun V (hV : Below w.heap.size w V) => dtotal_any c A k V (hr.below hV)
    have hbw := weightC_bd c (guiltyL v)
    have hth := third_at (c := c) (l := l) (v := v)
    unfold Third at hth
    have hfl := finalL_len c l v
    generalize finalL c l v = f at hfi hth hfl
    generalize guiltyL v = gs at *
    have hth' := Lib.hid hth
    clear hth
    obtain ⟨q, hq⟩ : ∃ q, weightC c gs = q := ⟨_, rfl⟩
    obtain ⟨r, hrr⟩ : ∃ r, totalC c = r := ⟨_, rfl⟩
    rw [hq] at hwt hbw hth'
    rw [hrr] at htt hth'
    clear hq hrr
    have hw3 : IntKind.i64.wrap (3 * q) = 3 * q := Go.IntWalk.i64_in _ (by omega)
    have hw3' := Lib.hid hw3
    clear hw3 hbw
    unfold cfgv at *
    unfold idv at hun
    go_enter Try.func10, Try.ntmps10
    go_wp2_with (first
      | (go_at_call 26; (with_reducible refine (haw _).mono ?_); clear haw; rintro e w1 ⟨rfl, hb1⟩; have hB1 := below_call hB hB.size hb1; have b1 := bl_own hb1 b0; obtain ⟨c10, c11, c12, c13, c14⟩ := blk5 b1)
      | (go_at_call 12; (with_reducible refine (hfew _).mono ?_); clear hfew; rintro e w2 ⟨rfl, hb2⟩; have hB2 := below_call hB1 hB1.size hb2; have b2 := bl_own hb2 b1; obtain ⟨c20, c21, c22, c23, c24⟩ := blk5 b2)
      | (go_at_call 18; (with_reducible refine (hfi _ hB2).mono ?_); clear hfi; rintro e w3 ⟨u3, rfl, ho3, hb3⟩; have hB3 := below_call hB2 hB2.size hb3; obtain ⟨Af, kf, rfl, hRf⟩ := ho3.rd encChk_len; have b3 := bl_own hb3 b2; obtain ⟨c30, c31, c32, c33, c34⟩ := blk5 b3))
    have kD : Below w3.heap.size w3 w3.drew := (Below.refl _ w3).drew
    have hw3 := hw3'.out
    go_region_held3 (fun W' => (W'.cell? ⟨w.heap.size, 0, none⟩ = some (.slice A c.W.length k) ∧ W'.cell? ⟨w.heap.size, 1, none⟩ = some (.int .u64 c.seed) ∧ W'.cell? ⟨w.heap.size, 2, none⟩ = some (.int .i64 c.epoch) ∧ W'.cell? ⟨w.heap.size, 3, none⟩ = some (.int .i64 c.num) ∧ W'.cell? ⟨w.heap.size, 4, none⟩ = some (.int .i64 c.den))) (first | exact blk5 (bl_own kD b3) | exact blk5 (bl_own kG b3) | exact blk5 (bl_own kW b3) | exact blk5 b3)
      ((first
        | (go_at_call 27; (with_reducible refine (hgu _ (below_call hB3 hB3.size kD)).mono ?_); clear hgu; rintro e w4 ⟨u4, rfl, ho4, hb4⟩; have kG := below_call kD kD.size hb4; obtain ⟨Ag, kg, rfl, hRg⟩ := ho4.rd encI_len)
        | (go_at_call 24; (with_reducible refine (hwt _ (below_call hB3 hB3.size kG) _ _ hRg).mono ?_); clear hwt; rintro e w5 ⟨rfl, hb5⟩; have kW := below_call kG kG.size hb5)))
    clear hw3
    go_wp2_with fail
    have hB5 := below_call hB3 hB3.size kW
    have b5 := bl_own kW b3
    have hRf := hRf.below kW
    clear kD kG kW hb1 hb2 hb3 hb4 hb5 hB hB1 hB2 hB3 b0 b1 b2 b3 hW c10 c11 c12 c13 c14 c20 c21 c22 c23 c24 c30 c31 c32 c33 c34 ho3 ho4 hRg
    go_loopw [11, 12] (fun u11 _ wr => ∃ i : Nat, i ≤ f.length ∧ u11 = .int .i64 i ∧ Below w5.heap.size w5 wr) (fun u11 _ _ => f.length - (intOf u11).toNat)
    case atStart => exact ⟨0, Nat.zero_le _, rfl, Below.refl _ _⟩
    case round =>
      obtain ⟨i, hi, rfl, hBW⟩ := hrel
      rename World => wo
      have hBo := below_call hB5 hB5.size hBW
      by_cases hlt : i < f.length
      · have hCx := fun V (hV : Below w5.heap.size w5 V) => (hRf.below hV).atChk hlt
        have hgx := List.getElem?_eq_getElem hlt
        obtain ⟨x, hx⟩ : ∃ y, f[i] = y := ⟨_, rfl⟩
        rw [hx] at hgx
        simp only [hx] at hCx
        clear hx
        have hth2 := Lib.hid (fun j y (hy : f[j]? = some y) h1 h2 => hth'.out i j x y hgx hy h1 h2)
        have hCx := Lib.hid hCx
        clear hgx
        obtain ⟨b, o, he, _⟩ := hCx.out w5 (Below.refl _ _)
        subst he
        go_wp2_with fail
        go_loopw [12] (fun u12 wr => ∃ kk : Nat, kk ≤ i ∧ u12 = .int .i64 kk ∧ Below wo.heap.size wo wr) (fun u12 _ => i - (intOf u12).toNat)
        case atStart => exact ⟨0, Nat.zero_le _, rfl, Below.refl _ _⟩
        case round =>
          obtain ⟨kk, hkk, rfl, hBX⟩ := hrel
          have hBX3 := below_call hBW hBW.size hBX
          have hBr := below_call hB5 hB5.size hBX3
          by_cases hlk : kk < i
          · have hlka : kk < f.length := by omega
            have hth3 := hth2.out kk _ (List.getElem?_eq_getElem hlka)
            obtain ⟨bz, oz, hez, _, d0, d1, d2⟩ := (hRf.below hBX3).atChk hlka
            cases hez
            obtain ⟨z, hz⟩ : ∃ z, f[kk] = z := ⟨_, rfl⟩
            rw [hz] at d0 d1 d2 hth3
            clear hz
            obtain ⟨bx, ox, hex, _, f0, f1, f2⟩ := hCx.out wr hBX3
            cases hex
            obtain ⟨c0, c1, c2, c3, c4⟩ := blk5 (bl_own hBX3 b5)
            have yc0 := gr_cell c0
            have yc1 := gr_cell c1
            have yc2 := gr_cell c2
            have yc3 := gr_cell c3
            have yc4 := gr_cell c4
            have yd1 := gr_cell d1
            have yd2 := gr_cell d2
            have yf1 := gr_cell f1
            have yf2 := gr_cell f2
            have hu1 := fun p => hun x.root z.root (gr wr p) (below_call hBr hBr.size (gr_below wr p))
            have hu2 := fun p => hun z.root x.root (gr wr p) (below_call hBr hBr.size (gr_below wr p))
            have ht1 := fun p => htt (gr wr p) (below_call hBr hBr.size (gr_below wr p))
            obtain ⟨u1, hq1⟩ : ∃ u, undB l x.root z.root = u := ⟨_, rfl⟩
            obtain ⟨u2, hq2⟩ : ∃ u, undB l z.root x.root = u := ⟨_, rfl⟩
            rw [hq1] at hu1 hth3
            rw [hq2] at hu2 hth3
            clear hq1 hq2
            have i1 : (kk : Int) < (f.length : Int) := by omega
            have i2 : (i : Int) < (f.length : Int) := by omega
            have hth4 := Lib.hid hth3
            clear hth3
            cases u1
            · cases u2
              · have e1 : decide (3 * q < r) = false := decide_eq_false (by have := hth4.out rfl rfl; omega)
                go_wp2_with fail
                refine wp_region_gr (by kernel_rfl) (by kernel_rfl) ?_
                repeat (go_big_quiet_step ((first | (go_at_call 23; with_reducible exact Calls.gr_of (hu1 _)) | (go_at_call 23; with_reducible exact Calls.gr_of (hu2 _)) | (go_at_call 25; with_reducible exact Calls.gr_of (ht1 _)))))
                refine wpQuiet_nil ?_
                rintro _ ⟨pq, rfl⟩
                have hg := gr_below wr pq
                generalize gr wr pq = w6 at hg ⊢
                clear yc0 yc1 yc2 yc3 yc4 yd1 yf1 yd2 yf2 hu1 hu2 ht1
                go_wp2_with fail
                go_roundw
                case rel => exact ⟨kk + 1, by omega, by go_num, below_call hBX hBX.size hg⟩
                case measure => simp [intOf]; omega
              · go_wp2_with fail
                refine wp_region_gr (by kernel_rfl) (by kernel_rfl) ?_
                repeat (go_big_quiet_step ((first | (go_at_call 23; with_reducible exact Calls.gr_of (hu1 _)) | (go_at_call 23; with_reducible exact Calls.gr_of (hu2 _)) | (go_at_call 25; with_reducible exact Calls.gr_of (ht1 _)))))
                refine wpQuiet_nil ?_
                rintro _ ⟨pq, rfl⟩
                have hg := gr_below wr pq
                generalize gr wr pq = w6 at hg ⊢
                clear yc0 yc1 yc2 yc3 yc4 yd1 yf1 yd2 yf2 hu1 hu2 ht1
                go_wp2_with fail
                go_roundw
                case rel => exact ⟨kk + 1, by omega, by go_num, below_call hBX hBX.size hg⟩
                case measure => simp [intOf]; omega
            · go_wp2_with fail
              refine wp_region_gr (by kernel_rfl) (by kernel_rfl) ?_
              repeat (go_big_quiet_step ((first | (go_at_call 23; with_reducible exact Calls.gr_of (hu1 _)) | (go_at_call 23; with_reducible exact Calls.gr_of (hu2 _)) | (go_at_call 25; with_reducible exact Calls.gr_of (ht1 _)))))
              refine wpQuiet_nil ?_
              rintro _ ⟨pq, rfl⟩
              have hg := gr_below wr pq
              generalize gr wr pq = w6 at hg ⊢
              clear yc0 yc1 yc2 yc3 yc4 yd1 yf1 yd2 yf2 hu1 hu2 ht1
              go_wp2_with fail
              go_roundw
              case rel => exact ⟨kk + 1, by omega, by go_num, below_call hBX hBX.size hg⟩
              case measure => simp [intOf]; omega
          · obtain rfl : kk = i := by omega
            go_wp2_with fail
            go_roundw
            case rel => exact ⟨kk + 1, hlt, by go_num, below_call hBW hBW.size hBX⟩
            case measure => simp [intOf]; omega
      · obtain rfl : i = f.length := by omega
        go_wp2_with fail
        go_ret
        exact ⟨rfl, hBo⟩
  · rw [decide_eq_false hsm] at hfew
    clear hsm
    unfold cfgv at *
    go_enter Try.func10, Try.ntmps10
    go_wp2_with (first
      | (go_at_call 26; (with_reducible refine (haw _).mono ?_); clear haw; rintro e w1 ⟨rfl, hb1⟩; have hB1 := below_call hB hB.size hb1; have b1 := bl_own hb1 b0; obtain ⟨c10, c11, c12, c13, c14⟩ := blk5 b1)
      | (go_at_call 12; (with_reducible refine (hfew _).mono ?_); clear hfew; rintro e w2 ⟨rfl, hb2⟩; have hB2 := below_call hB1 hB1.size hb2; have b2 := bl_own hb2 b1; obtain ⟨c20, c21, c22, c23, c24⟩ := blk5 b2))
    go_ret
    exact ⟨rfl, hB2⟩
theorem third12_walk (A : Option Addr) (c : Cfg) (k : Nat) (A2 : Option Addr) (l : List Blk) (k2 : Nat) (A3 : Option Addr) (v : List Lnk) (k3 : Nat) (w : World) (_ : c.W.length ≤ k) (_ : k ≤ maxLen) (hr : Rd 1 encI w A c.W) (_ : c.Ok) (_ : l.length ≤ k2) (_ : k2 ≤ maxLen) (hr2 : Rd 5 encBlk w A2 l) (hok : ∀ b ∈ l, b.Ok) (hk3 : v.length ≤ k3) (hk3m : k3 ≤ maxLen) (hr3 : Rd 7 encLnk w A3 v) (_ : ∀ b ∈ v, b.Ok) (hN : A3 = none → k3 = 0) :
    Calls Try.prog 10 #[cfgv A k c, .slice A2 l.length k2, .slice A3 v.length k3] w fun e w' => e = .returned (.bool true) ∧ Below w.heap.size w w' :=
  third12_any c l v A A2 A3 k k2 k3 w hr hr2 hok hr3 hk3 hk3m hN
end Go.Proofs.Ytdocgemfedohdaa
