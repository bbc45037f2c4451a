/- GP: several texts in one. -/
import Derived.Test.YtaohkcdfjjiggaaGreatGM
import Derived.Test.YtaohkcdfjjiggaaGreatGB
import Derived.Deep.RegionHeld3
import Derived.Test.YtaohkcdfjjiggaaGreatGC
import Derived.Test.YtaohkcdfjjiggaaGreatGF
import Derived.Test.YtaohkcdfjjiggaaGreatGA
import Derived.Test.YtaohkcdfjjiggaaGreatGO
import Derived.Test.YtaohkcdfjjiggaaGreatGH
/-! The document's shuffle and committee, walked. -/
namespace Go.Proofs.YtaohkcdfjjiggaaGreat
open Go.RowKit
set_option maxRecDepth 100000 in
set_option maxHeartbeats 1600000 in
theorem rround_any (r : Nat) (seed n i : Int) (w : World) (hr : r < 10) (hn0 : 0 < n) (hn1 : n ≤ 1000) (hi0 : 0 ≤ i) (hi1 : i < n) :
    Calls Tryz.prog 115 #[.int .u64 seed, .int .i64 n, .int .i64 r, .int .i64 i] w fun e w' => e = .returned (.int .i64 (shufRound seed n r i)) ∧ w' = w := by
  have hne : ¬ n = 0 := by omega
  have hlo := Int.emod_nonneg (mixStep seed r) hne
  have hhi := Int.emod_lt_of_pos (mixStep seed r) hn0
  have ht0 : (mixStep seed r).tmod n = mixStep seed r % n := Int.tmod_eq_emod_of_nonneg (mixStep_nn seed r)
  have hwr : IntKind.u64.wrap (r : Int) = r := u64_id (by omega) (by omega)
  have hwn : IntKind.u64.wrap n = n := u64_id (by omega) (by omega)
  have hw3 : IntKind.u64.wrap (1000 + (r : Int)) = 1000 + r := u64_id (by omega) (by omega)
  have hw4 : wrap64 (1000 + (r : Int)) = 1000 + r := w64_id (by omega) (by omega)
  unfold shufRound
  dsimp only
  generalize mixStep seed r % n = pv at ht0 hlo hhi ⊢
  have hwm : wrap64 pv = pv := w64_id hlo (by omega)
  have h1 : wrap64 (pv + n) = pv + n := w64_id (by omega) (by omega)
  have h2 : wrap64 (pv + n - i) = pv + n - i := w64_id (by omega) (by omega)
  have h3 : (pv + n - i).tmod n = (pv + n - i) % n := Int.tmod_eq_emod_of_nonneg (by omega)
  have hm0 := Int.emod_nonneg (pv + n - i) hne
  have hm1 := Int.emod_lt_of_pos (pv + n - i) hn0
  obtain ⟨mate, hmate⟩ : ∃ m, (pv + n - i) % n = m := ⟨_, rfl⟩
  rw [hmate] at h3 hm0 hm1 ⊢
  have h4 : wrap64 mate = mate := w64_id hm0 (by omega)
  have h5 : IntKind.u64.wrap mate = mate := u64_id hm0 (by omega)
  have h6 : IntKind.u64.wrap i = i := u64_id hi0 (by omega)
  obtain ⟨hx, hhx⟩ : ∃ hx, mixStep (mixStep seed (1000 + r)) (if i < mate then mate else i) = hx := ⟨_, rfl⟩
  have hxn : 0 ≤ hx := by rw [← hhx]; exact mixStep_nn _ _
  have hx2 : hx.tmod 2 = hx % 2 := Int.tmod_eq_emod_of_nonneg hxn
  have hbit : hx % 2 = 1 ∨ hx % 2 = 0 := by omega
  rw [hhx]
  clear hlo hhi hm0 hm1 hxn hmate
  by_cases hlt : i < mate
  · rw [if_pos hlt] at hhx
    have hd : decide (mate > i) = true := by simpa using hlt
    clear hlt
    rcases hbit with hb | hb
    · rw [if_pos hb]
      rw [hb] at hx2
      clear hb
      go_enter Tryz.func115, Tryz.ntmps115
      go_wp2_with (go_at_call 81; refine (rstep_any _ _ _).mono ?_; rintro e w' ⟨rfl, rfl⟩)
      go_ret
      exact ⟨rfl, rfl⟩
    · rw [if_neg (by omega)]
      rw [hb] at hx2
      clear hb
      go_enter Tryz.func115, Tryz.ntmps115
      go_wp2_with (go_at_call 81; refine (rstep_any _ _ _).mono ?_; rintro e w' ⟨rfl, rfl⟩)
      go_ret
      exact ⟨rfl, rfl⟩
  · rw [if_neg hlt] at hhx
    have hd : decide (mate > i) = false := by simpa using hlt
    clear hlt
    rcases hbit with hb | hb
    · rw [if_pos hb]
      rw [hb] at hx2
      clear hb
      go_enter Tryz.func115, Tryz.ntmps115
      go_wp2_with (go_at_call 81; refine (rstep_any _ _ _).mono ?_; rintro e w' ⟨rfl, rfl⟩)
      go_ret
      exact ⟨rfl, rfl⟩
    · rw [if_neg (by omega)]
      rw [hb] at hx2
      clear hb
      go_enter Tryz.func115, Tryz.ntmps115
      go_wp2_with (go_at_call 81; refine (rstep_any _ _ _).mono ?_; rintro e w' ⟨rfl, rfl⟩)
      go_ret
      exact ⟨rfl, rfl⟩
set_option maxRecDepth 100000 in
set_option maxHeartbeats 1600000 in
theorem rsmay_any (n i : Int) (w : World) (hn0 : 0 < n) (hn1 : n ≤ 1000) (hi0 : 0 ≤ i) (hi1 : i < n) :
    Calls Tryz.prog 114 #[.int .i64 n, .int .i64 i] w fun e w' => e = .returned (.bool true) ∧ w' = w := by
  have e1 : decide (n ≥ 1) = true := by simp; omega
  have e2 : decide (n ≤ 1000) = true := by simpa using hn1
  have e3 : decide (i ≥ 0) = true := by simpa using hi0
  have e4 : decide (i < n) = true := by simpa using hi1
  clear hn0 hn1 hi0 hi1
  go_enter Tryz.func114, Tryz.ntmps114
  go_wp2
  go_ret
  exact ⟨rfl, rfl⟩
set_option maxRecDepth 100000 in
set_option maxHeartbeats 1600000 in
theorem rshat_any (seed n i : Int) (w : World) (hn0 : 0 < n) (hn1 : n ≤ 1000) (hi0 : 0 ≤ i) (hi1 : i < n) :
    Calls Tryz.prog 82 #[.int .u64 seed, .int .i64 n, .int .i64 i] w fun e w' => e = .returned (.int .i64 (shufAt seed n i)) ∧ w' = w := by
  go_enter Tryz.func82, Tryz.ntmps82
  go_wp2_with (go_at_call 114; refine (rsmay_any n i _ hn0 hn1 hi0 hi1).mono ?_; rintro e w' ⟨rfl, rfl⟩)
  go_loopw [2, 8] (fun x c wr => ∃ k : Nat, k ≤ 10 ∧ c = .int .i64 k ∧ x = .int .i64 (shufTo seed n k i) ∧ wr = w') (fun _ c _ => 10 - (intOf c).toNat)
  case atStart => exact ⟨0, by omega, rfl, rfl, rfl⟩
  case round =>
    obtain ⟨k, hk, rfl, rfl, rfl⟩ := hrel
    by_cases hlt : k < 10
    · have hb := shufTo_bd (seed := seed) hn0 hi0 hi1 k
      have ht := rround_any k seed n (shufTo seed n k i) wr hlt hn0 hn1 hb.1 hb.2
      go_wp2_with (go_at_call 115; refine ht.mono ?_; rintro e w' ⟨rfl, rfl⟩)
      go_roundw
      case rel => exact ⟨k + 1, hlt, by go_num, rfl, trivial⟩
      case measure => simp [intOf]; omega
    · obtain rfl : k = 10 := by omega
      go_wp2_with fail
      go_ret
      exact ⟨rfl, rfl⟩
theorem rslots_any (s : Int) (w : World) :
    Calls Tryz.prog 80 #[.int .i64 s] w fun e w' => e = .returned (.bool (decide (SlotOk s))) ∧ w' = w := by
  have e1 : decide (SlotOk s) = (decide (s ≥ 1) && decide (s ≤ 1048576)) := by
    rw [Bool.eq_iff_iff]
    simp only [Bool.and_eq_true, decide_eq_true_eq]
    exact Iff.rfl
  rw [e1]
  generalize hd1 : decide (s ≥ 1) = d1
  generalize hd2 : decide (s ≤ 1048576) = d2
  cases d1 <;>
  · go_enter Tryz.func80, Tryz.ntmps80
    go_wp2
    go_ret
    exact ⟨rfl, rfl⟩
end Go.Proofs.YtaohkcdfjjiggaaGreat
/-! The document's committee, walked. -/
namespace Go.Proofs.YtaohkcdfjjiggaaGreat
open Go.RowKit
set_option maxRecDepth 100000 in
set_option maxHeartbeats 4000000 in
theorem rcommittee_any (c : Cfg) (s : Int) (A : Option Addr) (k : Nat) (w : World) (hr : Rd 1 encI w A c.W) :
    Calls Tryz.prog 47 #[cfgv A k c, .int .i64 s] w fun e w' => ∃ v, e = .returned v ∧ Own w' w.heap.size 3 1 encI v (comC c s) ∧ Below w.heap.size w w' := by
  have hm := hr.1
  have hmay := fun W (hW : Below w.heap.size w W) => rcmay_any c A k W (hr.below hW)
  have hsl := rslots_any s
  have hW : ∃ W, w.alloc (.cells #[.slice A c.W.length k, .int .u64 c.seed, .int .i64 c.epoch, .int .i64 c.num, .int .i64 c.den] 25) = W := ⟨_, rfl⟩
  obtain ⟨W, hW⟩ := hW
  have hB : Below w.heap.size w W := by subst hW; exact (Below.refl _ w).alloc (Nat.le_refl _) _
  have b0 : ConfAt W w.heap.size A k c := by subst hW; exact ha_at rfl
  obtain ⟨c0, c1, c2, c3, c4⟩ := blk5 b0
  have hmay := hmay W hB
  have hun := Tryz.underlying22
  unfold comC
  by_cases hok : MayC c ∧ SlotOk s
  · rw [if_pos hok]
    have hd : decide (MayC c) = true := by simpa using hok.1
    have hd2 : decide (SlotOk s) = true := by simpa using hok.2
    rw [hd] at hmay
    rw [hd2] at hsl
    unfold cfgv at *
    have hlen := hok.1.len
    have hlen1 := hok.1.1.1
    have hep := hok.1.2
    have hso := hok.2
    unfold SlotOk at hso
    obtain ⟨q, hq⟩ : ∃ q, s / c.epoch = q := ⟨_, rfl⟩
    have htd : s.tdiv c.epoch = q := by rw [Int.tdiv_eq_ediv_of_nonneg (by omega)]; exact hq
    have hq0 : 0 ≤ q := by rw [← hq]; exact Int.ediv_nonneg (by omega) (by omega)
    have hq1 : q ≤ s := by rw [← hq]; exact Int.ediv_le_self _ (by omega)
    have hw1 : wrap64 q = q := w64_id hq0 (by omega)
    have hw2 : IntKind.u64.wrap q = q := u64_id hq0 (by omega)
    have hw3 : IntKind.i64.wrap q = q := by rw [IntKind.wrap_i64]; omega
    have hne : ¬ c.epoch = 0 := by omega
    have e2 : s.tmod c.epoch = s % c.epoch := Int.tmod_eq_emod_of_nonneg (by omega)
    have hq' := Lib.hid hq
    clear hok hd hd2 hq hep hso hq0 hq1
    go_enter Tryz.func47, Tryz.ntmps47
    go_wp2_with (first
      | (go_at_call 79; refine hmay.mono ?_; clear hmay; rintro e w1 ⟨rfl, hb1⟩; have hB1 := below_call hB hB.size hb1; have b0' := bl_own hb1 b0; obtain ⟨d0, d1, d2, d3, d4⟩ := blk5 b0')
      | (go_at_call 80; refine (hsl _).mono ?_; rintro e w2 ⟨rfl, rfl⟩))
    refine wp_region_still_lit (by kernel_rfl) (by kernel_rfl) ?_
    repeat (first | still_step | still_call (rstep_any _ _ _))
    refine wpStill_nil ?_
    change Exit.then _ _ _ _ w2.drew
    have hBd : Below w.heap.size w w2.drew := hB1.drew
    have bd : ConfAt w2.drew w.heap.size A k c := b0'
    clear hB1 b0' hb1 b0 hB hW d0 d1 d2 d3 d4 c0 c1 c2 c3 c4
    generalize w2.drew = V at hBd bd ⊢
    go_wp2_with fail
    go_loopw [8, 9] (fun x i wr => ∃ j : Nat, j ≤ c.W.length ∧ i = .int .i64 j ∧ Own wr V.heap.size 3 1 encI x (finI (those c.W.length (comP c s) j)) ∧ Below V.heap.size V wr) (fun _ i _ => c.W.length - (intOf i).toNat)
    case atStart => exact ⟨0, by omega, rfl, Own.nil _ _ _ _ _, Below.refl _ _⟩
    case round =>
      obtain ⟨j, hj, rfl, ho, hb⟩ := hrel
      have bj := bl_own hb bd
      obtain ⟨d0, d1, d2, d3, d4⟩ := blk5 bj
      have hsz := hb.size
      obtain ⟨A3, k3, hv3, hR3⟩ := ho.rd encI_len
      subst hv3
      by_cases hlt : j < c.W.length
      · have hbd := shufAt_bd (seed := mixStep c.seed q) (n := c.W.length) (i := j) (by omega) (by omega) (by omega)
        have hat := fun W => rshat_any (mixStep c.seed q) c.W.length j W (by omega) (by omega) (by omega) (by omega)
        have hcp : (shufAt (mixStep c.seed q) c.W.length j % c.epoch == s % c.epoch) = comP c s j := by
          unfold comP
          rw [hq'.out]
          rfl
        have hys := @those_yes c.W.length j (comP c s) hlt
        have hno := @those_no c.W.length j (comP c s)
        have hln := those_len c.W.length (comP c s) j
        obtain ⟨y, hy⟩ : ∃ y, shufAt (mixStep c.seed q) c.W.length j = y := ⟨_, rfl⟩
        rw [hy] at hbd hat hcp
        have e1 : y.tmod c.epoch = y % c.epoch := Int.tmod_eq_emod_of_nonneg hbd.1
        rw [← hcp] at hys hno
        clear hbd hy
        cases hcb : (y % c.epoch == s % c.epoch) with
        | true =>
          have hth := Lib.hid (hys hcb)
          rw [hcb] at hcp
          clear hys hno hcp
          go_wp2_with fail
          refine wp_region_still_lit (by kernel_rfl) (by kernel_rfl) ?_
          repeat (first | still_step | still_call (hat _))
          refine wpStill_nil ?_
          change Exit.then _ _ _ _ wr.drew
          have hoD : Own wr.drew V.heap.size 3 1 encI _ (finI (those c.W.length (comP c s) j)) := ho.below (Below.refl _ wr).drew
          have hbD : Below V.heap.size V wr.drew := hb.drew
          clear ho hb bj d0 d1 d2 d3 d4 hR3
          generalize wr.drew = D at hoD hbD ⊢
          clear hat
          have hlf : (finI (those c.W.length (comP c s) j)).length = (those c.W.length (comP c s) j).length := by simp [finI]
          have hs1 := hbD.size
          have hoA := hoD.below ((Below.refl _ D).alloc (Nat.le_refl _) (.cells #[.int .i64 (j : Int)] 3))
          go_wp2_with (at_builtin; refine wp_append1 rfl rfl hun infoInt rfl (by decide) encI_len encI_one rfl hoA (g := D.heap.size) (c := 1) rfl (y := (j : Int)) (ha_at rfl) rfl (by rw [hlf]; omega) (by rw [hlf]; unfold maxLen; omega) (by simp; omega) ?_; intro v6 w6 ho6 hg6 _)
          go_roundw
          case rel => exact ⟨j + 1, hlt, by go_num, by rw [hth.out]; simpa [finI] using ho6, (hbD.alloc hbD.size _).grown hg6 (by simp; omega) (fun k e => (hoA.base k e).1)⟩
          case measure => simp [intOf]; omega
        | false =>
          have hth := Lib.hid (hno hcb)
          rw [hcb] at hcp
          clear hys hno hcp
          go_wp2_with fail
          refine wp_region_still_lit (by kernel_rfl) (by kernel_rfl) ?_
          repeat (first | still_step | still_call (hat _))
          refine wpStill_nil ?_
          change Exit.then _ _ _ _ wr.drew
          have hoD : Own wr.drew V.heap.size 3 1 encI _ (finI (those c.W.length (comP c s) j)) := ho.below (Below.refl _ wr).drew
          have hbD : Below V.heap.size V wr.drew := hb.drew
          clear ho hb bj d0 d1 d2 d3 d4 hR3
          generalize wr.drew = D at hoD hbD ⊢
          clear hat
          go_wp2_with fail
          go_roundw
          case rel => exact ⟨j + 1, hlt, by go_num, by rw [hth.out]; exact hoD, hbD⟩
          case measure => simp [intOf]; omega
      · obtain rfl : j = c.W.length := by omega
        go_wp2_with fail
        go_ret
        exact ⟨_, rfl, ownsRow_base_a ho hBd.size, below_call hBd hBd.size hb⟩
  · rw [if_neg hok]
    unfold cfgv at *
    by_cases hM : MayC c
    · have hd : decide (MayC c) = true := by simpa using hM
      have hd2 : decide (SlotOk s) = false := by simpa using fun h => hok ⟨hM, h⟩
      rw [hd] at hmay
      rw [hd2] at hsl
      clear hok hM hd hd2
      go_enter Tryz.func47, Tryz.ntmps47
      go_wp2_with (first
        | (go_at_call 79; refine hmay.mono ?_; clear hmay; rintro e w1 ⟨rfl, hb1⟩; have hB1 := below_call hB hB.size hb1)
        | (go_at_call 80; refine (hsl _).mono ?_; rintro e w2 ⟨rfl, rfl⟩))
      go_ret
      exact ⟨_, rfl, Own.nil _ _ _ _ _, hB1⟩
    · have hd : decide (MayC c) = false := by simpa using hM
      rw [hd] at hmay
      clear hok hM hd
      go_enter Tryz.func47, Tryz.ntmps47
      go_wp2_with (first
        | (go_at_call 79; refine hmay.mono ?_; clear hmay; rintro e w1 ⟨rfl, hb1⟩; have hB1 := below_call hB hB.size hb1)
        | (go_at_call 80; refine (hsl _).mono ?_; rintro e w2 ⟨rfl, rfl⟩))
      go_ret
      exact ⟨_, rfl, Own.nil _ _ _ _ _, hB1⟩
end Go.Proofs.YtaohkcdfjjiggaaGreat
/-! The walks of marigoldref06.Kids, Chain and Under. -/
namespace Go.Proofs.YtaohkcdfjjiggaaGreat
open Go.RowKit
theorem own_new1 {α : Type} {k : Nat} {enc : α → List Value} {w : World} {base g : Nat} {T : TypeId} {x : α} {cs : Array Value} (h : w.heap[g]? = some (.cells cs T (0, 0))) (hk : ∀ x, (enc x).length = k) (hcs : cs = (enc x).toArray) (hb : base ≤ g) : Own w base T k enc (.slice (some ⟨g, 0, none⟩) 1 1) [x] := by
  subst hcs
  exact ⟨by simp [hk], .inr ⟨g, 1, _, rfl, hb, h, Nat.le_refl _, by unfold maxLen; omega, by simp [hk], by simp [← hk x]⟩⟩
end Go.Proofs.YtaohkcdfjjiggaaGreat
/-! The document's ghost, walked: the kids, by the names. -/
namespace Go.Proofs.YtaohkcdfjjiggaaGreat
open Go.RowKit
set_option maxRecDepth 100000 in
set_option maxHeartbeats 2000000 in
theorem rkidsin_any (l : List Blk) (id : ID) (A N : Option Addr) (c d : Nat) (w : World) (hr : Rd 5 encBlk w A l) (hR0 : Rd 2 encID w N (names l)) (hl : l.length ≤ 100000) :
    Calls Tryz.prog 117 #[.slice A l.length c, .slice N l.length d, idv id] w fun e w' => ∃ v, e = .returned v ∧ Own w' w.heap.size 35 2 encID v (kidsOf l id) ∧ Below w.heap.size w w' := by
  have hm := hr.1
  have hun := Tryz.underlying58
  have hnl : (names l).length = l.length := by simp [names]
  have hnat : ∀ j (h : j < l.length), (names l)[j]'(by rw [hnl]; exact h) = nameOf l[j] := fun j h => by simp [names]
  have hnat' := Lib.hid hnat
  clear hnat
  unfold idv at *
  have hW : ∃ W, w.alloc (.cells #[.int .u64 id.hi, .int .u64 id.lo] 35) = W := ⟨_, rfl⟩
  obtain ⟨W, hW⟩ := hW
  have hB0 : Below w.heap.size w W := by subst hW; exact (Below.refl _ w).alloc (Nat.le_refl _) _
  have b0 : W.heap[w.heap.size]? = some (.cells #[.int .u64 id.hi, .int .u64 id.lo] 35 (0, 0)) := by subst hW; exact ha_at rfl
  have hR2 := hR0.below hB0
  go_enter Tryz.func117, Tryz.ntmps117
  go_wp2_with fail
  go_loopw [7, 8] (fun v i wr => ∃ k : Nat, k ≤ l.length ∧ i = .int .i64 k ∧ Own wr W.heap.size 35 2 encID v (kidsOf (l.take k) id) ∧ Below W.heap.size W wr) (fun _ i _ => l.length - (intOf i).toNat)
  case atStart => exact ⟨0, Nat.zero_le _, rfl, Own.nil _ _ _ _ _, Below.refl _ _⟩
  case round =>
    obtain ⟨k, hkl, rfl, hown, hBr⟩ := hrel
    have hB := below_call hB0 hB0.size hBr
    obtain ⟨c0, c1, f0, f1⟩ := blk2 (bl_own hBr b0)
    by_cases hlt : k < l.length
    · obtain ⟨b', o, rfl, hbo, d0, d1, d2, d3, d4⟩ := (hr.below hB).atBlk hlt
      obtain ⟨b'', o'', rfl, hbo2, n0, n1⟩ := (hR2.below hBr).atID (i := k) (by omega)
      have hsn := kidsOf_snoc hlt id
      have hle := kidsOf_len (l.take k) id
      rw [hnat'.out k hlt] at n0 n1
      obtain ⟨b, hbk⟩ : ∃ b, l[k] = b := ⟨_, rfl⟩
      rw [hbk] at d0 d1 d2 d3 d4 hsn n0 n1
      clear hbk
      have heq := eql_id b.par id
      unfold idv at heq
      have hle2 : (l.take k).length ≤ l.length := by simp; omega
      have hle3 : (kidsOf (l.take k) id).length ≤ 100000 := by omega
      obtain ⟨nm, hnm⟩ : ∃ nm, nameOf b = nm := ⟨_, rfl⟩
      rw [hnm] at n0 n1 hsn
      clear hle hle2 hnm
      have hvb : ∀ k, u7.ownBlock = some k → W.heap.size ≤ k := fun k hk => (hown.base k hk).1
      by_cases hp : b.par = id
      · rw [decide_eq_true hp] at heq
        rw [if_pos hp] at hsn
        have hsn' := Lib.hid hsn
        clear hsn hp
        go_wp2_with fail
        go_quiet (fail)
        have hq := pw_below_drewN (Below.refl wr.heap.size wr) nq
        have n06 := (hq.cell (p := ⟨b'', _, none⟩) hbo2).trans n0
        have n16 := (hq.cell (p := ⟨b'', _, none⟩) hbo2).trans n1
        generalize wr.drewN nq = w6 at hq n06 n16 ⊢
        have hlay : Below w6.heap.size w6 (w6.alloc (.cells #[.int .u64 nm.hi, .int .u64 nm.lo] 35)) := (Below.refl _ w6).alloc (Nat.le_refl _) _
        have ho7 := (hown.below hq).below hlay
        have hB6 := below_call hBr hBr.size hq
        have hB7 := below_call hB6 hB6.size hlay
        go_wp2_with (at_builtin; refine wp_append1 rfl rfl hun infoID rfl (by decide) encID_len encID_one rfl ho7 (g := w6.heap.size) (c := 1) rfl (y := nm) (ha_at rfl) rfl (by omega) (by unfold maxLen; omega) hB7.size ?_; intro v' w8 ho8 hg8 hat8)
        go_roundw
        case rel => exact ⟨k + 1, hlt, by go_num, by rw [hsn'.out]; exact ho8, below_step hB7 hB7.size hg8 hvb⟩
        case measure => simp [intOf]; omega
      · rw [decide_eq_false hp] at heq
        rw [if_neg hp, List.append_nil] at hsn
        have hsn' := Lib.hid hsn
        clear hsn hp
        go_wp2_with fail
        go_quiet (fail)
        go_wp2
        go_roundw
        case rel => exact ⟨k + 1, hlt, by go_num, by rw [hsn'.out]; exact hown.below (pw_below_drewN (Below.refl _ _) _), pw_below_drewN hBr _⟩
        case measure => simp [intOf]; omega
    · obtain rfl : k = l.length := by omega
      rw [List.take_length] at hown
      go_wp2
      go_ret
      exact ⟨_, rfl, hown.mono hB0.size, hB⟩
end Go.Proofs.YtaohkcdfjjiggaaGreat
/-! The document's ghost, walked: the best of the kids. -/
namespace Go.Proofs.YtaohkcdfjjiggaaGreat
open Go.RowKit
/-- The best of some, and what is on it; none: zeros. -/
def bestZ (f : ID → Int) : List ID → Int × ID
  | [] => (0, zid)
  | k :: ks => (f (ks.foldl (pick f) k), ks.foldl (pick f) k)
theorem bestZ_snoc {f : ID → Int} {ks : List ID} {x : ID} : bestZ f (ks ++ [x]) = if ks = [] then (f x, x) else if (decide ((bestZ f ks).1 < f x) || decide (f x = (bestZ f ks).1) && idLess (bestZ f ks).2 x) = true then (f x, x) else bestZ f ks := by
  cases ks with
  | nil => simp [bestZ]
  | cons k ks =>
    rw [if_neg (by simp)]
    simp only [List.cons_append, bestZ, List.foldl_append, List.foldl_cons, List.foldl_nil]
    show (f (pick f (ks.foldl (pick f) k) x), pick f (ks.foldl (pick f) k) x) = if beats f (ks.foldl (pick f) k) x = true then (f x, x) else (f (ks.foldl (pick f) k), ks.foldl (pick f) k)
    unfold pick
    split <;> rfl
set_option maxRecDepth 100000 in
set_option maxHeartbeats 8000000 in
theorem rbestin_any (c : Cfg) (l : List Blk) (vs : List Vote) (id : ID) (A A2 A3 N : Option Addr) (k k2 k3 kn : Nat) (w : World) (ht : Tree l) (hr : Rd 1 encI w A c.W) (hr2 : Rd 5 encBlk w A2 l) (hn : Rd 2 encID w N (names l)) (hr3 : Rd 4 encVote w A3 vs) (hl : l.length ≤ 100000) (hvl : vs.length ≤ 100000) :
    Calls Tryz.prog 85 #[cfgv A k c, .slice A2 l.length k2, .slice N l.length kn, .slice A3 vs.length k3, idv id] w fun e w' => e = .returned (.tuple #[idv (bestZ (onC c l vs) (kidsOf l id)).2, .bool (decide (kidsOf l id ≠ []))]) ∧ Below w.heap.size w w' := by
  have hm := hr.1
  have hm2 := hr2.1
  have hm3 := hr3.1
  have hki := fun V (hV : Below w.heap.size w V) => rkidsin_any l id A2 N k2 kn V (hr2.below hV) (hn.below hV) hl
  have hon := Lib.hid (fun V (hV : Below w.heap.size w V) (x : ID) => ronin_any c l vs x A A2 A3 N k k2 k3 kn V ht (hr.below hV) (hr2.below hV) (hn.below hV) (hr3.below hV) hl hvl)
  have hless := fun x y V => rless_any x y V
  have hkl : (kidsOf l id).length ≤ 100000 := by have := kidsOf_len l id; omega
  obtain ⟨ks, hks⟩ : ∃ ks, kidsOf l id = ks := ⟨_, rfl⟩
  obtain ⟨f, hf⟩ : ∃ f, onC c l vs = f := ⟨_, rfl⟩
  rw [hks] at hki hkl ⊢
  rw [hf] at hon ⊢
  clear hks hf ht
  unfold cfgv idv at *
  have hW : ∃ W, ((w.alloc (.cells #[.slice A c.W.length k, .int .u64 c.seed, .int .i64 c.epoch, .int .i64 c.num, .int .i64 c.den] 25)).alloc (.cells #[.int .u64 id.hi, .int .u64 id.lo] 35)).alloc (.cells #[.int .u64 0, .int .u64 0] 35) = W := ⟨_, rfl⟩
  obtain ⟨W, hW⟩ := hW
  have hB : Below w.heap.size w W := by subst hW; exact (((Below.refl _ w).alloc (Nat.le_refl _) _).alloc (by simp) _).alloc (by simp <;> omega) _
  have b0 : W.heap[w.heap.size]? = some (.cells #[.slice A c.W.length k, .int .u64 c.seed, .int .i64 c.epoch, .int .i64 c.num, .int .i64 c.den] 25 (0, 0)) := by subst hW; exact ha_lt (ha_lt (ha_at rfl))
  have b1 : W.heap[w.heap.size + 1]? = some (.cells #[.int .u64 id.hi, .int .u64 id.lo] 35 (0, 0)) := by subst hW; exact ha_lt (ha_at (by simp))
  have b2 : W.heap[w.heap.size + 1 + 1]? = some (.cells #[.int .u64 0, .int .u64 0] 35 (0, 0)) := by subst hW; exact ha_at (by simp)
  obtain ⟨p1, p2, _, _⟩ := blk2 b1
  go_enter Tryz.func85, Tryz.ntmps85
  go_wp2_with (go_at_call 117; (with_reducible refine (hki _ hB).mono ?_); clear hki; rintro e w1 ⟨v, rfl, ho, hb1⟩; have hB1 := below_call hB hB.size hb1; obtain ⟨A4, k4, hv, hR⟩ := ho.rd encID_len; subst hv; have q0 := bl_own hb1 b0; have q2 := bl_own hb1 b2)
  have hl2 : Below w1.heap.size w1 (w1.alloc (.cells #[.int .u64 0, .int .u64 0] 35)) := (Below.refl _ w1).alloc (Nat.le_refl _) _
  have q3' : (w1.alloc (.cells #[.int .u64 0, .int .u64 0] 35)).heap[w1.heap.size]? = some (.cells #[.int .u64 0, .int .u64 0] 35 (0, 0)) := ha_at rfl
  generalize w1.alloc (.cells #[.int .u64 0, .int .u64 0] 35) = w2 at hl2 q3' ⊢
  clear hB hW b0 b1 b2 p1 p2 hb1 ho
  go_loopw [14, 15, 16, 17] (fun q i _v16 _v17 wr => ∃ j : Nat, j ≤ ks.length ∧ i = .int .i64 j ∧ q = .int .i64 (bestZ f (ks.take j)).1 ∧ wr.heap[w1.heap.size]? = some (.cells #[.int .u64 (bestZ f (ks.take j)).2.hi, .int .u64 (bestZ f (ks.take j)).2.lo] 35 (0, 0)) ∧ Below w1.heap.size w1 wr) (fun _ i _ _ _ => ks.length - (intOf i).toNat)
  case atStart => exact ⟨0, Nat.zero_le _, rfl, rfl, q3', hl2⟩
  case round =>
    obtain ⟨j, hj, rfl, rfl, hbk, hG⟩ := hrel
    have hBr := below_call hB1 hB1.size hG
    have u0 := bl_own hG q0
    have u2 := bl_own hG q2
    have hgb2 := lt_of_block hbk
    clear q3' hl2
    by_cases hlt : j < ks.length
    · obtain ⟨b2, o2, hAe, hbo2, e0, e1⟩ := (hR.below hG).atID hlt
      cases hAe
      have hsn := bestZ_snoc (f := f) (ks := ks.take j) (x := ks[j])
      rw [List.take_append_getElem hlt] at hsn
      have hj0 : (ks.take j = []) = (j = 0) := by
        rw [List.take_eq_nil_iff]
        apply propext
        constructor
        · rintro (h | h)
          · exact h
          · rw [h] at hlt; simp at hlt
        · exact fun h => .inl h
      obtain ⟨x, hx⟩ : ∃ x, ks[j] = x := ⟨_, rfl⟩
      rw [hx] at e0 e1 hsn
      simp only [hj0] at hsn
      clear hx hj0
      obtain ⟨bz, hbz⟩ : ∃ bz, bestZ f (ks.take j) = bz := ⟨_, rfl⟩
      rw [hbz] at hsn hbk ⊢
      obtain ⟨nb, bb⟩ := bz
      dsimp only at hsn hbk ⊢
      have honx := fun p => hon.out (gr wr p) (hBr.trans ((gr_below _ _).mono hBr.size)) x
      have hlessx := fun V => hless bb x V
      obtain ⟨n2, hn2⟩ : ∃ n2, f x = n2 := ⟨_, rfl⟩
      obtain ⟨ls, hls⟩ : ∃ ls, idLess bb x = ls := ⟨_, rfl⟩
      simp only [hn2] at honx
      rw [hn2, hls] at hsn
      simp only [hls] at hlessx
      have hsn' := Lib.hid hsn
      clear hn2 hls hbz hsn
      obtain ⟨c0, c1, c2, c3, c4⟩ := blk5 u0
      have y0 := gr_cell c0
      have y1 := gr_cell c1
      have y2 := gr_cell c2
      have y3 := gr_cell c3
      have y4 := gr_cell c4
      have y7 := gr_cell e0
      have y8 := gr_cell e1
      clear c0 c1 c2 c3 c4
      go_wp2_with fail
      refine wp_region_gr (by kernel_rfl) (by kernel_rfl) ?_
      repeat (go_big_quiet_step ((go_at_call 108; with_reducible exact Calls.gr_of (honx _))))
      refine wpQuiet_nil ?_
      rintro _ ⟨pq, rfl⟩
      have hq6 := gr_below wr pq
      have vk := bl_own hq6 hbk
      have f0 := y7 pq
      have f1 := y8 pq
      generalize gr wr pq = w6 at hq6 vk f0 f1 ⊢
      clear y0 y1 y2 y3 y4 y7 y8 honx e0 e1
      obtain ⟨r0, r1, _, _⟩ := blk2 vk
      have y0 := gr_cell r0
      have y1 := gr_cell r1
      have y2 := gr_cell f0
      have y3 := gr_cell f1
      have hG6 := below_call hG hG.size hq6
      go_wp2_with fail
      refine wp_region_gr (by kernel_rfl) (by kernel_rfl) ?_
      repeat (go_big_quiet_step ((go_at_call 118; with_reducible exact Calls.gr_of (hlessx _))))
      refine wpQuiet_nil ?_
      rintro _ ⟨pq2, rfl⟩
      have hq7 := gr_below w6 pq2
      have vk7 := bl_own hq7 vk
      have h0 := y2 pq2
      have h1 := y3 pq2
      generalize gr w6 pq2 = w7 at hq7 vk7 h0 h1 ⊢
      clear y0 y1 y2 y3 hlessx f0 f1 r0 r1
      have hG7 := below_call hG6 hG6.size hq7
      obtain ⟨s0, s1, g0, g1⟩ := blk2 vk7
      obtain ⟨kk1, kk2⟩ := set2 vk7 (.int .u64 x.hi) (.int .u64 x.lo)
      have hG8 := below_step hG7 hG7.size kk2 (fun k e => by cases e; exact Nat.le_refl _)
      clear hbk
      by_cases hz : j = 0
      · have hp := Lib.hid (hsn'.out.trans (if_pos hz))
        have hb0 : ((j : Int) == 0) = true := by subst hz; rfl
        clear hz hsn'
        go_wp2_with fail
        go_roundw
        case rel => exact ⟨j + 1, hlt, by go_num, by rw [hp.out], by rw [hp.out]; exact kk1, hG8⟩
        case measure => simp [intOf]; omega
      · have hp1 := Lib.hid (hsn'.out.trans (if_neg hz))
        have hb0 : ((j : Int) == 0) = false := by simp; omega
        clear hz hsn'
        cases hc1 : decide (nb < n2) with
        | true =>
          have hp := Lib.hid (hp1.out.trans (if_pos (by rw [hc1]; rfl)))
          have hc1' : decide (n2 > nb) = true := hc1
          clear hp1 hc1
          go_wp2_with fail
          go_roundw
          case rel => exact ⟨j + 1, hlt, by go_num, by rw [hp.out], by rw [hp.out]; exact kk1, hG8⟩
          case measure => simp [intOf]; omega
        | false =>
          have hc1' : decide (n2 > nb) = false := hc1
          cases hc2 : decide (n2 = nb) with
          | true =>
            have hc2' : (n2 == nb) = true := hc2
            cases ls with
            | true =>
              have hp := Lib.hid (hp1.out.trans (if_pos (by rw [hc1, hc2]; rfl)))
              clear hp1 hc1 hc2
              go_wp2_with fail
              go_roundw
              case rel => exact ⟨j + 1, hlt, by go_num, by rw [hp.out], by rw [hp.out]; exact kk1, hG8⟩
              case measure => simp [intOf]; omega
            | false =>
              have hp := Lib.hid (hp1.out.trans (if_neg (by rw [hc1, hc2]; simp)))
              clear hp1 hc1 hc2
              go_wp2_with fail
              go_roundw
              case rel => exact ⟨j + 1, hlt, by go_num, by rw [hp.out], by rw [hp.out]; exact vk7, hG7⟩
              case measure => simp [intOf]; omega
          | false =>
            have hc2' : (n2 == nb) = false := hc2
            have hp := Lib.hid (hp1.out.trans (if_neg (by rw [hc1, hc2]; simp)))
            clear hp1 hc1 hc2
            go_wp2_with fail
            go_roundw
            case rel => exact ⟨j + 1, hlt, by go_num, by rw [hp.out], by rw [hp.out]; exact vk7, hG7⟩
            case measure => simp [intOf]; omega
    · obtain rfl : j = ks.length := by omega
      rw [List.take_length] at hbk ⊢
      obtain ⟨s0, s1, g0, g1⟩ := blk2 hbk
      obtain ⟨t0, t1, t2, t3⟩ := blk2 u2
      obtain ⟨kk1, kk2⟩ := set2 u2 (.int .u64 (bestZ f ks).2.hi) (.int .u64 (bestZ f ks).2.lo)
      obtain ⟨m0, m1, _, _⟩ := blk2 kk1
      have hgt := Lib.hid (show decide (0 < ks.length) = decide (ks ≠ []) by cases ks <;> simp)
      go_wp2_with fail
      refine bodyPost_ret (v := .tuple #[.agg #[.int .u64 (bestZ f ks).2.hi, .int .u64 (bestZ f ks).2.lo], .bool (decide (0 < ks.length))]) ?_ rfl ⟨?_, ?_⟩
      · simp [results, Tryz.results85, go_sem, m0, m1]
      · rw [hgt.out]
      · exact below_step hBr hBr.size kk2 (fun k e => by cases e; omega)
end Go.Proofs.YtaohkcdfjjiggaaGreat
/-! The document's ghost, walked: the head. -/
namespace Go.Proofs.YtaohkcdfjjiggaaGreat
open Go.RowKit
set_option maxRecDepth 100000 in
set_option maxHeartbeats 4000000 in
theorem rghead_any (c : Cfg) (l : List Blk) (vs : List Vote) (A A2 A3 : Option Addr) (k k2 k3 : Nat) (w : World) (hok : ∀ b ∈ l, b.Ok) (hr : Rd 1 encI w A c.W) (hr2 : Rd 5 encBlk w A2 l) (hr3 : Rd 4 encVote w A3 vs) (hl : l.length ≤ 100000) (hvl : vs.length ≤ 100000) :
    Calls Tryz.prog 48 #[cfgv A k c, .slice A2 l.length k2, .slice A3 vs.length k3] w fun e w' => e = .returned (idv (headBy l (onC c l vs))) ∧ Below w.heap.size w w' := by
  have hm := hr.1
  have hm2 := hr2.1
  have hm3 := hr3.1
  have hnames := fun V (hV : Below w.heap.size w V) => rnames_any l A2 k2 V (hr2.below hV) hok hl
  have hmay := fun V (hV : Below w.heap.size w V) N d hn hd => rmayin_any l A2 N k2 d V (hr2.below hV) hn hd hl
  have hnl : (names l).length = l.length := by simp [names]
  unfold cfgv idv at *
  have hW : ∃ W, (w.alloc (.cells #[.slice A c.W.length k, .int .u64 c.seed, .int .i64 c.epoch, .int .i64 c.num, .int .i64 c.den] 25)).alloc (.cells #[.int .u64 0, .int .u64 0] 35) = W := ⟨_, rfl⟩
  obtain ⟨W, hW⟩ := hW
  have hB00 : Below w.heap.size w W := by subst hW; exact ((Below.refl _ w).alloc (Nat.le_refl _) _).alloc (by simp) _
  have b00 : W.heap[w.heap.size]? = some (.cells #[.slice A c.W.length k, .int .u64 c.seed, .int .i64 c.epoch, .int .i64 c.num, .int .i64 c.den] 25 (0, 0)) := by subst hW; exact ha_lt (ha_at rfl)
  have b01 : W.heap[w.heap.size + 1]? = some (.cells #[.int .u64 0, .int .u64 0] 35 (0, 0)) := by subst hW; exact ha_at (by simp)
  have hsz : W.heap.size = w.heap.size + 1 + 1 := by subst hW; simp
  have hl0 : Below W.heap.size W (W.alloc (.cells #[.int .u64 0, .int .u64 0] 35)) := (Below.refl _ W).alloc (Nat.le_refl _) _
  have b2 : (W.alloc (.cells #[.int .u64 0, .int .u64 0] 35)).heap[w.heap.size + 1 + 1]? = some (.cells #[.int .u64 0, .int .u64 0] 35 (0, 0)) := ha_at hsz.symm
  have b0 := bl_own hl0 b00
  have b1 := bl_own hl0 b01
  have hB := below_call hB00 hB00.size hl0
  clear b00 b01 hB00 hl0
  by_cases ht : Tree l
  · have hmb : mayB l = true := by simp [mayB, ht]
    rw [hmb] at hmay
    have hbe := fun (x : ID) V (hV : Below w.heap.size w V) N d (hN : Rd 2 encID V N (names l)) => rbestin_any c l vs x A A2 A3 N k k2 k3 d V ht (hr.below hV) (hr2.below hV) hN (hr3.below hV) hl hvl
    have hkk : ∀ x, kidsOf l x = kids l x := fun x => by simp [kids, ht]
    simp only [hkk] at hbe
    obtain ⟨f, hf⟩ : ∃ f, onC c l vs = f := ⟨_, rfl⟩
    rw [hf]
    simp only [hf] at hbe
    have hgo0 := Lib.hid (show headGo l f (l.length + 1 - 0) zid = headBy l f from headGo_more)
    have hbe' := Lib.hid hbe
    obtain ⟨r, hrr⟩ : ∃ r, headBy l f = r := ⟨_, rfl⟩
    rw [hrr] at hgo0 ⊢
    clear hrr hbe hkk hf hmb ht
    go_enter Tryz.func48, Tryz.ntmps48
    go_wp2_with (first
      | (go_at_call 83; refine (hnames _ hB).mono ?_; clear hnames; rintro e w1 ⟨v, rfl, ho, hb1⟩; have hB1 := below_call hB hB.size hb1; have q0 := bl_own hb1 b0; have q1 := bl_own hb1 b1; have q2 := bl_own hb1 b2; obtain ⟨N, d, hv, hd, hR⟩ := ho.rdc encID_len; rw [hnl] at hv hd; subst hv; have hA5 : ∀ a, N = some a → w.heap.size + 1 + 1 < a.block := (fun a e => (by have h1 := (ho.base a.block (by subst e; rfl)).1; have h2 := lt_of_block b2; omega)))
      | (go_at_call 84; refine (hmay _ hB1 N d hR hd).mono ?_; clear hmay; rintro e w2 ⟨rfl, hb2⟩; have hB2 := below_call hB1 hB1.size hb2; have s0 := bl_own hb2 q0; have s1 := bl_own hb2 q1; have s2 := bl_own hb2 q2; have hR2 := hR.below hb2))
    clear hb1 hb2 hB1 hR ho q0 q1 q2 b0 b1 b2 hB
    have hg2 := lt_of_block s2
    go_loopw [10, 11, 12, 28] (fun i _v11 _v12 _v28 wr => ∃ (j : Nat) (x : ID), j ≤ l.length + 1 ∧ i = .int .i64 j ∧ Hid (headGo l f (l.length + 1 - j) x = r) ∧ wr.heap[w.heap.size + 1 + 1]? = some (.cells #[.int .u64 x.hi, .int .u64 x.lo] 35 (0, 0)) ∧ w2.grownBy wr (some (w.heap.size + 1 + 1))) (fun i _ _ _ _ => l.length + 1 - (intOf i).toNat)
    case atStart => exact ⟨0, zid, Nat.zero_le _, rfl, hgo0, s2, grown_below (Below.refl _ _) _⟩
    case round =>
      obtain ⟨j, x, hj, rfl, hgo, hbx, hG⟩ := hrel
      have hBr := below_step hB2 hB2.size hG (fun k e => by cases e; omega)
      have y0 := grown_own hG s0 (fun e => by have := Option.some.inj e; omega)
      have y1 := grown_own hG s1 (fun e => by have := Option.some.inj e; omega)
      obtain ⟨x0, x1, g0, g1⟩ := blk2 hbx
      obtain ⟨c0, c1, c2, c3, c4⟩ := blk5 y0
      by_cases hlt : j ≤ l.length
      · have hbx2 := hbe'.out x wr hBr N d (hR2.grown hG (fun a e => by
          have h1 := hA5 a e
          intro h2
          have := Option.some.inj h2
          omega))
        unfold cfgv idv at hbx2
        cases hks : kids l x with
        | nil =>
          rw [hks] at hbx2
          have hfin := Lib.hid (show x = r by rw [← hgo.out, headGo_nil hks])
          clear hks
          have hb1 : (decide (([] : List ID) ≠ [])) = false := by simp
          rw [hb1] at hbx2
          clear hb1
          go_wp2_with (go_at_call 85; (with_reducible refine hbx2.mono ?_); clear hbx2; rintro e w3 ⟨rfl, hb3⟩; have hB3 := below_call hBr hBr.size hb3; have hl4 : Below w3.heap.size w3 (w3.alloc (.cells #[.int .u64 (bestZ f []).2.hi, .int .u64 (bestZ f []).2.lo] 35)) := (Below.refl _ w3).alloc (Nat.le_refl _) _; have hB4 := below_call hB3 hB3.size hl4; have z1 := bl_own hl4 (bl_own hb3 y1); have zx := bl_own hl4 (bl_own hb3 hbx); obtain ⟨m0, m1, m2, m3⟩ := blk2 z1; obtain ⟨m4, m5, m6, m7⟩ := blk2 zx)
          obtain ⟨k1, kk2⟩ := set2 z1 (.int .u64 x.hi) (.int .u64 x.lo)
          obtain ⟨n0, n1, _, _⟩ := blk2 k1
          refine bodyPost_ret (v := .agg #[.int .u64 x.hi, .int .u64 x.lo]) ?_ rfl ⟨?_, ?_⟩
          · simp [results, Tryz.results48, go_sem, n0, n1]
          · rw [hfin.out]
          · exact below_step hB4 hB4.size kk2 (fun k e => by cases e; omega)
        | cons k0 ks =>
          rw [hks] at hbx2
          have hstep := Lib.hid (show headGo l f (l.length + 1 - (j + 1)) (ks.foldl (pick f) k0) = r by
            rw [← hgo.out, show l.length + 1 - j = (l.length + 1 - (j + 1)) + 1 by omega, headGo_cons hks])
          clear hks
          have hb1 : (decide ((k0 :: ks) ≠ [])) = true := by simp
          rw [hb1] at hbx2
          have hbz : (bestZ f (k0 :: ks)).2 = ks.foldl (pick f) k0 := rfl
          rw [hbz] at hbx2
          obtain ⟨bb, hbb⟩ : ∃ bb, ks.foldl (pick f) k0 = bb := ⟨_, rfl⟩
          rw [hbb] at hbx2 hstep
          clear hb1 hbz hbb
          go_wp2_with (go_at_call 85; (with_reducible refine hbx2.mono ?_); clear hbx2; rintro e w3 ⟨rfl, hb3⟩; have hB3 := below_call hBr hBr.size hb3; have hl4 : Below w3.heap.size w3 (w3.alloc (.cells #[.int .u64 bb.hi, .int .u64 bb.lo] 35)) := (Below.refl _ w3).alloc (Nat.le_refl _) _; have hb4 := below_call hb3 hb3.size hl4; have zx := bl_own hb4 hbx; obtain ⟨m4, m5, m6, m7⟩ := blk2 zx; have zn := ha_at (w := w3) (o := .cells #[.int .u64 bb.hi, .int .u64 bb.lo] 35) (k := w3.heap.size) rfl; obtain ⟨m0, m1, _, _⟩ := blk2 zn)
          obtain ⟨k1, kk2⟩ := set2 zx (.int .u64 bb.hi) (.int .u64 bb.lo)
          go_roundw
          case rel => exact ⟨j + 1, bb, by omega, by go_num, hstep, k1, grown_trans (grown_trans hG (grown_below hb4 _)) kk2⟩
          case measure => simp [intOf]; omega
      · obtain rfl : j = l.length + 1 := by omega
        have hfin := Lib.hid (show x = r by rw [← hgo.out, Nat.sub_self]; rfl)
        obtain ⟨s2, s3, s4, s5⟩ := blk2 y1
        go_wp2_with fail
        obtain ⟨k1, kk2⟩ := set2 y1 (.int .u64 x.hi) (.int .u64 x.lo)
        obtain ⟨m0, m1, _, _⟩ := blk2 k1
        refine bodyPost_ret (v := .agg #[.int .u64 x.hi, .int .u64 x.lo]) ?_ rfl ⟨?_, ?_⟩
        · simp [results, Tryz.results48, go_sem, m0, m1]
        · rw [hfin.out]
        · exact below_step hBr hBr.size kk2 (fun k e => by cases e; omega)
  · have hmb : mayB l = false := by simp [mayB, ht]
    rw [hmb] at hmay
    have hhead : headBy l (onC c l vs) = zid := by
      unfold headBy
      exact headGo_nil (by simp [kids, ht]) _
    rw [hhead]
    clear hmb hhead ht
    go_enter Tryz.func48, Tryz.ntmps48
    go_wp2_with (first
      | (go_at_call 83; refine (hnames _ hB).mono ?_; clear hnames; rintro e w1 ⟨v, rfl, ho, hb1⟩; have hB1 := below_call hB hB.size hb1; obtain ⟨N, d, hv, hd, hR⟩ := ho.rdc encID_len; rw [hnl] at hv hd; subst hv)
      | (go_at_call 84; refine (hmay _ hB1 N d hR hd).mono ?_; clear hmay; rintro e w2 ⟨rfl, hb2⟩; have hB2 := below_call hB1 hB1.size hb2; have s1 := bl_own hb2 (bl_own hb1 b1); have s2 := bl_own hb2 (bl_own hb1 b2)))
    have hsz := lt_of_block s2
    go_loopw [10, 11, 12, 28] (fun i _v11 _v12 _v28 wr => i = .int .i64 0 ∧ wr = w2) (fun i _ _ _ _ => 0)
    case atStart => exact ⟨rfl, rfl⟩
    case round =>
      obtain ⟨rfl, rfl⟩ := hrel
      obtain ⟨x0, x1, x2, x3⟩ := blk2 s1
      obtain ⟨y0, y1, y2, y3⟩ := blk2 s2
      go_wp2_with fail
      obtain ⟨k1, kk2⟩ := set2 s1 (.int .u64 0) (.int .u64 0)
      obtain ⟨m0, m1, _, _⟩ := blk2 k1
      refine bodyPost_ret (v := .agg #[.int .u64 0, .int .u64 0]) ?_ rfl ⟨rfl, ?_⟩
      · simp [results, Tryz.results48, go_sem, m0, m1]
      · exact below_step hB2 hB2.size kk2 (fun k e => by cases e; omega)
end Go.Proofs.YtaohkcdfjjiggaaGreat
/-! The document's votes of a committee, walked. -/
namespace Go.Proofs.YtaohkcdfjjiggaaGreat
open Go.RowKit
set_option maxRecDepth 100000 in
set_option maxHeartbeats 2000000 in
theorem rgof_any (c : Cfg) (v : List Vote) (s : Int) (A Av : Option Addr) (k kv : Nat) (w : World) (hr : Rd 1 encI w A c.W) (hv : Rd 4 encVote w Av v) (hl : v.length ≤ 100000) :
    Calls Tryz.prog 20 #[cfgv A k c, .slice Av v.length kv, .int .i64 s] w fun e w' => ∃ u, e = .returned u ∧ Own w' w.heap.size 42 4 encVote u (goldOf c v s) ∧ Below w.heap.size w w' := by
  have hof := fun W (hW : Below w.heap.size w W) => rvof_any v s Av kv W (hv.below hW) hl
  have hcm := fun W (hW : Below w.heap.size w W) => rcommittee_any c s A k W (hr.below hW)
  have hun := Tryz.underlying27
  have hW : ∃ W, w.alloc (.cells #[.slice A c.W.length k, .int .u64 c.seed, .int .i64 c.epoch, .int .i64 c.num, .int .i64 c.den] 25) = W := ⟨_, rfl⟩
  obtain ⟨W, hW⟩ := hW
  have hB : Below w.heap.size w W := by subst hW; exact (Below.refl _ w).alloc (Nat.le_refl _) _
  have b0 : W.heap[w.heap.size]? = some (.cells #[.slice A c.W.length k, .int .u64 c.seed, .int .i64 c.epoch, .int .i64 c.num, .int .i64 c.den] 25 (0, 0)) := by subst hW; exact ha_at rfl
  have hgo : goldOf c v s = kept (comC c s) (ofL v s) := rfl
  rw [hgo]
  have hsh := ofL_short (s := s) hl
  generalize ofL v s = m at hof hsh hgo ⊢
  generalize comC c s = cm at hcm hgo ⊢
  clear hgo
  unfold cfgv at *
  go_enter Tryz.func20, Tryz.ntmps20
  go_wp2_with (first
    | (go_at_call 46; refine (hof _ hB).mono ?_; clear hof; rintro e w2 ⟨u, rfl, ho2, hb2⟩; have hB2 := below_call hB hB.size hb2; obtain ⟨A5, k5, hu, hR5⟩ := ho2.rd encVote_len; subst hu; obtain ⟨d0, d1, d2, d3, d4⟩ := blk5 (bl_own hb2 b0))
    | (go_at_call 47; refine (hcm _ hB2).mono ?_; clear hcm; rintro e w3 ⟨u3, rfl, ho3, hb3⟩; have hB3 := below_call hB2 hB2.size hb3; obtain ⟨A3, k3, hu3, hR3⟩ := ho3.rd encI_len; subst hu3; have hR53 := hR5.below hb3))
  go_loopw [7, 10, 11] (fun x i _ wr => ∃ j : Nat, j ≤ m.length ∧ i = .int .i64 j ∧ Own wr w3.heap.size 42 4 encVote x (kept cm (m.take j)) ∧ Below w3.heap.size w3 wr) (fun _ i _ _ => m.length - (intOf i).toNat)
  case atStart => exact ⟨0, by omega, rfl, Own.nil _ _ _ _ _, Below.refl _ _⟩
  case round =>
    obtain ⟨j, hj, rfl, ho, hb⟩ := hrel
    obtain ⟨A6, k6, hv6, _⟩ := ho.rd encVote_len
    subst hv6
    have hsz := hb.size
    by_cases hlt : j < m.length
    · obtain ⟨b, o, rfl, hbo, d0, d1, d2, d3⟩ := (hR53.below hb).atVote hlt
      have hha := rhas_any m[j].frm cm A3 k3 wr (hR3.below hb)
      have hls := Lib.hid (show kept cm (m.take (j + 1)) = kept cm (m.take j) ++ kept cm [m[j]] by rw [← List.take_append_getElem hlt]; exact List.filter_append _ _)
      have hkl : (kept cm (m.take j)).length ≤ j := Nat.le_trans (List.length_filter_le _ _) (by simp; omega)
      by_cases hk : m[j].frm ∈ cm
      · have hkk := Lib.hid (show kept cm [m[j]] = [m[j]] by simp [kept, hk])
        have hd : decide (m[j].frm ∈ cm) = true := by simpa using hk
        rw [hd] at hha
        clear hk hd
        have hoA := ho.below ((Below.refl _ wr).alloc (Nat.le_refl _) (.cells #[.int .i64 m[j].frm, .int .i64 m[j].slot, .int .u64 m[j].head.hi, .int .u64 m[j].head.lo] 42))
        go_wp2_with (first
          | (go_at_call 42; refine hha.mono ?_; clear hha; rintro e w4 ⟨rfl, rfl⟩)
          | (at_builtin; refine wp_append1 rfl rfl hun infoV rfl (by decide) encVote_len encVote_one rfl hoA (g := w4.heap.size) (c := 1) rfl (y := m[j]) (ha_at rfl) rfl (by omega) (by unfold maxLen; omega) (by simp; omega) ?_; intro v6 w6 ho6 hg6 _))
        go_roundw
        case rel => exact ⟨j + 1, hlt, by go_num, by rw [hls.out, hkk.out]; exact ho6, (hb.alloc hb.size _).grown hg6 (by simp; omega) (fun k e => (hoA.base k e).1)⟩
        case measure => simp [intOf]; omega
      · have hkk := Lib.hid (show kept cm (m.take (j + 1)) = kept cm (m.take j) by rw [hls.out]; simp [kept, hk])
        have hd : decide (m[j].frm ∈ cm) = false := by simpa using hk
        rw [hd] at hha
        clear hk hd
        go_wp2_with (go_at_call 42; refine hha.mono ?_; clear hha; rintro e w4 ⟨rfl, rfl⟩)
        go_roundw
        case rel => exact ⟨j + 1, hlt, by go_num, by rw [hkk.out]; exact ho, hb⟩
        case measure => simp [intOf]; omega
    · obtain rfl : j = m.length := by omega
      rw [List.take_length] at ho ⊢
      go_wp2_with fail
      go_ret
      exact ⟨_, rfl, ownsRow_base_a ho hB3.size, below_call hB3 hB3.size hb⟩
end Go.Proofs.YtaohkcdfjjiggaaGreat
/-! The document's head by a slot's votes, walked. -/
namespace Go.Proofs.YtaohkcdfjjiggaaGreat
open Go.RowKit
set_option maxRecDepth 100000 in
set_option maxHeartbeats 2000000 in
theorem rgohead_any (c : Cfg) (l : List Blk) (v : List Vote) (s : Int) (A A2 A3 : Option Addr) (k k2 k3 : Nat) (w : World) (hok : ∀ b ∈ l, b.Ok) (hr : Rd 1 encI w A c.W) (hr2 : Rd 5 encBlk w A2 l) (hr3 : Rd 4 encVote w A3 v) (hl : l.length ≤ 100000) (hvl : v.length ≤ 100000) :
    Calls Tryz.prog 22 #[cfgv A k c, .agg #[.slice A2 l.length k2, .slice A3 v.length k3], .int .i64 s] w fun e w' => e = .returned (idv (goldHead c l v s)) ∧ Below w.heap.size w w' := by
  have hof := fun W (hW : Below w.heap.size w W) => rgof_any c v s A A3 k k3 W (hr.below hW) (hr3.below hW) hvl
  have hgh := Lib.hid (fun W (hW : Below w.heap.size w W) (A4 : Option Addr) k4 (h4 : Rd 4 encVote W A4 (goldOf c v s)) => rghead_any c l (goldOf c v s) A A2 A4 k k2 k4 W hok (hr.below hW) (hr2.below hW) h4 hl (gold_len2 hvl))
  obtain ⟨r, hrr⟩ : ∃ r, goldHead c l v s = r := ⟨_, rfl⟩
  have hr' : headBy l (onC c l (goldOf c v s)) = r := hrr
  rw [hr'] at hgh
  rw [hrr]
  generalize goldOf c v s = m at hof hgh
  clear hr' hrr
  obtain ⟨W, hW⟩ : ∃ W, ((w.alloc (.cells #[.slice A c.W.length k, .int .u64 c.seed, .int .i64 c.epoch, .int .i64 c.num, .int .i64 c.den] 25)).alloc (.cells #[.slice A2 l.length k2, .slice A3 v.length k3] 29)).alloc (.cells #[.int .u64 0, .int .u64 0] 35) = W := ⟨_, rfl⟩
  have hB : Below w.heap.size w W := by subst hW; exact (((Below.refl _ w).alloc (Nat.le_refl _) _).alloc (by simp) _).alloc (by simp <;> omega) _
  have b0 : W.heap[w.heap.size]? = some (.cells #[.slice A c.W.length k, .int .u64 c.seed, .int .i64 c.epoch, .int .i64 c.num, .int .i64 c.den] 25 (0, 0)) := by subst hW; exact ha_lt (ha_lt (ha_at rfl))
  have b1 : W.heap[w.heap.size + 1]? = some (.cells #[.slice A2 l.length k2, .slice A3 v.length k3] 29 (0, 0)) := by subst hW; exact ha_lt (ha_at (by simp))
  have b2 : W.heap[w.heap.size + 1 + 1]? = some (.cells #[.int .u64 0, .int .u64 0] 35 (0, 0)) := by subst hW; exact ha_at (by simp)
  obtain ⟨c0, c1, c2, c3, c4⟩ := blk5 b0
  have c5 := blk_cell b1 0
  have c6 := blk_cell b1 1
  unfold cfgv idv at *
  go_enter Tryz.func22, Tryz.ntmps22
  go_wp2_with fail
  clear c0 c1 c2 c3 c4 c5 c6
  go_region_held3 (fun W' => W'.cell? ⟨w.heap.size, 0, none⟩ = some (.slice A c.W.length k) ∧ W'.cell? ⟨w.heap.size, 1, none⟩ = some (.int .u64 c.seed) ∧ W'.cell? ⟨w.heap.size, 2, none⟩ = some (.int .i64 c.epoch) ∧ W'.cell? ⟨w.heap.size, 3, none⟩ = some (.int .i64 c.num) ∧ W'.cell? ⟨w.heap.size, 4, none⟩ = some (.int .i64 c.den) ∧ W'.cell? ⟨w.heap.size + 1, 0, none⟩ = some (.slice A2 l.length k2) ∧ W'.cell? ⟨w.heap.size + 1, 1, none⟩ = some (.slice A3 v.length k3))
    (first | exact cv7 b0 b1 | exact cv7 d0 d1 | exact cv7 e0 e1 | exact cv7 s0 s1) ((first
      | (go_at_call 20; (with_reducible refine (hof _ hB.drew).mono ?_); clear hof; rintro e w2 ⟨u, rfl, ho, hb2⟩; obtain ⟨A4, k4, hv4, hR4⟩ := ho.rd encVote_len; subst hv4; have hB2 := hb2; have hQ2 : Below W.heap.size W w2 := ⟨hb2.os, hb2.tape, hb2.output, hb2.size, hb2.block⟩; have hB3 := below_call hB hB.size hQ2; have d0 := bl_own hQ2 b0; have d1 := bl_own hQ2 b1; have d2 := bl_own hQ2 b2)
      | (go_at_call 48; (with_reducible refine (hgh.out w2 hB3 A4 k4 hR4).mono ?_); rintro e w3 ⟨rfl, hb3⟩; have hB4 := below_call hB3 hB3.size hb3; have e0 := bl_own hb3 d0; have e1 := bl_own hb3 d1; have e2 := bl_own hb3 d2; obtain ⟨z0, z1, y0, y1⟩ := blk2 e2; obtain ⟨kk1, kk2⟩ := set2 e2 (.int .u64 r.hi) (.int .u64 r.lo); have s0 := grown_own kk2 e0 (fun e => (by have := Option.some.inj e; omega)); have s1 := grown_own kk2 e1 (fun e => (by have := Option.some.inj e; omega)))))
  obtain ⟨m0, m1, _, _⟩ := blk2 kk1
  go_wp2_with fail
  refine bodyPost_ret (v := .agg #[.int .u64 r.hi, .int .u64 r.lo]) ?_ rfl ⟨rfl, ?_⟩
  · simp [results, Tryz.results22, go_sem, m0, m1]
  · exact below_step hB4 hB4.size kk2 (fun k e => by cases e; omega)
end Go.Proofs.YtaohkcdfjjiggaaGreat
