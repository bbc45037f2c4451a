/- marigoldref10.Anew, walked. -/
import Derived.Test.YtionkkjdaghakaaArrM
import Derived.Test.YtionkkjdaghakaaArrN
import Derived.StillTailTactics
namespace Go.Proofs.Ytionkkjdaghakaa
open Go.RowKit
theorem Own.setG {w : World} {base : Nat} {e : TypeId} {g n cap : Nat} {b : List Item} {i : Nat} {X : Item} (h : Own w base e 7 encItem (.slice (some ⟨g, 0, none⟩) n cap) (b.set i X)) (hi : i < b.length) (j : Nat) (hj : j < 7) (u : Value) (Y : Item) (hY : encItem Y = (encItem X).set j u) :
    Own (w.setCell ⟨g, i * 7 + j, none⟩ u) base e 7 encItem (.slice (some ⟨g, 0, none⟩) n cap) (b.set i Y) := by
  have := h.setF (i := i) (by simpa using hi) j hj u Y (by rw [itm_set _ _ _ _ hi, if_pos rfl]; exact hY)
  simpa [List.set_set] using this
/-- The item i of a stage. -/
def stIt (b : List Item) (i : Nat) (s m h : Int) : Item := { itm b i with w := s, best := m, head := h }
theorem stage_low {b : List Item} (hp : ParOk b) {i : Nat} (hi : i < b.length) : stage b i (i + 1) = b.set i (stIt b i (itm b i).own (-1) i) := by
  obtain ⟨h1, h2⟩ := low_sum hp (i := i) (k := i + 1) (Nat.le_refl _) (by omega)
  unfold stage stIt
  rw [h1, h2, if_pos rfl, Int.add_zero]
theorem stage_skip {b : List Item} {i k : Nat} (h : (itm b k).par ≠ i) : stage b i (k + 1) = stage b i k := by
  unfold stage
  rw [show wsum b i (k + 1) = wsum b i k by show wsum b i k + (if (itm b k).par = i then (itm b k).w else 0) = _; rw [if_neg h, Int.add_zero], show bestTo b i (k + 1) = bestTo b i k from if_neg (fun h2 => h h2.1)]
theorem wsum_kid {b : List Item} {i k : Nat} (h : (itm b k).par = i) : wsum b i (k + 1) = wsum b i k + (itm b k).w := by
  show wsum b i k + (if (itm b k).par = i then (itm b k).w else 0) = _
  rw [if_pos h]
theorem stage_new {b : List Item} {i k : Nat} (h : (itm b k).par = i) (h2 : bestTo b i k = -1 ∨ better (itm b k) (itm b (bestTo b i k).toNat) = true) : stage b i (k + 1) = b.set i (stIt b i ((itm b i).own + wsum b i k + (itm b k).w) k (itm b k).head) := by
  unfold stage stIt
  rw [wsum_kid h, show bestTo b i (k + 1) = k from if_pos ⟨h, h2⟩, if_neg (by omega), ← Int.add_assoc]
  simp only [Int.toNat_natCast]
theorem stage_old {b : List Item} {i k j : Nat} (h : (itm b k).par = i) (hj : bestTo b i k = j) (h2 : ¬ better (itm b k) (itm b j) = true) : stage b i (k + 1) = b.set i (stIt b i ((itm b i).own + wsum b i k + (itm b k).w) j (itm b j).head) := by
  have e : bestTo b i (k + 1) = j := by
    show (if (itm b k).par = i ∧ (bestTo b i k = -1 ∨ better (itm b k) (itm b (bestTo b i k).toNat) = true) then (k : Int) else bestTo b i k) = j
    rw [hj, if_neg]
    rintro ⟨_, h3 | h3⟩
    · omega
    · simp only [Int.toNat_natCast] at h3; exact h2 h3
  unfold stage stIt
  rw [wsum_kid h, e, if_neg (by omega), ← Int.add_assoc]
  simp only [Int.toNat_natCast]
theorem stage_is (b : List Item) (i k : Nat) : stage b i k = b.set i (stIt b i ((itm b i).own + wsum b i k) (bestTo b i k) (if bestTo b i k = -1 then (i : Int) else (itm b (bestTo b i k).toNat).head)) := rfl
set_option maxRecDepth 100000 in
set_option maxHeartbeats 2000000 in
theorem anew_any (a : List Item) (hl : a.length ≤ 100) (hp : ParOk a) (hown : ∀ i, i < a.length → 0 ≤ (itm a i).own ∧ (itm a i).own ≤ 1125899906842624) (A : Option Addr) (c : Nat) (w : World) (hr : Rd 7 encItem w A a) (hN : A = none → c = 0) :
    Calls Try.prog 23 #[.slice A a.length c] w fun e w' => (∃ l v, e = .returned v ∧ Own w' w.heap.size 43 7 encItem v l ∧ Settled l ∧ SameSk l a) ∧ Below w.heap.size w w' := by
  have hm := hr.1
  have hun := Try.underlying22
  have hB0 := Below.refl w.heap.size w
  have hbb : (([] : List Item).length + a.length) * 56 ≤ 140737488355328 := by simp; omega
  have hll : ([] : List Item).length + a.length ≤ maxLen := by simp [maxLen]; omega
  have hr0 : ∀ k, (Value.slice none 0 0).ownBlock = some k → w.heap.size ≤ k := fun k e => by simp [Value.ownBlock] at e
  go_enter Try.func23, Try.ntmps23
  go_wp2_with (at_builtin; refine wp_append_all rfl rfl hun infoIt rfl (by decide) encItem_len encItem_one rfl (Own.nil w w.heap.size _ _ _) rfl hN hr hbb hll (Nat.le_refl _) ?_; intro v4 w4 ho4 hg4 hat4; have hB4 := below_step hB0 hB0.size hg4 hr0; obtain ⟨A4, k4, hv4, hR4⟩ := ho4.rd encItem_len; rw [List.nil_append] at hv4 ho4 hR4; subst hv4)
  go_loopw [4, 5, 6] (fun i x5 x6 wr => ∃ (m : Nat) (b : List Item), m ≤ a.length ∧ i = .int .i64 ((m : Int) - 1) ∧ SameSk b a ∧ SetFrom b m ∧ Own wr w.heap.size 43 7 encItem (.slice A4 a.length k4) b ∧ Below w.heap.size w wr) (fun i _ _ _ => (intOf i + 1).toNat)
  case atStart => exact ⟨a.length, a, Nat.le_refl _, rfl, ⟨rfl, fun i _ => ⟨rfl, rfl, rfl⟩⟩, fun k h1 h2 => by omega, ho4, hB4⟩
  case round =>
    clear ho4 hB4 hR4 hg4 hat4
    obtain ⟨m, b, hmn, rfl, hsk, hsf, ho, hB⟩ := hrel
    cases m with
    | zero =>
      go_wp2_with fail
      go_ret
      exact ⟨⟨b, _, rfl, ho, fun i hi => hsf i (Nat.zero_le _) hi, hsk⟩, hB⟩
    | succ i =>
      have hbl := hsk.1
      have hi : i < b.length := by omega
      have hia : i < a.length := by omega
      have hpb := hsk.par hp
      have hob := hsk.own hown
      obtain ⟨g, cap, hv⟩ := ho.lies (by omega)
      injection hv with hv1 hv2 hv3
      subst hv1
      subst hv3
      clear hv2
      have hlow := stage_low hpb hi
      have hown_i := hob i hi
      have e0 : ((i + 1 : Nat) : Int) - 1 = i := by omega
      rw [e0]
      obtain ⟨_, _, _, c3, c4, _, _⟩ := ho.atItem hi
      have f4 := ho.free (i * 7 + 4)
      have ho1 := ho.setF hi 4 (by omega) (.int .i64 (itm b i).own) { itm b i with w := (itm b i).own } rfl
      obtain ⟨_, _, _, _, _, d5, _⟩ := ho1.atItem (i := i) (by simpa using hi)
      have f5 := ho1.free (i * 7 + 5)
      have ho2 := ho1.setG hi 5 (by omega) (.int .i64 (-1)) { itm b i with w := (itm b i).own, best := -1 } rfl
      obtain ⟨_, _, _, _, _, _, e6⟩ := ho2.atItem (i := i) (by simpa using hi)
      have f6 := ho2.free (i * 7 + 6)
      have ho3 := ho2.setG hi 6 (by omega) (.int .i64 i) (stIt b i (itm b i).own (-1) i) rfl
      rw [← hlow] at ho3
      have hg3 := grown_trans (grown_trans (grown_set wr ⟨g, i * 7 + 4, none⟩ (.int .i64 (itm b i).own)) (grown_set _ ⟨g, i * 7 + 5, none⟩ (.int .i64 (-1)))) (grown_set _ ⟨g, i * 7 + 6, none⟩ (.int .i64 i))
      have hbase : ∀ j, some g = some j → w.heap.size ≤ j := fun j hj => by cases hj; exact (ho.base g rfl).1
      have hB3 := below_step hB hB.size hg3 hbase
      clear ho1 ho2 hlow hg3
      have hsf' := Lib.hid hsf
      have hbl' := Lib.hid hbl
      have hpb' := Lib.hid hpb
      have hob' := Lib.hid hob
      have hsk' := Lib.hid hsk
      clear hsf hbl hpb hob hsk e0 hmn hi ho
      go_wp2_with fail
      clear c3 c4 f4 d5 f5 e6 f6
      go_loopw [5, 6] (fun v5 x6 wv => ∃ k : Nat, i + 1 ≤ k ∧ k ≤ a.length ∧ v5 = .int .i64 k ∧ Own wv w.heap.size 43 7 encItem (.slice (some ⟨g, 0, none⟩) a.length k4) (stage b i k) ∧ Below w.heap.size w wv) (fun v5 _ _ => a.length - (intOf v5).toNat)
      case atStart => exact ⟨i + 1, Nat.le_refl _, hia, by go_num, ho3, hB3⟩
      case round =>
        clear ho3 hB3 hB
        obtain ⟨k, hik, hk, rfl, ho, hB⟩ := hrel
        have hbl := hbl'.out
        have hpb := hpb'.out
        have hob := hob'.out
        have hi : i < b.length := by omega
        by_cases hlt : k < a.length
        · have hkb : k < b.length := by omega
          have hki : k ≠ i := by omega
          have hsi := stage_at hi k
          have hsk2 := stage_ne hi k hki
          obtain ⟨_, _, d2, _, d4, _, d6⟩ := ho.atItem (i := k) (by rw [stage_len]; exact hkb)
          rw [hsk2] at d2 d4 d6
          by_cases hpar : (itm b k).par = i
          · obtain ⟨hb1, hb2⟩ := from_bound hpb hob hi hsf'.out k (by omega)
            have hb3 := hb2 k (by omega) hkb hpar
            have hll2 : (b.length : Int) * 1125899906842624 ≤ 112589990684262400 := by omega
            have hsum : IntKind.i64.wrap ((itm b i).own + wsum b i k + (itm b k).w) = (itm b i).own + wsum b i k + (itm b k).w := Go.IntWalk.i64_in _ (by omega)
            obtain ⟨_, _, _, _, c4, _, _⟩ := ho.atItem (i := i) (by rw [stage_len]; exact hi)
            rw [hsi] at c4
            simp only at c4
            have hspec := bestTo_spec b i k
            rw [stage_is] at ho
            obtain ⟨s, hs⟩ : ∃ s, (itm b i).own + wsum b i k + (itm b k).w = s := ⟨_, rfl⟩
            obtain ⟨D, hD⟩ : ∃ D, wr.drew = D := ⟨_, rfl⟩
            have hBD : Below wr.heap.size wr D := by subst hD; exact (Below.refl _ wr).drew
            have hoD := ho.below hBD
            have hB1 := below_call hB hB.size hBD
            have c4D := (hBD.cell (World.block_lt_of_cell? _ _ c4)).trans c4
            have d4D := (hBD.cell (World.block_lt_of_cell? _ _ d4)).trans d4
            have f4 := hoD.free (i * 7 + 4)
            have ho1 := hoD.setG hi 4 (by omega) (.int .i64 s) (stIt b i s (bestTo b i k) (if bestTo b i k = -1 then (i : Int) else (itm b (bestTo b i k).toNat).head)) rfl
            have hB2 := below_step hB1 hB1.size (grown_set D ⟨g, i * 7 + 4, none⟩ (.int .i64 s)) hbase
            generalize hW1 : D.setCell ⟨g, i * 7 + 4, none⟩ (.int .i64 s) = W1 at ho1 hB2
            rw [show (itm b i).own + wsum b i k + (itm b k).w = s from hs] at hsum
            have hsum2 : IntKind.i64.wrap ((itm b i).own + wsum b i k + (itm b k).w) = s := by rw [hs]; exact hsum
            obtain ⟨_, _, _, _, _, q5, _⟩ := ho1.atItem (i := i) (by simpa using hi)
            rw [itm_set _ _ _ _ hi, if_pos rfl] at q5
            rcases hspec with hbn | ⟨j, hj, hjp, hbj⟩
            · have hst := stage_new hpar (.inl hbn)
              rw [hs] at hst
              rw [hbn] at ho1 q5
              have f5 := ho1.free (i * 7 + 5)
              have ho2 := ho1.setG hi 5 (by omega) (.int .i64 k) (stIt b i s k (if (-1 : Int) = -1 then (i : Int) else (itm b (-1 : Int).toNat).head)) rfl
              have hB3 := below_step hB2 hB2.size (grown_set W1 ⟨g, i * 7 + 5, none⟩ (.int .i64 k)) hbase
              generalize hW2 : W1.setCell ⟨g, i * 7 + 5, none⟩ (.int .i64 k) = W2 at ho2 hB3
              obtain ⟨_, _, _, _, _, _, r6⟩ := ho2.atItem (i := i) (by simpa using hi)
              obtain ⟨_, _, _, _, _, _, t6⟩ := ho2.atItem (i := k) (by simpa using hkb)
              rw [itm_set _ _ _ _ hi, if_neg hki] at t6
              have f6 := ho2.free (i * 7 + 6)
              have ho3 := ho2.setG hi 6 (by omega) (.int .i64 (itm b k).head) (stIt b i s k (itm b k).head) rfl
              have hB4 := below_step hB3 hB3.size (grown_set W2 ⟨g, i * 7 + 6, none⟩ (.int .i64 (itm b k).head)) hbase
              rw [← hst] at ho3
              clear ho ho1 ho2 hoD hst hsi hsk2 hbl hpb hob hi hkb hb1 hb2 hb3 hll2 hs hbn
              go_wp2_with fail
              go_still_tail 15, (by kernel_rfl)
              go_wp2_with fail
              go_roundw
              case rel => exact ⟨k + 1, by omega, hlt, by go_num, ho3, hB4⟩
              case measure => simp [intOf]; omega
            · rw [hbj, if_neg (by omega)] at ho1
              rw [hbj] at q5
              simp only [Int.toNat_natCast] at ho1
              have hjb : j < b.length := by omega
              have hja : j < a.length := by omega
              have hjk : i < j := by have := (hpb j hjb).2; omega
              have hji : j ≠ i := by omega
              obtain ⟨x0, x1, x2, x3, x4, x5, x6⟩ := ho1.atItem (i := k) (by simpa using hkb)
              rw [itm_set _ _ _ _ hi, if_neg hki] at x0 x1 x2 x3 x4 x5 x6
              obtain ⟨y0, y1, y2, y3, y4, y5, y6⟩ := ho1.atItem (i := j) (by simpa using hjb)
              rw [itm_set _ _ _ _ hi, if_neg hji] at y0 y1 y2 y3 y4 y5 y6
              have q5' : W1.cell? ⟨g, i * 7 + 5, none⟩ = some (.int .i64 j) := q5
              clear q5
              have z0 := gr_cell x0
              have z1 := gr_cell x1
              have z2 := gr_cell x2
              have z3 := gr_cell x3
              have z4 := gr_cell x4
              have z5 := gr_cell x5
              have z6 := gr_cell x6
              have p0 := gr_cell y0
              have p1 := gr_cell y1
              have p2 := gr_cell y2
              have p3 := gr_cell y3
              have p4 := gr_cell y4
              have p5 := gr_cell y5
              have p6 := gr_cell y6
              have q5g := gr_cell q5'
              have hbet := fun V => rbetter_any (itm b k) (itm b j) V
              have hBg : ∀ p, Below w.heap.size w (gr W1 p) := fun p => hB2.trans ((gr_below _ _).mono hB2.size)
              unfold itemv at hbet
              cases hr : better (itm b k) (itm b j) with
              | true =>
                rw [hr, hpar, hjp] at hbet
                have hst := stage_new hpar (.inr (by rw [hbj]; simpa using hr))
                rw [hs] at hst
                have ho3f := fun V (hV : Below W1.heap.size W1 V) => (ho1.below hV).setG hi 5 (by omega) (.int .i64 k) (stIt b i s k (itm b j).head) rfl
                have hfin := Lib.hid (show ∀ p, Own (((gr W1 p).setCell ⟨g, i * 7 + 5, none⟩ (.int .i64 k)).setCell ⟨g, i * 7 + 6, none⟩ (.int .i64 (itm b k).head)) w.heap.size 43 7 encItem (.slice (some ⟨g, 0, none⟩) a.length k4) (stage b i (k + 1)) ∧ Below w.heap.size w (((gr W1 p).setCell ⟨g, i * 7 + 5, none⟩ (.int .i64 k)).setCell ⟨g, i * 7 + 6, none⟩ (.int .i64 (itm b k).head)) ∧ ((gr W1 p).setCell ⟨g, i * 7 + 5, none⟩ (.int .i64 k)).cell? ⟨g, i * 7 + 6, none⟩ = some (.int .i64 (itm b j).head) ∧ ((gr W1 p).setCell ⟨g, i * 7 + 5, none⟩ (.int .i64 k)).cell? ⟨g, k * 7 + 6, none⟩ = some (.int .i64 (itm b k).head) ∧ (gr W1 p).frozen? ⟨g, i * 7 + 5, none⟩ = false ∧ ((gr W1 p).setCell ⟨g, i * 7 + 5, none⟩ (.int .i64 k)).frozen? ⟨g, i * 7 + 6, none⟩ = false from fun p => by
                  have h2 := ho3f _ (gr_below W1 p)
                  have h3 := h2.setG hi 6 (by omega) (.int .i64 (itm b k).head) (stIt b i s k (itm b k).head) rfl
                  rw [← hst] at h3
                  obtain ⟨_, _, _, _, _, _, r6⟩ := h2.atItem (i := i) (by simpa using hi)
                  obtain ⟨_, _, _, _, _, _, t6⟩ := h2.atItem (i := k) (by simpa using hkb)
                  rw [itm_set _ _ _ _ hi, if_pos rfl] at r6
                  rw [itm_set _ _ _ _ hi, if_neg hki] at t6
                  have hB3 := below_step (hBg p) (hBg p).size (grown_set (gr W1 p) ⟨g, i * 7 + 5, none⟩ (.int .i64 k)) hbase
                  exact ⟨h3, below_step hB3 hB3.size (grown_set _ ⟨g, i * 7 + 6, none⟩ (.int .i64 (itm b k).head)) hbase, r6, t6, (ho1.below (gr_below W1 p)).free _, h2.free _⟩)
                clear ho ho1 hoD hst hsi hsk2 hbl hpb hob hi hkb hb1 hb2 hb3 hll2 hs hbj hr ho3f hjb
                go_wp2_with fail
                go_still_tail 15, (by kernel_rfl)
                go_wp2_with fail
                refine wp_region_gr (by kernel_rfl) (by kernel_rfl) ?_
                repeat (go_big_quiet_step ((go_at_call 31; with_reducible exact Calls.gr_of (hbet _))))
                refine wpQuiet_nil ?_
                rintro _ ⟨pq, rfl⟩
                obtain ⟨h3, hB4, r6, t6, f5, f6⟩ := hfin.out pq
                have v5 := q5g pq
                go_wp2_with fail
                go_roundw
                case rel => exact ⟨k + 1, by omega, hlt, by go_num, h3, hB4⟩
                case measure => simp [intOf]; omega
              | false =>
                rw [hr, hpar, hjp] at hbet
                have hst := stage_old hpar hbj (by rw [hr]; simp)
                rw [hs] at hst
                rw [← hst] at ho1
                have hfin := Lib.hid (fun p => ho1.below (gr_below W1 p))
                clear ho ho1 hoD hst hsi hsk2 hbl hpb hob hi hkb hb1 hb2 hb3 hll2 hs hbj hr hjb
                go_wp2_with fail
                go_still_tail 15, (by kernel_rfl)
                go_wp2_with fail
                refine wp_region_gr (by kernel_rfl) (by kernel_rfl) ?_
                repeat (go_big_quiet_step ((go_at_call 31; with_reducible exact Calls.gr_of (hbet _))))
                refine wpQuiet_nil ?_
                rintro _ ⟨pq, rfl⟩
                go_wp2_with fail
                go_roundw
                case rel => exact ⟨k + 1, by omega, hlt, by go_num, hfin.out pq, hBg pq⟩
                case measure => simp [intOf]; omega
          · have hst := stage_skip hpar
            rw [← hst] at ho
            clear hst hsi hsk2 hbl hpb hob hi hkb
            go_wp2_with fail
            go_roundw
            case rel => exact ⟨k + 1, by omega, hlt, by go_num, ho, hB⟩
            case measure => simp [intOf]; omega
        · obtain rfl : k = a.length := by omega
          rw [← hbl] at ho
          have hse := stage_end hpb hi hsf'.out
          have hss := stage_sk (k := b.length) hi hsk'.out
          generalize stage b i b.length = d at ho hse hss
          rw [hbl] at ho
          clear hbl hpb hob hi
          go_wp2_with fail
          go_roundw
          case rel => exact ⟨i, d, by omega, by go_num, hss, hse, ho, hB⟩
          case measure => simp [intOf]
end Go.Proofs.Ytionkkjdaghakaa
