/- marigoldref12.Guilty, walked. -/
import Derived.Test.YtigdbcfpamnkcaaSlashF
namespace Go.Proofs.Ytigdbcfpamnkcaa
open Go.RowKit
theorem any_snoc {α : Type} {p : α → Bool} {xs : List α} {k : Nat} (hlt : k < xs.length) : (xs.take (k + 1)).any p = ((xs.take k).any p || p xs[k]) := by
  rw [← List.take_append_getElem hlt, List.any_append]
  simp
theorem i64_pred (m : Nat) (h : m ≤ 100000) : IntKind.i64.wrap (((m + 1 : Nat) : Int) - 1) = (m : Int) := by
  have : (((m + 1 : Nat) : Int) - 1) = (m : Int) := by omega
  rw [this]
  exact Go.IntWalk.i64_in _ (by omega)
set_option maxRecDepth 100000 in
set_option maxHeartbeats 4000000 in
theorem rguilty_any (v : List Lnk) (A : Option Addr) (c : Nat) (w : World) (hr : Rd 7 encLnk w A v) (hl : v.length ≤ 100000) :
    Calls Try.prog 11 #[.slice A v.length c] w fun e w' => ∃ u, e = .returned u ∧ Own w' w.heap.size 3 1 encI u (guiltyL v) ∧ Below w.heap.size w w' := by
  have hm := hr.1
  have hun := Try.underlying32
  go_enter Try.func11, Try.ntmps11
  go_wp2_with fail
  go_loopw [3, 4, 5, 6, 7, 8, 9] (fun u i _u5 _u6 _u7 _u8 _u9 wr => ∃ (k : Nat) (out : List Int), k ≤ v.length ∧ i = .int .i64 k ∧ Own wr w.heap.size 3 1 encI u out ∧ Hid (GR v k out) ∧ Below w.heap.size w wr) (fun _ i _ _ _ _ _ _ => v.length - (intOf i).toNat)
  case atStart => exact ⟨0, [], Nat.zero_le _, rfl, Own.nil _ _ _ _ _, Lib.hid (gr_zero v), Below.refl _ _⟩
  case round =>
    obtain ⟨k, out, hk, rfl, hown, hgr, hB⟩ := hrel
    obtain ⟨wo, hwo⟩ : ∃ wo, wo = wr := ⟨_, rfl⟩
    subst hwo
    by_cases hlt : k < v.length
    · have hLa := (hr.below hB).atL hlt
      obtain ⟨b, o, rfl, hbo, d0, d1, d2, d3, d4, d5, d6⟩ := hLa
      have hno := Lib.hid (fun h => gr_no hlt hgr.out h)
      have hhave := Lib.hid (fun m h1 h2 => gr_have (m := m) hlt hgr.out h1 h2)
      have hins := Lib.hid (fun m h1 h2 h3 h4 => gr_ins (m := m) hlt hgr.out h1 h2 h3 h4)
      obtain ⟨a, ha⟩ : ∃ a, v[k] = a := ⟨_, rfl⟩
      rw [ha] at d0 d1 d2 d3 d4 d5 d6
      have hno' := Lib.hid (show v.any (fun y => decide (Pair a y)) = false → GR v (k + 1) out from ha ▸ hno.out)
      have hhave' := Lib.hid (show ∀ m, (h : m < out.length) → out[m] = a.frm → GR v (k + 1) out from ha ▸ hhave.out)
      have hins' := Lib.hid (show ∀ m, v.any (fun y => decide (Pair a y)) = true → m ≤ out.length → AtP out a.frm m → (∀ j, (hj : j < out.length) → j < m → out[j] < a.frm) → GR v (k + 1) (out.take m ++ [a.frm] ++ out.drop m) from ha ▸ hins.out)
      clear hno hhave hins ha
      have hol : out.length ≤ 100000 := by have := hgr.out.2.2; omega
      have hris := Lib.hid hgr.out.1
      clear hgr
      go_wp2_with fail
      go_loopw [5, 6, 7] (fun u j _u7 ww => ∃ j' : Nat, j' ≤ v.length ∧ j = .int .i64 j' ∧ u = .bool ((v.take j').any (fun y => decide (Pair a y))) ∧ Below wo.heap.size wo ww) (fun _ j _ _ => v.length - (intOf j).toNat)
      case atStart => exact ⟨0, Nat.zero_le _, rfl, rfl, Below.refl _ _⟩
      case round =>
        obtain ⟨j, hj, rfl, rfl, hBo⟩ := hrel
        have hBw := below_call hB hB.size hBo
        by_cases hjl : j < v.length
        · obtain ⟨b', o', he, hbo', e0, e1, e2, e3, e4, e5, e6⟩ := (hr.below hBw).atL hjl
          cases he
          have f0 := gr_cell ((hBo.cell (p := ⟨b, o + k * 7, none⟩) hbo).trans d0)
          have f1 := gr_cell ((hBo.cell (p := ⟨b, o + k * 7 + 1, none⟩) hbo).trans d1)
          have f2 := gr_cell ((hBo.cell (p := ⟨b, o + k * 7 + 2, none⟩) hbo).trans d2)
          have f3 := gr_cell ((hBo.cell (p := ⟨b, o + k * 7 + 3, none⟩) hbo).trans d3)
          have f4 := gr_cell ((hBo.cell (p := ⟨b, o + k * 7 + 4, none⟩) hbo).trans d4)
          have f5 := gr_cell ((hBo.cell (p := ⟨b, o + k * 7 + 5, none⟩) hbo).trans d5)
          have f6 := gr_cell ((hBo.cell (p := ⟨b, o + k * 7 + 6, none⟩) hbo).trans d6)
          have hsn := any_snoc (p := fun y => decide (Pair a y)) hjl
          obtain ⟨y, hy⟩ : ∃ y, v[j] = y := ⟨_, rfl⟩
          rw [hy] at e0 e1 e2 e3 e4 e5 e6 hsn
          have e0 := gr_cell e0
          have e1 := gr_cell e1
          have e2 := gr_cell e2
          have e3 := gr_cell e3
          have e4 := gr_cell e4
          have e5 := gr_cell e5
          have e6 := gr_cell e6
          have hp := fun p => rpair_any a y (gr wr p)
          have hBg : ∀ p, Below wo.heap.size wo (gr wr p) := fun p => hBo.trans ((gr_below _ _).mono hBo.size)
          obtain ⟨q, hq⟩ : ∃ q, decide (Pair a y) = q := ⟨_, rfl⟩
          obtain ⟨r, hr'⟩ : ∃ r, (v.take j).any (fun y => decide (Pair a y)) = r := ⟨_, rfl⟩
          rw [hq] at hp
          rw [hq, hr'] at hsn
          rw [hr']
          unfold lnkv at hp
          have hsn' := Lib.hid hsn
          clear hy hq hr' hsn
          cases r <;> cases q
          all_goals
            go_wp2_with fail
            refine wp_region_gr (by kernel_rfl) (by kernel_rfl) ?_
            repeat (go_big_quiet_step ((go_at_call 9; with_reducible exact Calls.gr_of (hp _))))
            refine wpQuiet_nil ?_
            rintro _ ⟨pq, rfl⟩
            go_wp2_with fail
            go_roundw
            case rel => exact ⟨j + 1, hjl, by go_num, by rw [hsn'.out]; rfl, hBg _⟩
            case measure => simp [intOf]; omega
        · obtain rfl : j = v.length := by omega
          rw [List.take_length]
          obtain ⟨q, hq⟩ : ∃ q, v.any (fun y => decide (Pair a y)) = q := ⟨_, rfl⟩
          rw [hq] at hno' hins' ⊢
          clear hq
          have hownw := hown.below hBo
          cases q with
          | false =>
            have hx := Lib.hid (hno'.out rfl)
            clear hno' hins' hhave'
            go_wp2_with fail
            go_roundw
            case rel => exact ⟨k + 1, out, hlt, by go_num, hownw, hx, hBw⟩
            case measure => simp [intOf]; omega
          | true =>
            have hins2 := Lib.hid (fun m => hins'.out m rfl)
            clear hno' hins'
            obtain ⟨Ao, co, hu3, hoc, hRo⟩ := hownw.rdc encI_len
            subst hu3
            obtain ⟨wi, hwi⟩ : ∃ wi, wi = wr := ⟨_, rfl⟩
            subst hwi
            go_wp2_with fail
            go_loopw [8] (fun u wx => ∃ m : Nat, m ≤ out.length ∧ u = .int .i64 m ∧ Hid (AtP out a.frm m) ∧ Below wi.heap.size wi wx) (fun u _ => (intOf u).toNat)
            case atStart => exact ⟨out.length, Nat.le_refl _, rfl, Lib.hid (atP_len _ _), Below.refl _ _⟩
            case round =>
              obtain ⟨m, hm1, rfl, hat, hBi⟩ := hrel
              have hBx := below_call hBw hBw.size hBi
              have hblt : b < wi.heap.size := Nat.lt_of_lt_of_le hbo hBo.size
              have f0 := gr_cell ((hBi.cell (p := ⟨b, o + k * 7, none⟩) hblt).trans ((hBo.cell (p := ⟨b, o + k * 7, none⟩) hbo).trans d0))
              have hBg : ∀ p, Below wi.heap.size wi (gr wr p) := fun p => hBi.trans ((gr_below _ _).mono hBi.size)
              cases m with
              | zero =>
                have hx := Lib.hid (hins2.out 0 (Nat.zero_le _) hat.out (fun j _ h => absurd h (Nat.not_lt_zero _)))
                have hownX := hownw.below hBi
                go_wp2_with fail
                refine wp_region_gr (by kernel_rfl) (by kernel_rfl) ?_
                repeat (go_big_quiet_step (fail))
                refine wpQuiet_nil ?_
                rintro _ ⟨pq, rfl⟩
                have hBY := hBg pq
                have hoY := hownX.below (gr_below _ pq)
                have hf0 := f0 pq
                clear f0 hBg
                generalize gr wr pq = Y at hBY hoY hf0 ⊢
                have f0 := gr_cell hf0
                go_wp2_with fail
                refine wp_region_gr (by kernel_rfl) (by kernel_rfl) ?_
                repeat (go_big_quiet_step (fail))
                refine wpQuiet_nil ?_
                rintro _ ⟨pr, rfl⟩
                have hoZ := hoY.below (gr_below _ pr)
                have hBZ := hBY.trans ((gr_below _ pr).mono hBY.size)
                have hz0 := f0 pr
                clear f0
                generalize gr Y pr = Z at hBZ hoZ hz0 ⊢
                rcases hownw.block with ⟨hv0, ho0⟩ | ⟨bo, cap0, cur0, hv0, _⟩
                · injection hv0 with e1 e2 e3
                  subst e1 e3 ho0
                  have hRr : Rd 1 encI Z none ([] : List Int) := Rd_nil _ _ _ _
                  have hcutZ : Own Z w.heap.size 3 1 encI (.slice none 0 0) (([] : List Int).take 0) := hoZ.cut encI_len (by omega)
                  go_wp2_with (at_builtin; refine wp_append_all rfl rfl hun infoI rfl (by decide) encI_len encI_one rfl (Own.nil Z Z.heap.size _ _ _) (A := none) (c := 0) (ys := ([] : List Int)) rfl (fun e => by first | rfl | cases e) hRr (by first | (simp; done) | (simp; omega)) (by first | (simp [maxLen]; done) | (simp [maxLen]; omega)) (Nat.le_refl _) ?_; intro v1 w1 ho1 hg1 hat1)
                  have hB1 : Below Z.heap.size Z w1 := below_step (Below.refl _ _) (Nat.le_refl _) hg1 (fun _ e => by cases e)
                  have hcut1 := hcutZ.below hB1
                  have hz1 := (hB1.cell (p := ⟨b, o + k * 7, none⟩) (Nat.lt_of_lt_of_le hblt hBZ.size)).trans hz0
                  rw [List.nil_append] at ho1
                  obtain ⟨A1, c1, hv1, hR1, hn1⟩ := ho1.src encI_len
                  subst hv1
                  obtain ⟨Y, hY⟩ : ∃ Y, w1.drew.alloc (.cells #[.int .i64 a.frm] 3) = Y := ⟨_, rfl⟩
                  have hY2 : (w1.alloc (.cells #[.int .i64 a.frm] 3)).drew = Y := hY
                  have hrY : Below w1.heap.size w1 Y := by subst hY; exact ((Below.refl _ w1).drew).alloc (Nat.le_refl _) _
                  have hxY : Y.heap[w1.heap.size]? = some (.cells #[.int .i64 a.frm] 3 (0, 0)) := by subst hY; exact ha_at rfl
                  have hcY := hcut1.below hrY
                  have hoY := ho1.below hrY
                  have hsY : w.heap.size ≤ Y.heap.size := Nat.le_trans hBw.size (Nat.le_trans hBZ.size (Nat.le_trans hB1.size hrY.size))
                  have htl : (([] : List Int).take 0).length ≤ 100000 := by first | (simp; done) | (simp; omega)
                  have hbb : ((([] : List Int).take 0).length + 1) * 8 ≤ 140737488355328 := by omega
                  have hll : (([] : List Int).take 0).length + 1 ≤ maxLen := by unfold maxLen; omega
                  have hne : ∀ q, (Value.slice A1 ([] : List Int).length c1).ownBlock = some q → Z.heap.size ≤ q := fun q hq => (ho1.base q hq).1
                  have hro : ∀ q, (Value.slice none 0 0).ownBlock = some q → q < Z.heap.size := fun q hq => by simp [Value.ownBlock] at hq
                  have hrow : ∀ q, (Value.slice none 0 0).ownBlock = some q → w.heap.size ≤ q := fun q hq => (hcutZ.base q hq).1
                  go_wp2_with fail
                  go_region_law ((with_reducible refine step_append1 (w := Y) (by with_unfolding_all rfl) (by with_unfolding_all rfl) hun infoI (by with_unfolding_all rfl) (by decide) encI_len encI_one (by with_unfolding_all rfl) hcY (c := 1) (by with_unfolding_all rfl) (y := a.frm) hxY (by with_unfolding_all rfl) hbb hll hsY ?_; intro v6 w6 ho6 hg6 hat6))
                  have ho6r := hoY.apart hg6 hne (fun q hq => hro q hq)
                  have hBall := below_call hBw hBw.size (hBZ.trans (hB1.mono hBZ.size))
                  have hB6 := below_step (below_call hBall hBall.size hrY) hsY hg6 hrow
                  obtain ⟨A6, c6, he6, hR6, hn6⟩ := ho6r.src encI_len
                  cases he6
                  go_wp2_with (at_builtin; refine wp_append_all rfl rfl hun infoI rfl (by decide) encI_len encI_one rfl ho6 (A := A1) (c := c1) (ys := ([] : List Int)) rfl hn6 hR6 (by first | (simp; done) | (simp; omega)) (by first | (simp [maxLen]; done) | (simp [maxLen]; omega)) hB6.size ?_; intro v7 w7 ho7 hg7 hat7)
                  have hB7 := below_step hB6 hB6.size hg7 (fun q hq => (ho6.base q hq).1)
                  go_roundw
                  case rel => exact ⟨k + 1, _, hlt, by go_num, ho7, Lib.hid hx.out, hB7⟩
                  case measure => simp [intOf]; omega
                · injection hv0 with e1 e2 e3
                  subst e1
                  clear e2 e3
                  by_cases hmc : 0 = co
                  · subst hmc
                    obtain rfl : out = [] := List.eq_nil_of_length_eq_zero (by omega)
                    have hRr : Rd 1 encI Z (some ⟨bo, 0, none⟩) ([] : List Int) := hRo.below hBZ
                    have hcutZ : Own Z w.heap.size 3 1 encI (.slice (some ⟨bo, 0, none⟩) 0 0) (([] : List Int).take 0) := hoZ.cut encI_len (by omega)
                    go_wp2_with (at_builtin; refine wp_append_all rfl rfl hun infoI rfl (by decide) encI_len encI_one rfl (Own.nil Z Z.heap.size _ _ _) (A := (some ⟨bo, 0, none⟩)) (c := 0) (ys := ([] : List Int)) rfl (fun e => by first | rfl | cases e) hRr (by first | (simp; done) | (simp; omega)) (by first | (simp [maxLen]; done) | (simp [maxLen]; omega)) (Nat.le_refl _) ?_; intro v1 w1 ho1 hg1 hat1)
                    have hB1 : Below Z.heap.size Z w1 := below_step (Below.refl _ _) (Nat.le_refl _) hg1 (fun _ e => by cases e)
                    have hcut1 := hcutZ.below hB1
                    have hz1 := (hB1.cell (p := ⟨b, o + k * 7, none⟩) (Nat.lt_of_lt_of_le hblt hBZ.size)).trans hz0
                    rw [List.nil_append] at ho1
                    obtain ⟨A1, c1, hv1, hR1, hn1⟩ := ho1.src encI_len
                    subst hv1
                    obtain ⟨Y, hY⟩ : ∃ Y, w1.drew.alloc (.cells #[.int .i64 a.frm] 3) = Y := ⟨_, rfl⟩
                    have hY2 : (w1.alloc (.cells #[.int .i64 a.frm] 3)).drew = Y := hY
                    have hrY : Below w1.heap.size w1 Y := by subst hY; exact ((Below.refl _ w1).drew).alloc (Nat.le_refl _) _
                    have hxY : Y.heap[w1.heap.size]? = some (.cells #[.int .i64 a.frm] 3 (0, 0)) := by subst hY; exact ha_at rfl
                    have hcY := hcut1.below hrY
                    have hoY := ho1.below hrY
                    have hsY : w.heap.size ≤ Y.heap.size := Nat.le_trans hBw.size (Nat.le_trans hBZ.size (Nat.le_trans hB1.size hrY.size))
                    have htl : (([] : List Int).take 0).length ≤ 100000 := by first | (simp; done) | (simp; omega)
                    have hbb : ((([] : List Int).take 0).length + 1) * 8 ≤ 140737488355328 := by omega
                    have hll : (([] : List Int).take 0).length + 1 ≤ maxLen := by unfold maxLen; omega
                    have hne : ∀ q, (Value.slice A1 ([] : List Int).length c1).ownBlock = some q → Z.heap.size ≤ q := fun q hq => (ho1.base q hq).1
                    have hro : ∀ q, (Value.slice (some ⟨bo, 0, none⟩) 0 0).ownBlock = some q → q < Z.heap.size := fun q hq => (hcutZ.base q hq).2
                    have hrow : ∀ q, (Value.slice (some ⟨bo, 0, none⟩) 0 0).ownBlock = some q → w.heap.size ≤ q := fun q hq => (hcutZ.base q hq).1
                    go_wp2_with fail
                    go_region_law ((with_reducible refine step_append1 (w := Y) (by with_unfolding_all rfl) (by with_unfolding_all rfl) hun infoI (by with_unfolding_all rfl) (by decide) encI_len encI_one (by with_unfolding_all rfl) hcY (c := 1) (by with_unfolding_all rfl) (y := a.frm) hxY (by with_unfolding_all rfl) hbb hll hsY ?_; intro v6 w6 ho6 hg6 hat6))
                    have ho6r := hoY.apart hg6 hne (fun q hq => hro q hq)
                    have hBall := below_call hBw hBw.size (hBZ.trans (hB1.mono hBZ.size))
                    have hB6 := below_step (below_call hBall hBall.size hrY) hsY hg6 hrow
                    obtain ⟨A6, c6, he6, hR6, hn6⟩ := ho6r.src encI_len
                    cases he6
                    go_wp2_with (at_builtin; refine wp_append_all rfl rfl hun infoI rfl (by decide) encI_len encI_one rfl ho6 (A := A1) (c := c1) (ys := ([] : List Int)) rfl hn6 hR6 (by first | (simp; done) | (simp; omega)) (by first | (simp [maxLen]; done) | (simp [maxLen]; omega)) hB6.size ?_; intro v7 w7 ho7 hg7 hat7)
                    have hB7 := below_step hB6 hB6.size hg7 (fun q hq => (ho6.base q hq).1)
                    go_roundw
                    case rel => exact ⟨k + 1, _, hlt, by go_num, ho7, Lib.hid hx.out, hB7⟩
                    case measure => simp [intOf]; omega
                  · have hRr : Rd 1 encI Z (some ⟨bo, 0, none⟩) out := hRo.below hBZ
                    have hcutZ : Own Z w.heap.size 3 1 encI (.slice (some ⟨bo, 0, none⟩) 0 co) (out.take 0) := hoZ.cut encI_len (by omega)
                    go_wp2_with (at_builtin; refine wp_append_all rfl rfl hun infoI rfl (by decide) encI_len encI_one rfl (Own.nil Z Z.heap.size _ _ _) (A := (some ⟨bo, 0, none⟩)) (c := co) (ys := out) rfl (fun e => by first | rfl | cases e) hRr (by first | (simp; done) | (simp; omega)) (by first | (simp [maxLen]; done) | (simp [maxLen]; omega)) (Nat.le_refl _) ?_; intro v1 w1 ho1 hg1 hat1)
                    have hB1 : Below Z.heap.size Z w1 := below_step (Below.refl _ _) (Nat.le_refl _) hg1 (fun _ e => by cases e)
                    have hcut1 := hcutZ.below hB1
                    have hz1 := (hB1.cell (p := ⟨b, o + k * 7, none⟩) (Nat.lt_of_lt_of_le hblt hBZ.size)).trans hz0
                    rw [List.nil_append] at ho1
                    obtain ⟨A1, c1, hv1, hR1, hn1⟩ := ho1.src encI_len
                    subst hv1
                    obtain ⟨Y, hY⟩ : ∃ Y, w1.drew.alloc (.cells #[.int .i64 a.frm] 3) = Y := ⟨_, rfl⟩
                    have hY2 : (w1.alloc (.cells #[.int .i64 a.frm] 3)).drew = Y := hY
                    have hrY : Below w1.heap.size w1 Y := by subst hY; exact ((Below.refl _ w1).drew).alloc (Nat.le_refl _) _
                    have hxY : Y.heap[w1.heap.size]? = some (.cells #[.int .i64 a.frm] 3 (0, 0)) := by subst hY; exact ha_at rfl
                    have hcY := hcut1.below hrY
                    have hoY := ho1.below hrY
                    have hsY : w.heap.size ≤ Y.heap.size := Nat.le_trans hBw.size (Nat.le_trans hBZ.size (Nat.le_trans hB1.size hrY.size))
                    have htl : (out.take 0).length ≤ 100000 := by first | (simp; done) | (simp; omega)
                    have hbb : ((out.take 0).length + 1) * 8 ≤ 140737488355328 := by omega
                    have hll : (out.take 0).length + 1 ≤ maxLen := by unfold maxLen; omega
                    have hne : ∀ q, (Value.slice A1 out.length c1).ownBlock = some q → Z.heap.size ≤ q := fun q hq => (ho1.base q hq).1
                    have hro : ∀ q, (Value.slice (some ⟨bo, 0, none⟩) 0 co).ownBlock = some q → q < Z.heap.size := fun q hq => (hcutZ.base q hq).2
                    have hrow : ∀ q, (Value.slice (some ⟨bo, 0, none⟩) 0 co).ownBlock = some q → w.heap.size ≤ q := fun q hq => (hcutZ.base q hq).1
                    go_wp2_with fail
                    go_region_law ((with_reducible refine step_append1 (w := Y) (by with_unfolding_all rfl) (by with_unfolding_all rfl) hun infoI (by with_unfolding_all rfl) (by decide) encI_len encI_one (by with_unfolding_all rfl) hcY (c := 1) (by with_unfolding_all rfl) (y := a.frm) hxY (by with_unfolding_all rfl) hbb hll hsY ?_; intro v6 w6 ho6 hg6 hat6))
                    have ho6r := hoY.apart hg6 hne (fun q hq => hro q hq)
                    have hBall := below_call hBw hBw.size (hBZ.trans (hB1.mono hBZ.size))
                    have hB6 := below_step (below_call hBall hBall.size hrY) hsY hg6 hrow
                    obtain ⟨A6, c6, he6, hR6, hn6⟩ := ho6r.src encI_len
                    cases he6
                    go_wp2_with (at_builtin; refine wp_append_all rfl rfl hun infoI rfl (by decide) encI_len encI_one rfl ho6 (A := A1) (c := c1) (ys := out) rfl hn6 hR6 (by first | (simp; done) | (simp; omega)) (by first | (simp [maxLen]; done) | (simp [maxLen]; omega)) hB6.size ?_; intro v7 w7 ho7 hg7 hat7)
                    have hB7 := below_step hB6 hB6.size hg7 (fun q hq => (ho6.base q hq).1)
                    go_roundw
                    case rel => exact ⟨k + 1, _, hlt, by go_num, ho7, Lib.hid hx.out, hB7⟩
                    case measure => simp [intOf]; omega
              | succ m =>
                have hml : m < out.length := hm1
                obtain ⟨bo, oo, he, hbo2, g0⟩ := (hRo.below hBi).atI hml
                subst he
                have hstep := Lib.hid (fun h => atP_step hml hat.out h)
                have hprev := Lib.hid (fun (h : out[m] < a.frm) => lt_of_prev hris.out hml h)
                have hhv := Lib.hid (hhave'.out m hml)
                obtain ⟨z, hz⟩ : ∃ z, out[m] = z := ⟨_, rfl⟩
                have hstep' := Lib.hid (show a.frm < z → AtP out a.frm m from hz ▸ hstep.out)
                have hprev' := Lib.hid (show z < a.frm → ∀ j, (hj : j < out.length) → j < m + 1 → out[j] < a.frm from hz ▸ hprev.out)
                have hhv' := Lib.hid (show z = a.frm → GR v (k + 1) out from hz ▸ hhv.out)
                rw [hz] at g0
                clear hz hstep hprev hhv
                have g0 := gr_cell g0
                have hw1 := i64_pred m (by omega)
                by_cases hgt : a.frm < z
                · have hx := Lib.hid (hstep'.out hgt)
                  have hdgt : decide (a.frm < z) = true := by simpa using hgt
                  clear hgt
                  go_wp2_with fail
                  refine wp_region_gr (by kernel_rfl) (by kernel_rfl) ?_
                  repeat (go_big_quiet_step (fail))
                  refine wpQuiet_nil ?_
                  rintro _ ⟨pq, rfl⟩
                  go_wp2_with fail
                  go_roundw
                  case rel => exact ⟨m, by omega, by go_num, hx, hBg _⟩
                  case measure => simp [intOf]
                · have hdgt : decide (a.frm < z) = false := by simpa using hgt
                  by_cases hez : z = a.frm
                  · have hx := Lib.hid (hhv'.out hez)
                    have hde : (z == a.frm) = true := by simpa using hez
                    have hownX := hownw.below hBi
                    clear hgt hez
                    go_wp2_with fail
                    refine wp_region_gr (by kernel_rfl) (by kernel_rfl) ?_
                    repeat (go_big_quiet_step (fail))
                    refine wpQuiet_nil ?_
                    rintro _ ⟨pq, rfl⟩
                    have hBY := hBg pq
                    have hoY := hownX.below (gr_below _ pq)
                    have hf0 := f0 pq
                    have hg0 := g0 pq
                    clear f0 g0 hBg
                    generalize gr wr pq = Y at hBY hoY hf0 hg0 ⊢
                    have f0 := gr_cell hf0
                    have g0 := gr_cell hg0
                    go_wp2_with fail
                    refine wp_region_gr (by kernel_rfl) (by kernel_rfl) ?_
                    repeat (go_big_quiet_step (fail))
                    refine wpQuiet_nil ?_
                    rintro _ ⟨pr, rfl⟩
                    have hoZ := hoY.below (gr_below _ pr)
                    have hBZ := below_call hBw hBw.size (hBY.trans ((gr_below _ pr).mono hBY.size))
                    go_wp2_with fail
                    go_roundw
                    case rel => exact ⟨k + 1, out, hlt, by go_num, hoZ, hx, hBZ⟩
                    case measure => simp [intOf]; omega
                  · have hde : (z == a.frm) = false := by simpa using hez
                    have hx := Lib.hid (hins2.out (m + 1) hm1 hat.out (hprev'.out (by omega)))
                    have hownX := hownw.below hBi
                    clear hgt hez
                    go_wp2_with fail
                    refine wp_region_gr (by kernel_rfl) (by kernel_rfl) ?_
                    repeat (go_big_quiet_step (fail))
                    refine wpQuiet_nil ?_
                    rintro _ ⟨pq, rfl⟩
                    have hBY := hBg pq
                    have hoY := hownX.below (gr_below _ pq)
                    have hf0 := f0 pq
                    have hg0 := g0 pq
                    clear f0 g0 hBg
                    generalize gr wr pq = Y at hBY hoY hf0 hg0 ⊢
                    have f0 := gr_cell hf0
                    have g0 := gr_cell hg0
                    go_wp2_with fail
                    refine wp_region_gr (by kernel_rfl) (by kernel_rfl) ?_
                    repeat (go_big_quiet_step (fail))
                    refine wpQuiet_nil ?_
                    rintro _ ⟨pr, rfl⟩
                    have hoZ := hoY.below (gr_below _ pr)
                    have hBZ := hBY.trans ((gr_below _ pr).mono hBY.size)
                    have hz0 := f0 pr
                    clear f0 g0
                    generalize gr Y pr = Z at hBZ hoZ hz0 ⊢
                    by_cases hmc : m + 1 = co
                    · subst hmc
                      obtain ⟨rest, hrest⟩ : ∃ rest, out.drop (m + 1) = rest := ⟨_, rfl⟩
                      have hrl : out.length - (m + 1) = rest.length := by rw [← hrest]; simp
                      have hrle : rest.length ≤ 100000 := by omega
                      have hRr : Rd 1 encI Z (some ⟨bo, oo, none⟩) rest := by rw [show rest = [] from List.eq_nil_of_length_eq_zero (by omega)]; exact Rd_nil _ _ _ _
                      have hcutZ : Own Z w.heap.size 3 1 encI (.slice (some ⟨bo, oo, none⟩) (m + 1) (m + 1)) (out.take (m + 1)) := hoZ.cut encI_len (by omega)
                      have hrest' := Lib.hid hrest
                      have hi0 : (0 : Int) ≤ (m : Int) + 1 := by omega
                      clear hrest
                      go_wp2_with (at_builtin; refine wp_append_all rfl rfl hun infoI rfl (by decide) encI_len encI_one rfl (Own.nil Z Z.heap.size _ _ _) (A := (some ⟨bo, oo, none⟩)) (c := 0) (ys := rest) rfl (fun e => by first | rfl | cases e) hRr (by first | (simp; done) | (simp; omega)) (by first | (simp [maxLen]; done) | (simp [maxLen]; omega)) (Nat.le_refl _) ?_; intro v1 w1 ho1 hg1 hat1)
                      have hB1 : Below Z.heap.size Z w1 := below_step (Below.refl _ _) (Nat.le_refl _) hg1 (fun _ e => by cases e)
                      have hcut1 := hcutZ.below hB1
                      have hz1 := (hB1.cell (p := ⟨b, o + k * 7, none⟩) (Nat.lt_of_lt_of_le hblt hBZ.size)).trans hz0
                      rw [List.nil_append] at ho1
                      obtain ⟨A1, c1, hv1, hR1, hn1⟩ := ho1.src encI_len
                      subst hv1
                      obtain ⟨Y, hY⟩ : ∃ Y, w1.drew.alloc (.cells #[.int .i64 a.frm] 3) = Y := ⟨_, rfl⟩
                      have hY2 : (w1.alloc (.cells #[.int .i64 a.frm] 3)).drew = Y := hY
                      have hrY : Below w1.heap.size w1 Y := by subst hY; exact ((Below.refl _ w1).drew).alloc (Nat.le_refl _) _
                      have hxY : Y.heap[w1.heap.size]? = some (.cells #[.int .i64 a.frm] 3 (0, 0)) := by subst hY; exact ha_at rfl
                      have hcY := hcut1.below hrY
                      have hoY := ho1.below hrY
                      have hsY : w.heap.size ≤ Y.heap.size := Nat.le_trans hBw.size (Nat.le_trans hBZ.size (Nat.le_trans hB1.size hrY.size))
                      have htl : (out.take (m + 1)).length ≤ 100000 := by first | (simp; done) | (simp; omega)
                      have hbb : ((out.take (m + 1)).length + 1) * 8 ≤ 140737488355328 := by omega
                      have hll : (out.take (m + 1)).length + 1 ≤ maxLen := by unfold maxLen; omega
                      have hne : ∀ q, (Value.slice A1 rest.length c1).ownBlock = some q → Z.heap.size ≤ q := fun q hq => (ho1.base q hq).1
                      have hro : ∀ q, (Value.slice (some ⟨bo, oo, none⟩) (m + 1) (m + 1)).ownBlock = some q → q < Z.heap.size := fun q hq => (hcutZ.base q hq).2
                      have hrow : ∀ q, (Value.slice (some ⟨bo, oo, none⟩) (m + 1) (m + 1)).ownBlock = some q → w.heap.size ≤ q := fun q hq => (hcutZ.base q hq).1
                      go_wp2_with fail
                      go_region_law ((with_reducible refine step_append1 (w := Y) (by with_unfolding_all rfl) (by with_unfolding_all rfl) hun infoI (by with_unfolding_all rfl) (by decide) encI_len encI_one (by with_unfolding_all rfl) hcY (c := 1) (by with_unfolding_all rfl) (y := a.frm) hxY (by with_unfolding_all rfl) hbb hll hsY ?_; intro v6 w6 ho6 hg6 hat6))
                      have ho6r := hoY.apart hg6 hne (fun q hq => hro q hq)
                      have hBall := below_call hBw hBw.size (hBZ.trans (hB1.mono hBZ.size))
                      have hB6 := below_step (below_call hBall hBall.size hrY) hsY hg6 hrow
                      obtain ⟨A6, c6, he6, hR6, hn6⟩ := ho6r.src encI_len
                      cases he6
                      go_wp2_with (at_builtin; refine wp_append_all rfl rfl hun infoI rfl (by decide) encI_len encI_one rfl ho6 (A := A1) (c := c1) (ys := rest) rfl hn6 hR6 (by first | (simp; done) | (simp; omega)) (by first | (simp [maxLen]; done) | (simp [maxLen]; omega)) hB6.size ?_; intro v7 w7 ho7 hg7 hat7)
                      have hB7 := below_step hB6 hB6.size hg7 (fun q hq => (ho6.base q hq).1)
                      go_roundw
                      case rel => exact ⟨k + 1, _, hlt, by go_num, ho7, Lib.hid (by rw [← hrest'.out]; exact hx.out), hB7⟩
                      case measure => simp [intOf]; omega
                    · obtain ⟨rest, hrest⟩ : ∃ rest, out.drop (m + 1) = rest := ⟨_, rfl⟩
                      have hrl : out.length - (m + 1) = rest.length := by rw [← hrest]; simp
                      have hrle : rest.length ≤ 100000 := by omega
                      have hRr : Rd 1 encI Z (some ⟨bo, oo + (m + 1), none⟩) rest := by rw [← hrest]; have := (hRo.below hBZ).drop (m + 1); rwa [Nat.mul_one] at this
                      have hcutZ : Own Z w.heap.size 3 1 encI (.slice (some ⟨bo, oo, none⟩) (m + 1) co) (out.take (m + 1)) := hoZ.cut encI_len (by omega)
                      have hrest' := Lib.hid hrest
                      have hi0 : (0 : Int) ≤ (m : Int) + 1 := by omega
                      have hi1 : (m : Int) + 1 ≤ (co : Int) := by omega
                      clear hrest
                      go_wp2_with (at_builtin; refine wp_append_all rfl rfl hun infoI rfl (by decide) encI_len encI_one rfl (Own.nil Z Z.heap.size _ _ _) (A := (some ⟨bo, oo + (m + 1), none⟩)) (c := (co - (m + 1))) (ys := rest) rfl (fun e => by first | rfl | cases e) hRr (by first | (simp; done) | (simp; omega)) (by first | (simp [maxLen]; done) | (simp [maxLen]; omega)) (Nat.le_refl _) ?_; intro v1 w1 ho1 hg1 hat1)
                      have hB1 : Below Z.heap.size Z w1 := below_step (Below.refl _ _) (Nat.le_refl _) hg1 (fun _ e => by cases e)
                      have hcut1 := hcutZ.below hB1
                      have hz1 := (hB1.cell (p := ⟨b, o + k * 7, none⟩) (Nat.lt_of_lt_of_le hblt hBZ.size)).trans hz0
                      rw [List.nil_append] at ho1
                      obtain ⟨A1, c1, hv1, hR1, hn1⟩ := ho1.src encI_len
                      subst hv1
                      obtain ⟨Y, hY⟩ : ∃ Y, w1.drew.alloc (.cells #[.int .i64 a.frm] 3) = Y := ⟨_, rfl⟩
                      have hY2 : (w1.alloc (.cells #[.int .i64 a.frm] 3)).drew = Y := hY
                      have hrY : Below w1.heap.size w1 Y := by subst hY; exact ((Below.refl _ w1).drew).alloc (Nat.le_refl _) _
                      have hxY : Y.heap[w1.heap.size]? = some (.cells #[.int .i64 a.frm] 3 (0, 0)) := by subst hY; exact ha_at rfl
                      have hcY := hcut1.below hrY
                      have hoY := ho1.below hrY
                      have hsY : w.heap.size ≤ Y.heap.size := Nat.le_trans hBw.size (Nat.le_trans hBZ.size (Nat.le_trans hB1.size hrY.size))
                      have htl : (out.take (m + 1)).length ≤ 100000 := by first | (simp; done) | (simp; omega)
                      have hbb : ((out.take (m + 1)).length + 1) * 8 ≤ 140737488355328 := by omega
                      have hll : (out.take (m + 1)).length + 1 ≤ maxLen := by unfold maxLen; omega
                      have hne : ∀ q, (Value.slice A1 rest.length c1).ownBlock = some q → Z.heap.size ≤ q := fun q hq => (ho1.base q hq).1
                      have hro : ∀ q, (Value.slice (some ⟨bo, oo, none⟩) (m + 1) co).ownBlock = some q → q < Z.heap.size := fun q hq => (hcutZ.base q hq).2
                      have hrow : ∀ q, (Value.slice (some ⟨bo, oo, none⟩) (m + 1) co).ownBlock = some q → w.heap.size ≤ q := fun q hq => (hcutZ.base q hq).1
                      go_wp2_with fail
                      go_region_law ((with_reducible refine step_append1 (w := Y) (by with_unfolding_all rfl) (by with_unfolding_all rfl) hun infoI (by with_unfolding_all rfl) (by decide) encI_len encI_one (by with_unfolding_all rfl) hcY (c := 1) (by with_unfolding_all rfl) (y := a.frm) hxY (by with_unfolding_all rfl) hbb hll hsY ?_; intro v6 w6 ho6 hg6 hat6))
                      have ho6r := hoY.apart hg6 hne (fun q hq => hro q hq)
                      have hBall := below_call hBw hBw.size (hBZ.trans (hB1.mono hBZ.size))
                      have hB6 := below_step (below_call hBall hBall.size hrY) hsY hg6 hrow
                      obtain ⟨A6, c6, he6, hR6, hn6⟩ := ho6r.src encI_len
                      cases he6
                      go_wp2_with (at_builtin; refine wp_append_all rfl rfl hun infoI rfl (by decide) encI_len encI_one rfl ho6 (A := A1) (c := c1) (ys := rest) rfl hn6 hR6 (by first | (simp; done) | (simp; omega)) (by first | (simp [maxLen]; done) | (simp [maxLen]; omega)) hB6.size ?_; intro v7 w7 ho7 hg7 hat7)
                      have hB7 := below_step hB6 hB6.size hg7 (fun q hq => (ho6.base q hq).1)
                      go_roundw
                      case rel => exact ⟨k + 1, _, hlt, by go_num, ho7, Lib.hid (by rw [← hrest'.out]; exact hx.out), hB7⟩
                      case measure => simp [intOf]; omega
    · obtain rfl : k = v.length := by omega
      have hx := Lib.hid (gr_end hgr.out)
      go_wp2_with fail
      go_ret
      exact ⟨_, rfl, by rw [← hx.out]; exact hown, hB⟩
end Go.Proofs.Ytigdbcfpamnkcaa
