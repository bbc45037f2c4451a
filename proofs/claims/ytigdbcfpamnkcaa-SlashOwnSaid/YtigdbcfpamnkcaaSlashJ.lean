/- SlashOwn, walked. -/
import Derived.Test.YtigdbcfpamnkcaaSlashH
namespace Go.Proofs.Ytigdbcfpamnkcaa
open Go.RowKit
def ownL (v : List Lnk) (w : Int) : List Lnk := v.filter (fun x => decide (x.frm = w))
theorem ownL_snoc {v : List Lnk} {w : Int} {k : Nat} (hlt : k < v.length) : ownL (v.take (k + 1)) w = ownL (v.take k) w ++ (if v[k].frm = w then [v[k]] else []) := by
  unfold ownL
  rw [← List.take_append_getElem hlt, List.filter_append]
  congr 1
  by_cases h : v[k].frm = w <;> simp [h]
theorem ownL_len (v : List Lnk) (w : Int) (k : Nat) : (ownL (v.take k) w).length ≤ k := by
  have := List.length_filter_le (fun x : Lnk => decide (x.frm = w)) (v.take k)
  have h2 : (v.take k).length ≤ k := List.length_take_le _ _
  unfold ownL
  omega
theorem own_guilty (v : List Lnk) (w : Int) : (guiltyL (ownL v w)).length = if (guiltyL v).any (fun z => z == w) then 1 else 0 := by
  have h := own_one (v := v) (w := w) (guiltyL_is v) (guiltyL_is _)
  have e : (guiltyL v).any (fun z => z == w) = decide (w ∈ guiltyL v) := by
    rw [Bool.eq_iff_iff, List.any_eq_true, decide_eq_true_iff]
    constructor
    · rintro ⟨x, hx, hxe⟩
      rw [← (by simpa using hxe : x = w)]
      exact hx
    · exact fun h => ⟨w, h, by simp⟩
  unfold ownL
  rw [h, e]
  by_cases hw : w ∈ guiltyL v <;> simp [hw]
theorem own_more (v : List Lnk) (w : Int) (h : (guiltyL v).any (fun z => z == w) = true) : 1 < (ownL v w).length := by
  obtain ⟨x, hx, hxe⟩ := List.any_eq_true.1 h
  obtain rfl : x = w := by simpa using hxe
  exact own_two (((guiltyL_is v).2 x).1 hx)
theorem ownL_all (v : List Lnk) (w : Int) : ownL (v.take v.length) w = ownL v w := by rw [List.take_length]
set_option maxRecDepth 100000 in
set_option maxHeartbeats 4000000 in
theorem own_any (v : List Lnk) (who : Int) (A : Option Addr) (c : Nat) (w : World) (hc : v.length ≤ c) (hcm : c ≤ maxLen) (hr : Rd 7 encLnk w A v) :
    Calls Try.prog 6 #[.slice A v.length c, .int .i64 who] w fun e w' => e = .returned (.bool true) ∧ Below w.heap.size w w' := by
  have hm := hr.1
  have hun := Try.underlying29
  have haw := fun V => awake_any V
  by_cases hsm : v.length ≤ 40
  · have hg := fun V (hV : Below w.heap.size w V) => guilty_any v A c V (hr.below hV) hc hcm (by omega)
    have hg2 := fun V A' c' (hR : Rd 7 encLnk V A' (ownL v who)) (h1 : (ownL v who).length ≤ c') (h2 : c' ≤ maxLen) => guilty_any (ownL v who) A' c' V hR h1 h2 (by have := ownL_len v who v.length; rw [List.take_length] at this; omega)
    have hog := own_guilty v who
    have hom := own_more v who
    have hgl := guiltyL_len v
    obtain ⟨g, hgg⟩ : ∃ g, guiltyL v = g := ⟨_, rfl⟩
    obtain ⟨h, hhh⟩ : ∃ h, guiltyL (ownL v who) = h := ⟨_, rfl⟩
    rw [hgg] at hg hog hom hgl
    rw [hhh] at hg2 hog
    clear hgg hhh
    have hog' := Lib.hid hog
    have hom' := Lib.hid hom
    have hgl' := Lib.hid hgl
    clear hog hom hgl
    have hn1 : ¬ (40 : Int) < (v.length : Int) := by omega
    have hn2 : ¬ 40 < v.length := by omega
    go_enter Try.func6, Try.ntmps6
    go_wp2_with (go_at_call 8; with_reducible refine (haw _).mono ?_; clear haw; rintro e w1 ⟨rfl, hb1⟩)
    go_loopw [6, 7] (fun u i wr => ∃ j : Nat, j ≤ v.length ∧ i = .int .i64 j ∧ Own wr w1.heap.size 28 7 encLnk u (ownL (v.take j) who) ∧ Below w1.heap.size w1 wr) (fun _ i _ => v.length - (intOf i).toNat)
    case atStart => exact ⟨0, Nat.zero_le _, rfl, Own.nil _ _ _ _ _, Below.refl _ _⟩
    case round =>
      obtain ⟨j, hj, rfl, hown, hBW⟩ := hrel
      have hBr := below_call hb1 hb1.size hBW
      by_cases hlt : j < v.length
      · obtain ⟨b, o, rfl, hbo, d0, d1, d2, d3, d4, d5, d6⟩ := (hr.below hBr).atL hlt
        have hsn := ownL_snoc (w := who) hlt
        have hbl := ownL_len v who j
        have hvb : ∀ q, u6.ownBlock = some q → w1.heap.size ≤ q := fun q hq => (hown.base q hq).1
        obtain ⟨a, ha⟩ : ∃ a, v[j] = a := ⟨_, rfl⟩
        rw [ha] at d0 d1 d2 d3 d4 d5 d6 hsn
        clear ha
        by_cases hf : a.frm = who
        · rw [if_pos hf] at hsn
          have hd : (a.frm == who) = true := by simpa using hf
          have hsn' := Lib.hid hsn
          clear hsn hf
          have hW2 : Below wr.heap.size wr (wr.alloc (.cells #[.int .i64 a.frm, .int .i64 a.src.epoch, .int .u64 a.src.root.hi, .int .u64 a.src.root.lo, .int .i64 a.tgt.epoch, .int .u64 a.tgt.root.hi, .int .u64 a.tgt.root.lo] 28)) := (Below.refl _ wr).alloc (Nat.le_refl _) _
          have ho2 := hown.below hW2
          have hB2 := below_call hBW hBW.size hW2
          go_wp2_with (at_builtin; refine wp_append1 rfl rfl hun infoL rfl (by decide) encLnk_len encLnk_one rfl ho2 (g := wr.heap.size) (c := 1) rfl (y := a) (ha_at rfl) rfl (by omega) (by unfold maxLen; omega) hB2.size ?_; intro v' w5 ho5 hg5 hat5)
          go_roundw
          case rel => exact ⟨j + 1, hlt, by go_num, by rw [hsn'.out]; exact ho5, below_step hB2 hB2.size hg5 hvb⟩
          case measure => simp [intOf]; omega
        · rw [if_neg hf, List.append_nil] at hsn
          have hd : (a.frm == who) = false := by simpa using hf
          have hsn' := Lib.hid hsn
          clear hsn hf
          go_wp2_with fail
          go_roundw
          case rel => exact ⟨j + 1, hlt, by go_num, by rw [hsn'.out]; exact hown, hBW⟩
          case measure => simp [intOf]; omega
      · obtain rfl : j = v.length := by omega
        rw [ownL_all] at hown
        have hg' := hg _ hBr
        have hgl := hgl'.out
        go_wp2_with (go_at_call 10; with_reducible refine hg'.mono ?_; clear hg hg'; rintro e w3 ⟨u, rfl, ho, hb3⟩; obtain ⟨A1, k1, hu, hR1⟩ := ho.rd encI_len; subst hu)
        have hB3 := below_call hBr hBr.size hb3
        have hown3 := hown.below hb3
        go_loopw [8, 10] (fun u i wr' => ∃ j : Nat, j ≤ g.length ∧ i = .int .i64 j ∧ u = .bool ((g.take j).any (fun z => z == who)) ∧ wr' = w3) (fun _ i _ => g.length - (intOf i).toNat)
        case atStart => exact ⟨0, Nat.zero_le _, rfl, rfl, rfl⟩
        case round =>
          obtain ⟨j, hj, rfl, rfl, rfl⟩ := hrel
          by_cases hlt : j < g.length
          · obtain ⟨p1, o1, he1, _, y1⟩ := hR1.atI hlt
            subst he1
            have hsn := any_snoc (p := fun z => z == who) hlt
            obtain ⟨z, hz⟩ : ∃ z, g[j] = z := ⟨_, rfl⟩
            rw [hz] at y1 hsn
            clear hz
            obtain ⟨q, hq⟩ : ∃ q, (z == who) = q := ⟨_, rfl⟩
            obtain ⟨r, hr'⟩ : ∃ r, (g.take j).any (fun z => z == who) = r := ⟨_, rfl⟩
            rw [hq, hr'] at hsn
            rw [hr']
            have hsn' := Lib.hid hsn
            clear hr' hsn
            cases r <;> cases q
            all_goals
              go_wp2_with fail
              go_roundw
              case rel => exact ⟨j + 1, hlt, by go_num, by rw [hsn'.out]; rfl, trivial⟩
              case measure => simp [intOf]; omega
          · obtain rfl : j = g.length := by omega
            rw [List.take_length]
            obtain ⟨A6, k6, hv6, hc6, hm6, hR6⟩ := hown3.rdm encLnk_len
            subst hv6
            have hg2' := hg2 _ _ _ hR6 hc6 hm6
            have hog := hog'.out
            have hom := hom'.out
            obtain ⟨q, hq⟩ : ∃ q, g.any (fun z => z == who) = q := ⟨_, rfl⟩
            rw [hq] at hog hom ⊢
            clear hq
            cases q with
            | true =>
              have hl1 : h.length = 1 := hog
              have hl2 : 1 < (ownL v who).length := hom rfl
              clear hog hom
              go_wp2_with (go_at_call 10; with_reducible refine hg2'.mono ?_; clear hg2 hg2'; rintro e w4 ⟨u, rfl, hoh, hb4⟩; obtain ⟨A2, k2, hu2, hR2⟩ := hoh.rd encI_len; subst hu2)
              go_ret
              exact ⟨rfl, below_call hB3 hB3.size hb4⟩
            | false =>
              have hl1 : h.length = 0 := hog
              clear hog hom
              go_wp2_with (go_at_call 10; with_reducible refine hg2'.mono ?_; clear hg2 hg2'; rintro e w4 ⟨u, rfl, hoh, hb4⟩; obtain ⟨A2, k2, hu2, hR2⟩ := hoh.rd encI_len; subst hu2)
              all_goals
                go_ret
                exact ⟨rfl, below_call hB3 hB3.size hb4⟩
  · have hn1 : (40 : Int) < (v.length : Int) := by omega
    have hn2 : 40 < v.length := by omega
    go_enter Try.func6, Try.ntmps6
    go_wp2_with (go_at_call 8; with_reducible refine (haw _).mono ?_; clear haw; rintro e w1 ⟨rfl, hb1⟩)
    go_ret
    exact ⟨rfl, hb1⟩
end Go.Proofs.Ytigdbcfpamnkcaa
