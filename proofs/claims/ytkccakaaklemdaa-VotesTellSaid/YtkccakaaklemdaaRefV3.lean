/- marigoldref07.put, walked. (Printed by gen_put2.py.) -/
import Derived.Test.YtkccakaaklemdaaRefV2
namespace Go.Proofs.Ytkccakaaklemdaa
open Go.RowKit
set_option maxRecDepth 100000 in
set_option maxHeartbeats 4000000 in
theorem put_any (l : List Int) (f : Int) (A : Option Addr) (k : Nat) (w : World) (h : Sl w A k l) (hri : Rises l) (hl : l.length ≤ 100000) :
    Calls Try.prog 56 #[.slice A l.length k, .int .i64 f] w fun e w' => ∃ r A' k', e = .returned (.slice A' r.length k') ∧ PutOk l f r ∧ Sl w' A' k' r ∧ Below w.heap.size w w' := by
  have hun := Try.underlying22
  have hrd := h.rd
  have hle := h.le
  have hmx := h.mx
  have hnn := h.nn
  have hsh := Lib.hid h.sh
  have hmx' : k ≤ 9223372036854775807 := by unfold maxLen at hmx; omega
  have hsame := Lib.hid (fun (hf : f ∈ l) => put_same hri hf)
  have hins0 := Lib.hid (fun (hd rest : List Int) (m : Nat) (hl : l = hd ++ rest) (hm : hd.length = m) hgt hlt => ins_law (f := f) hl hri hm hgt hlt)
  have hris' := Lib.hid hri
  clear hri
  go_enter Try.func56, Try.ntmps56
  go_wp2_with fail
  go_loopw [5] (fun i wr => ∃ m : Nat, m ≤ l.length ∧ i = .int .i64 m ∧ Hid (∀ j, m ≤ j → (hj : j < l.length) → f < l[j]) ∧ Below w.heap.size w wr) (fun i _ => (intOf i).toNat)
  case atStart => exact ⟨l.length, Nat.le_refl _, rfl, Lib.hid (fun j h1 h2 => by omega), Below.refl _ _⟩
  case round =>
    obtain ⟨m, hm, rfl, hgt, hB⟩ := hrel
    cases m with
    | zero =>
      have hins := Lib.hid (hins0.out [] l 0 rfl rfl hgt.out (fun j hj => by omega))
      rcases hsh.out with rfl | ⟨b, o, rfl⟩
      · obtain rfl : k = 0 := hnn rfl
        obtain rfl : l = [] := List.eq_nil_of_length_eq_zero (by omega)
        go_wp2_with (first
          | (at_builtin; refine wp_append_all rfl rfl hun infoI rfl (by decide) encI_len encI_one rfl (Own.nil wr wr.heap.size _ _ _) (A := none) (c := 0) (ys := ([] : List Int)) (rfl) (fun e => by first | exact hnn e | rfl | cases e) (Rd_nil _ _ _ _) (by first | omega | (simp; done) | (simp; omega)) (by unfold maxLen; first | omega | (simp; done) | (simp; omega)) (Nat.le_refl _) ?_; intro v1 w1 ho1 hg1 hat1; rw [List.nil_append] at ho1; have hb1 := below_step (Below.refl wr.heap.size wr) (Nat.le_refl _) hg1 (fun _ e => by cases e); have hx1 := ilay w1 f; have ho2 := ho1.below hx1.1; have hb2 := below_call hb1 hb1.size hx1.1; have hy2 := hx1.2; clear hx1)
          | (at_builtin; refine wp_append1 rfl rfl hun infoI rfl (by decide) encI_len encI_one rfl ho2 (g := w1.heap.size) (c := 1) rfl (y := f) hy2 rfl (by first | omega | (simp; done) | (simp; omega)) (by unfold maxLen; first | omega | (simp; done) | (simp; omega)) hb2.size ?_; intro v3 w3 ho3 hg3 hat3; have hb3 := below_step hb2 hb2.size hg3 (fun k e => (ho2.base k e).1); have hB3 := below_call hB hB.size hb3)
          | (at_builtin; refine wp_append_all rfl rfl hun infoI rfl (by decide) encI_len encI_one rfl ho3 (A := none) (c := 0) (ys := ([] : List Int)) (rfl) (fun e => by first | rfl | cases e) (Rd_nil _ _ _ _) (by first | omega | (simp; done) | (simp; omega)) (by unfold maxLen; first | omega | (simp; done) | (simp; omega)) hb3.size ?_; intro v4 w4 ho4 hg4 hat4; have hb4 := below_step hb3 hb3.size hg4 (fun k e => (ho3.base k e).1)))
        obtain ⟨A5, c5, rfl, hs5⟩ := own_sl ho4
        go_ret
        exact ⟨_, A5, c5, rfl, hins.out, hs5, below_call hB hB.size hb4⟩
      · have i0 : (l.length : Int) ≤ (k : Int) := by omega
        by_cases hk : k = 0
        · subst hk
          obtain rfl : l = [] := List.eq_nil_of_length_eq_zero (by omega)
          go_wp2_with (first
            | (at_builtin; refine wp_append_all rfl rfl hun infoI rfl (by decide) encI_len encI_one rfl (Own.nil wr wr.heap.size _ _ _) (A := _) (c := 0) (ys := ([] : List Int)) (rfl) (fun e => by first | exact hnn e | rfl | cases e) (Rd_nil _ _ _ _) (by first | omega | (simp; done) | (simp; omega)) (by unfold maxLen; first | omega | (simp; done) | (simp; omega)) (Nat.le_refl _) ?_; intro v1 w1 ho1 hg1 hat1; rw [List.nil_append] at ho1; have hb1 := below_step (Below.refl wr.heap.size wr) (Nat.le_refl _) hg1 (fun _ e => by cases e); have hx1 := ilay w1 f; have ho2 := ho1.below hx1.1; have hb2 := below_call hb1 hb1.size hx1.1; have hy2 := hx1.2; clear hx1)
            | (at_builtin; refine wp_append1 rfl rfl hun infoI rfl (by decide) encI_len encI_one rfl ho2 (g := w1.heap.size) (c := 1) rfl (y := f) hy2 rfl (by first | omega | (simp; done) | (simp; omega)) (by unfold maxLen; first | omega | (simp; done) | (simp; omega)) hb2.size ?_; intro v3 w3 ho3 hg3 hat3; have hb3 := below_step hb2 hb2.size hg3 (fun k e => (ho2.base k e).1); have hB3 := below_call hB hB.size hb3)
            | (at_builtin; refine wp_append_all rfl rfl hun infoI rfl (by decide) encI_len encI_one rfl ho3 (A := _) (c := _) (ys := ([] : List Int)) (rfl) (fun e => by first | rfl | cases e) (Rd_nil _ _ _ _) (by first | omega | (simp; done) | (simp; omega)) (by unfold maxLen; first | omega | (simp; done) | (simp; omega)) hb3.size ?_; intro v4 w4 ho4 hg4 hat4; have hb4 := below_step hb3 hb3.size hg4 (fun k e => (ho3.base k e).1)))
          obtain ⟨A5, c5, rfl, hs5⟩ := own_sl ho4
          go_ret
          exact ⟨_, A5, c5, rfl, hins.out, hs5, below_call hB hB.size hb4⟩
        · have i1 : (0 : Int) ≤ (k : Int) := by omega
          go_wp2_with (first
            | (at_builtin; refine wp_append_all rfl rfl hun infoI rfl (by decide) encI_len encI_one rfl (Own.nil wr wr.heap.size _ _ _) (A := (some ⟨b, o, none⟩)) (c := k) (ys := ([] : List Int)) (rfl) (fun e => by first | exact hnn e | rfl | cases e) (Rd_nil _ _ _ _) (by first | omega | (simp; done) | (simp; omega)) (by unfold maxLen; first | omega | (simp; done) | (simp; omega)) (Nat.le_refl _) ?_; intro v1 w1 ho1 hg1 hat1; rw [List.nil_append] at ho1; have hb1 := below_step (Below.refl wr.heap.size wr) (Nat.le_refl _) hg1 (fun _ e => by cases e); have hx1 := ilay w1 f; have ho2 := ho1.below hx1.1; have hb2 := below_call hb1 hb1.size hx1.1; have hy2 := hx1.2; clear hx1)
            | (at_builtin; refine wp_append1 rfl rfl hun infoI rfl (by decide) encI_len encI_one rfl ho2 (g := w1.heap.size) (c := 1) rfl (y := f) hy2 rfl (by first | omega | (simp; done) | (simp; omega)) (by unfold maxLen; first | omega | (simp; done) | (simp; omega)) hb2.size ?_; intro v3 w3 ho3 hg3 hat3; have hb3 := below_step hb2 hb2.size hg3 (fun k e => (ho2.base k e).1); have hB3 := below_call hB hB.size hb3)
            | (at_builtin; refine wp_append_all rfl rfl hun infoI rfl (by decide) encI_len encI_one rfl ho3 (A := (some ⟨b, o, none⟩)) (c := k) (ys := l) (rfl) (fun e => by first | rfl | cases e) (hrd.below hB3) (by first | omega | (simp; done) | (simp; omega)) (by unfold maxLen; first | omega | (simp; done) | (simp; omega)) hb3.size ?_; intro v4 w4 ho4 hg4 hat4; have hb4 := below_step hb3 hb3.size hg4 (fun k e => (ho3.base k e).1)))
          obtain ⟨A5, c5, rfl, hs5⟩ := own_sl ho4
          go_ret
          exact ⟨_, A5, c5, rfl, hins.out, hs5, below_call hB hB.size hb4⟩
    | succ m =>
      have hlt : m < l.length := by omega
      obtain ⟨b, o, rfl, hbo, d0⟩ := (hrd.below hB).atI hlt
      have hxm := List.getElem_mem hlt
      have hgt2 := Lib.hid (fun (h : f < l[m]) => show ∀ j, m ≤ j → (hj : j < l.length) → f < l[j] from fun j h1 h2 => by
        by_cases e : j = m
        · subst e; exact h
        · exact hgt.out j (by omega) h2)
      have hlow := Lib.hid (fun (h : l[m] < f) => show ∀ j, j < m + 1 → (hj : j < l.length) → l[j] < f from fun j h1 h2 => by
        by_cases e : j = m
        · subst e; exact h
        · have := rises_le hris'.out j m h2 hlt (by omega)
          omega)
      obtain ⟨x, hx⟩ : ∃ x, l[m] = x := ⟨_, rfl⟩
      rw [hx] at d0 hxm hgt2 hlow
      clear hx
      have i0 : (0 : Int) ≤ (m : Int) + 1 := by omega
      have i1 : (m : Int) + 1 ≤ (k : Int) := by omega
      have i2 : (m : Int) + 1 ≤ (l.length : Int) := by omega
      have i3 : (l.length : Int) ≤ (k : Int) := by omega
      have c0 : decide ((0 : Int) < (m : Int) + 1) = true := decide_eq_true (by omega)
      by_cases h1 : f < x
      · have c1 : decide (f < x) = true := by simpa using h1
        have hg2 := Lib.hid (hgt2.out h1)
        clear hxm h1
        go_wp2_with fail
        go_roundw
        case rel => exact ⟨m, by omega, by go_num, hg2, hB⟩
        case measure => simp [intOf]; try omega
      · have c1 : decide (f < x) = false := by simpa using h1
        by_cases h2 : x = f
        · have c2 : (x == f) = true := by simpa using h2
          have hs2 := Lib.hid (hsame.out (h2 ▸ hxm))
          clear hxm h1 h2
          go_wp2_with fail
          go_ret
          exact ⟨l, _, k, rfl, hs2.out, h.below hB, hB⟩
        · have c2 : (x == f) = false := by simpa using h2
          have hlo := hlow.out (by omega)
          have hdl : (l.take (m + 1)).length = m + 1 := by simp; omega
          have hrl : (l.drop (m + 1)).length = l.length - (m + 1) := by simp
          have hins := Lib.hid (hins0.out (l.take (m + 1)) (l.drop (m + 1)) (m + 1) (List.take_append_drop _ _).symm hdl hgt.out hlo)
          obtain ⟨hd, hhd⟩ : ∃ hd, l.take (m + 1) = hd := ⟨_, rfl⟩
          obtain ⟨rest, hrest⟩ : ∃ rest, l.drop (m + 1) = rest := ⟨_, rfl⟩
          rw [hhd] at hdl hins
          rw [hrest] at hrl hins
          have hRh := hhd ▸ (hrd.below hB).take (m + 1)
          have hRr := fun V (hV : Below w.heap.size w V) => show Rd 1 encI V (some ⟨b, o + (m + 1), none⟩) rest by rw [← hrest]; have := (hrd.below hV).drop (m + 1); rwa [Nat.mul_one] at this
          have hdl' := Lib.hid hdl
          have hrl' := Lib.hid hrl
          have hll : hd.length ≤ 100000 := by omega
          have hrr : rest.length ≤ 100000 := by omega
          have hk1 : m + 1 ≤ k := by omega
          clear hhd hrest hdl hlo hxm h1 h2
          by_cases hk : m + 1 = k
          · have hr0 : rest = [] := List.eq_nil_of_length_eq_zero (by omega)
            subst hk
            clear hrl
            go_wp2_with (first
              | (at_builtin; refine wp_append_all rfl rfl hun infoI rfl (by decide) encI_len encI_one rfl (Own.nil wr wr.heap.size _ _ _) (A := (some ⟨b, o, none⟩)) (c := (m + 1)) (ys := hd) (by rw [hdl'.out]; rfl) (fun e => by first | exact hnn e | rfl | cases e) hRh (by first | omega | (simp; done) | (simp; omega)) (by unfold maxLen; first | omega | (simp; done) | (simp; omega)) (Nat.le_refl _) ?_; intro v1 w1 ho1 hg1 hat1; rw [List.nil_append] at ho1; have hb1 := below_step (Below.refl wr.heap.size wr) (Nat.le_refl _) hg1 (fun _ e => by cases e); have hx1 := ilay w1 f; have ho2 := ho1.below hx1.1; have hb2 := below_call hb1 hb1.size hx1.1; have hy2 := hx1.2; clear hx1)
              | (at_builtin; refine wp_append1 rfl rfl hun infoI rfl (by decide) encI_len encI_one rfl ho2 (g := w1.heap.size) (c := 1) rfl (y := f) hy2 rfl (by first | omega | (simp; done) | (simp; omega)) (by unfold maxLen; first | omega | (simp; done) | (simp; omega)) hb2.size ?_; intro v3 w3 ho3 hg3 hat3; have hb3 := below_step hb2 hb2.size hg3 (fun k e => (ho2.base k e).1); have hB3 := below_call hB hB.size hb3)
              | (at_builtin; refine wp_append_all rfl rfl hun infoI rfl (by decide) encI_len encI_one rfl ho3 (A := (some ⟨b, o, none⟩)) (c := 0) (ys := rest) (by rw [hr0]; rfl) (fun e => by first | rfl | cases e) (by rw [hr0]; exact Rd_nil _ _ _ _) (by first | omega | (simp; done) | (simp; omega)) (by unfold maxLen; first | omega | (simp; done) | (simp; omega)) hb3.size ?_; intro v4 w4 ho4 hg4 hat4; have hb4 := below_step hb3 hb3.size hg4 (fun k e => (ho3.base k e).1)))
            obtain ⟨A5, c5, rfl, hs5⟩ := own_sl ho4
            go_ret
            exact ⟨_, A5, c5, rfl, hins.out, hs5, below_call hB hB.size hb4⟩
          · clear hrl
            go_wp2_with (first
              | (at_builtin; refine wp_append_all rfl rfl hun infoI rfl (by decide) encI_len encI_one rfl (Own.nil wr wr.heap.size _ _ _) (A := (some ⟨b, o, none⟩)) (c := k) (ys := hd) (by rw [hdl'.out]; rfl) (fun e => by first | exact hnn e | rfl | cases e) hRh (by first | omega | (simp; done) | (simp; omega)) (by unfold maxLen; first | omega | (simp; done) | (simp; omega)) (Nat.le_refl _) ?_; intro v1 w1 ho1 hg1 hat1; rw [List.nil_append] at ho1; have hb1 := below_step (Below.refl wr.heap.size wr) (Nat.le_refl _) hg1 (fun _ e => by cases e); have hx1 := ilay w1 f; have ho2 := ho1.below hx1.1; have hb2 := below_call hb1 hb1.size hx1.1; have hy2 := hx1.2; clear hx1)
              | (at_builtin; refine wp_append1 rfl rfl hun infoI rfl (by decide) encI_len encI_one rfl ho2 (g := w1.heap.size) (c := 1) rfl (y := f) hy2 rfl (by first | omega | (simp; done) | (simp; omega)) (by unfold maxLen; first | omega | (simp; done) | (simp; omega)) hb2.size ?_; intro v3 w3 ho3 hg3 hat3; have hb3 := below_step hb2 hb2.size hg3 (fun k e => (ho2.base k e).1); have hB3 := below_call hB hB.size hb3)
              | (at_builtin; refine wp_append_all rfl rfl hun infoI rfl (by decide) encI_len encI_one rfl ho3 (A := (some ⟨b, o + (m + 1), none⟩)) (c := (k - (m + 1))) (ys := rest) (by rw [hrl'.out]; rfl) (fun e => by first | rfl | cases e) (hRr w3 hB3) (by first | omega | (simp; done) | (simp; omega)) (by unfold maxLen; first | omega | (simp; done) | (simp; omega)) hb3.size ?_; intro v4 w4 ho4 hg4 hat4; have hb4 := below_step hb3 hb3.size hg4 (fun k e => (ho3.base k e).1)))
            obtain ⟨A5, c5, rfl, hs5⟩ := own_sl ho4
            go_ret
            exact ⟨_, A5, c5, rfl, hins.out, hs5, below_call hB hB.size hb4⟩
end Go.Proofs.Ytkccakaaklemdaa
