/- marigoldref07.who, Doubles, walked. -/
import Derived.Test.YtkccakaaklemdaaRefV1
import Derived.Test.YtkccakaaklemdaaRefV3
namespace Go.Proofs.Ytkccakaaklemdaa
open Go.RowKit
/-- Who has a vote. -/
def WhoOk (l : List Vote) (r : List Int) : Prop := Rises r ∧ (∀ g, g ∈ r ↔ ∃ x ∈ l, x.frm = g) ∧ r.length ≤ l.length
theorem who_nil : WhoOk [] [] := ⟨trivial, by simp, Nat.le_refl _⟩
theorem who_step {l : List Vote} {r r' : List Int} {j : Nat} (hj : j < l.length) (h : WhoOk (l.take j) r) {x : Vote} (hx : l[j] = x) (hp : PutOk r x.frm r') : WhoOk (l.take (j + 1)) r' := by
  rw [List.take_succ_eq_append_getElem hj, hx]
  refine ⟨hp.1, fun g => ?_, ?_⟩
  · rw [hp.2.1, h.2.1]
    constructor
    · rintro (⟨y, hy, e⟩ | e)
      · exact ⟨y, List.mem_append_left _ hy, e⟩
      · exact ⟨x, by simp, e.symm⟩
    · rintro ⟨y, hy, e⟩
      rcases List.mem_append.1 hy with hy | hy
      · exact .inl ⟨y, hy, e⟩
      · rw [List.mem_singleton.1 hy] at e; exact .inr e.symm
  · have h1 := hp.2.2
    have h2 := h.2.2
    simp only [List.length_append, List.length_singleton]
    omega
set_option maxRecDepth 100000 in
set_option maxHeartbeats 1000000 in
theorem rwho_any (l : List Vote) (A : Option Addr) (k : Nat) (w : World) (hr : Rd 4 encVote w A l) (hl : l.length ≤ 100000) :
    Calls Try.prog 42 #[.slice A l.length k] w fun e w' => ∃ r A' k', e = .returned (.slice A' r.length k') ∧ WhoOk l r ∧ Sl w' A' k' r ∧ Below w.heap.size w w' := by
  have hm := hr.1
  go_enter Try.func42, Try.ntmps42
  go_wp2_with fail
  go_loopw [3, 4] (fun u i wr => ∃ (j : Nat) (r : List Int) (A' : Option Addr) (k' : Nat), j ≤ l.length ∧ i = .int .i64 j ∧ u = .slice A' r.length k' ∧ Hid (WhoOk (l.take j) r) ∧ Sl wr A' k' r ∧ Below w.heap.size w wr) (fun _ i _ => l.length - (intOf i).toNat)
  case atStart => exact ⟨0, [], none, 0, Nat.zero_le _, rfl, rfl, Lib.hid (by simpa using who_nil), sl_nil _, Below.refl _ _⟩
  case round =>
    obtain ⟨j, r, A', k', hj, rfl, rfl, hw, hs, hB⟩ := hrel
    by_cases hlt : j < l.length
    · obtain ⟨b', o', rfl, hbo, d0, d1, d2, d3⟩ := (hr.below hB).atVote hlt
      obtain ⟨x, hx⟩ : ∃ x, l[j] = x := ⟨_, rfl⟩
      rw [hx] at d0 d1 d2 d3
      have hstep := Lib.hid (fun r' hp => who_step (r' := r') hlt hw.out hx hp)
      have hrl : r.length ≤ 100000 := by have := hw.out.2.2; simp at this; omega
      have hput := put_any r x.frm A' k' wr hs hw.out.1 hrl
      clear hx
      go_wp2_with (go_at_call 56; (with_reducible refine hput.mono ?_); clear hput; rintro e w2 ⟨r2, A2, k2, rfl, hp2, hs2, hb2⟩; have hst := Lib.hid (hstep.out r2 hp2); have hB2 := below_call hB hB.size hb2; clear hp2)
      go_roundw
      case rel => exact ⟨j + 1, r2, A2, k2, hlt, by go_num, rfl, hst, hs2, hB2⟩
      case measure => simp [intOf]; omega
    · obtain rfl : j = l.length := by omega
      have hw2 := hw.out
      rw [List.take_length] at hw2
      have hw3 := Lib.hid hw2
      clear hw2 hw
      go_wp2_with fail
      go_ret
      exact ⟨r, A', k', rfl, hw3.out, hs, hB⟩
theorem rises_filter (p : Int → Bool) : ∀ {l : List Int}, Rises l → Rises (l.filter p)
  | [], _ => trivial
  | x :: xs, h => by
    have ih := rises_filter p (l := xs) h.2
    by_cases e : p x = true
    · rw [List.filter_cons_of_pos e]
      exact ⟨fun z hz => h.1 z (List.mem_filter.1 hz).1, ih⟩
    · rw [List.filter_cons_of_neg e]
      exact ih
def dblF (l : List Vote) (s : Int) (r : List Int) : List Int := r.filter fun f => decide (Dbl l s f)
theorem dblF_snoc (l : List Vote) (s : Int) {r : List Int} {k : Nat} (h : k < r.length) : dblF l s (r.take (k + 1)) = dblF l s (r.take k) ++ (if Dbl l s r[k] then [r[k]] else []) := by
  unfold dblF
  rw [List.take_succ_eq_append_getElem h, List.filter_append]
  by_cases e : Dbl l s r[k] <;> simp [e]
theorem dblF_len (l : List Vote) (s : Int) (r : List Int) : (dblF l s r).length ≤ r.length := List.length_filter_le _ _
theorem dblF_all {l : List Vote} {s : Int} {r : List Int} (h : WhoOk l r) : dblF l s r = dblL l s :=
  dblL_eq ⟨rises_filter _ h.1, fun f => by
    unfold dblF
    rw [List.mem_filter, decide_eq_true_eq, h.2.1]
    exact ⟨fun h => h.2, fun hd => ⟨by obtain ⟨x, hx, hf, _⟩ := dbl_mem hd; exact ⟨x, hx, hf⟩, hd⟩⟩⟩
set_option maxRecDepth 100000 in
set_option maxHeartbeats 1000000 in
theorem rvdoubles_any (l : List Vote) (s : Int) (A : Option Addr) (k : Nat) (w : World) (hr : Rd 4 encVote w A l) (hl : l.length ≤ 100000) :
    Calls Try.prog 22 #[.slice A l.length k, .int .i64 s] w fun e w' => ∃ u, e = .returned u ∧ Own w' w.heap.size 3 1 encI u (dblL l s) ∧ Below w.heap.size w w' := by
  have hm := hr.1
  have hun := Try.underlying22
  have hwho := rwho_any l A k w hr hl
  have hdb := fun V (hV : Below w.heap.size w V) (f : Int) => rdouble_any l s f A k V (hr.below hV)
  go_enter Try.func22, Try.ntmps22
  go_wp2_with (go_at_call 42; (with_reducible refine hwho.mono ?_); clear hwho; rintro e w1 ⟨r, A1, k1, rfl, hw, hs, hB1⟩; have hw' := Lib.hid hw; have hrl : r.length ≤ 100000 := Nat.le_trans hw.2.2 hl; have hR1 := hs.rd; have hm1 := hR1.1; clear hw)
  go_loopw [5, 7, 8] (fun u i _u8 wr => ∃ j : Nat, j ≤ r.length ∧ i = .int .i64 j ∧ Own wr w1.heap.size 3 1 encI u (dblF l s (r.take j)) ∧ Below w1.heap.size w1 wr) (fun _ i _ _ => r.length - (intOf i).toNat)
  case atStart => exact ⟨0, Nat.zero_le _, rfl, Own.nil _ _ _ _ _, Below.refl _ _⟩
  case round =>
    obtain ⟨j, hj, rfl, hu, hBW⟩ := hrel
    have hB := below_call hB1 hB1.size hBW
    by_cases hlt : j < r.length
    · obtain ⟨b', o', rfl, hbo, d0⟩ := (hR1.below hBW).atI hlt
      have hsu := dblF_snoc l s hlt
      have hlu : (dblF l s (r.take j)).length ≤ 100000 := by have := dblF_len l s (r.take j); simp at this; omega
      have hst := Lib.hid (show ∀ V, Below w1.heap.size w1 V → V.cell? ⟨b', o' + j, none⟩ = some (.int .i64 r[j]) from fun V hV => by
        obtain ⟨b2, o2, he, _, q0⟩ := (hR1.below hV).atI hlt
        cases he
        exact q0)
      obtain ⟨x, hxe⟩ : ∃ x, r[j] = x := ⟨_, rfl⟩
      rw [hxe] at d0 hsu hst
      clear hxe
      have hub : ∀ k, u5.ownBlock = some k → w1.heap.size ≤ k := fun k hk => (hu.base k hk).1
      have hdx := hdb wr hB x
      by_cases hf : Dbl l s x
      · rw [show decide (Dbl l s x) = true by simpa using hf] at hdx
        rw [if_pos hf] at hsu
        have hsu' := Lib.hid hsu
        clear hsu hf
        go_wp2_with (first
          | (go_at_call 43; (with_reducible refine hdx.mono ?_); clear hdx; rintro e w2 ⟨rfl, hb2⟩; have hB2 := below_call hBW hBW.size hb2; have d1 := hst.out _ hB2; have hx1 := ilay w2 x; have hu2 := (hu.below hb2).below hx1.1; have hB3 := below_call hB2 hB2.size hx1.1; have hy := hx1.2; clear hx1)
          | (at_builtin; refine wp_append1 rfl rfl hun infoI rfl (by decide) encI_len encI_one rfl hu2 (g := w2.heap.size) (c := 1) rfl (y := x) hy rfl (by omega) (by unfold maxLen; omega) hB3.size ?_; intro v6 w6 hu6 hg6 hat6))
        go_roundw
        case rel =>
          refine ⟨j + 1, hlt, by go_num, ?_, below_step hB3 hB3.size hg6 hub⟩
          rw [hsu'.out]; exact hu6
        case measure => simp [intOf]; omega
      · rw [show decide (Dbl l s x) = false by simpa using hf] at hdx
        rw [if_neg hf, List.append_nil] at hsu
        have hsu' := Lib.hid hsu
        clear hsu hf
        go_wp2_with (go_at_call 43; (with_reducible refine hdx.mono ?_); clear hdx; rintro e w2 ⟨rfl, hb2⟩; have hB2 := below_call hBW hBW.size hb2)
        go_roundw
        case rel =>
          refine ⟨j + 1, hlt, by go_num, ?_, hB2⟩
          rw [hsu'.out]; exact hu.below hb2
        case measure => simp [intOf]; omega
    · obtain rfl : j = r.length := by omega
      rw [List.take_length, dblF_all hw'.out] at hu
      obtain ⟨A2, k2, rfl, _⟩ := hu.rd encI_len
      go_wp2_with fail
      go_ret
      exact ⟨_, rfl, hu.mono hB1.size, hB⟩
end Go.Proofs.Ytkccakaaklemdaa
