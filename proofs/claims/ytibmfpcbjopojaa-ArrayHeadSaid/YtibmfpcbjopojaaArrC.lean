/- The best child, walked. -/
import Derived.Test.YtibmfpcbjopojaaArrB
namespace Go.Proofs.Ytibmfpcbjopojaa
open Go.RowKit
set_option maxRecDepth 100000 in
set_option maxHeartbeats 1000000 in
theorem best_any (a : List Item) (p : Int) (hp : -1 ≤ p) (hpl : p < a.length) (hlow : ∀ k : Nat, (k : Int) ≤ p → (itm a k).par ≠ p) (A : Option Addr) (c : Nat) (w : World) (hr : Rd 7 encItem w A a) :
    Calls Try.prog 62 #[.slice A a.length c, .int .i64 p] w fun e w' => e = .returned (.int .i64 (best a p)) ∧ Below w.heap.size w w' := by
  have hm := hr.1
  have h0 : bestTo a p (p + 1).toNat = -1 := bestTo_none.2 (fun k hk => hlow k (by omega))
  go_enter Try.func62, Try.ntmps62
  go_wp2_with fail
  go_loopw [5, 7] (fun m i wr => ∃ k : Nat, p + 1 ≤ k ∧ k ≤ a.length ∧ i = .int .i64 k ∧ m = .int .i64 (bestTo a p k) ∧ Below w.heap.size w wr) (fun _ i _ => a.length - (intOf i).toNat)
  case atStart => exact ⟨(p + 1).toNat, by omega, by omega, by congr 1; omega, by rw [h0], Below.refl _ _⟩
  case round =>
    obtain ⟨k, hk1, hk, rfl, rfl, hW⟩ := hrel
    by_cases hlt : k < a.length
    · obtain ⟨b, o, rfl, hb, c0, c1, c2, c3, c4, c5, c6⟩ := (hr.below hW).atItem hlt
      have hstep : bestTo a p (k + 1) = if (itm a k).par = p ∧ (bestTo a p k = -1 ∨ better (itm a k) (itm a (bestTo a p k).toNat) = true) then (k : Int) else bestTo a p k := rfl
      have hsp := bestTo_spec a p k
      have hbet := fun (j : Nat) (hj : j < a.length) => better_any a k j hlt hj (some ⟨b, o, none⟩) c wr (hr.below hW)
      obtain ⟨m, hm2⟩ : ∃ m, bestTo a p k = m := ⟨_, rfl⟩
      rw [hm2] at hstep hsp ⊢
      clear hm2
      by_cases hpar : (itm a k).par = p
      · by_cases hmm : m = -1
        · rw [if_pos ⟨hpar, .inl hmm⟩] at hstep
          have hstep' := Lib.hid hstep
          clear hstep hbet hsp
          subst hmm
          go_wp2_with fail
          go_roundw
          case rel => exact ⟨k + 1, by omega, hlt, by go_num, by rw [hstep'.out], hW⟩
          case measure => simp [intOf]; omega
        · obtain ⟨j, hj, hjp, rfl⟩ : ∃ j : Nat, j < k ∧ (itm a j).par = p ∧ m = j := by rcases hsp with h | ⟨j, h1, h2, h3⟩; exact absurd h hmm; exact ⟨j, h1, h2, h3⟩
          simp only [Int.toNat_natCast] at hstep
          have hbet' := hbet j (by omega)
          clear hbet hsp
          obtain ⟨r, hrr⟩ : ∃ r, better (itm a k) (itm a j) = r := ⟨_, rfl⟩
          rw [hrr] at hbet'
          cases r with
          | true =>
            have hstep' := Lib.hid (hstep.trans (if_pos ⟨hpar, .inr hrr⟩))
            clear hstep hrr
            go_wp2_with (go_at_call 89; with_reducible refine hbet'.mono ?_; clear hbet'; rintro e w1 ⟨rfl, hb1⟩; have hB1 := below_call hW hW.size hb1)
            go_roundw
            case rel => exact ⟨k + 1, by omega, hlt, by go_num, by rw [hstep'.out], hB1⟩
            case measure => simp [intOf]; omega
          | false =>
            have hstep' := Lib.hid (hstep.trans (if_neg (fun h => by rcases h.2 with h | h; omega; rw [hrr] at h; cases h)))
            clear hstep hrr
            go_wp2_with (go_at_call 89; with_reducible refine hbet'.mono ?_; clear hbet'; rintro e w1 ⟨rfl, hb1⟩; have hB1 := below_call hW hW.size hb1)
            go_roundw
            case rel => exact ⟨k + 1, by omega, hlt, by go_num, by rw [hstep'.out], hB1⟩
            case measure => simp [intOf]; omega
      · rw [if_neg (fun h => hpar h.1)] at hstep
        have hstep' := Lib.hid hstep
        clear hstep hbet hsp
        go_wp2_with fail
        go_roundw
        case rel => exact ⟨k + 1, by omega, hlt, by go_num, by rw [hstep'.out], hW⟩
        case measure => simp [intOf]; omega
    · obtain rfl : k = a.length := by omega
      have hbe : best a p = bestTo a p a.length := rfl
      rw [← hbe]
      go_wp2_with fail
      go_ret
      exact ⟨rfl, hW⟩
end Go.Proofs.Ytibmfpcbjopojaa
