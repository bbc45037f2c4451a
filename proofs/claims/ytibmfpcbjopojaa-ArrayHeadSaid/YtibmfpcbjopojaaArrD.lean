/- One cell of an owned slice is set; a place is settled, walked. -/
import Derived.Test.YtibmfpcbjopojaaArrC
import Derived.Test.YtibmfpcbjopojaaGA
import Derived.Test.YtibmfpcbjopojaaArrQ
namespace Go.Proofs.Ytibmfpcbjopojaa
open Go.RowKit
theorem grownB {w w' : World} (h : Below w.heap.size w w') (row : Option Nat) : w.grownBy w' row := ⟨h.os, h.tape, h.output, h.size, fun k hk _ => h.block k hk⟩
theorem flatMap_set {α : Type} {k : Nat} {enc : α → List Value} (hk : ∀ x, (enc x).length = k) {j : Nat} (hj : j < k) (u : Value) : ∀ (xs : List α) (i : Nat) (hi : i < xs.length) (x' : α), enc x' = (enc xs[i]).set j u → (xs.set i x').flatMap enc = (xs.flatMap enc).set (i * k + j) u
  | [], i, hi, _, _ => by simp at hi
  | y :: xs, 0, hi, x', h => by
    simp only [List.getElem_cons_zero] at h
    simp only [List.set_cons_zero, List.flatMap_cons, Nat.zero_mul, Nat.zero_add]
    rw [h, List.set_append_left _ _ (by rw [hk]; exact hj)]
  | y :: xs, i + 1, hi, x', h => by
    simp only [List.getElem_cons_succ] at h
    simp only [List.set_cons_succ, List.flatMap_cons]
    rw [List.set_append_right _ _ (by rw [hk, Nat.succ_mul]; omega), hk, show (i + 1) * k + j - k = i * k + j by rw [Nat.succ_mul]; omega]
    rw [flatMap_set hk hj u xs i (by simpa using hi) x' h]
theorem Own.blk {α : Type} {w : World} {base : Nat} {e : TypeId} {k : Nat} {enc : α → List Value} {g n cap : Nat} {xs : List α} (h : Own w base e k enc (.slice (some ⟨g, 0, none⟩) n cap) xs) :
    ∃ cur, w.heap[g]? = some (.cells cur e (0, 0)) ∧ base ≤ g ∧ n = xs.length ∧ n ≤ cap ∧ cap ≤ maxLen ∧ cur.size = cap * k ∧ cur.toList.take (n * k) = xs.flatMap enc := by
  obtain ⟨h1, h2⟩ := h
  rcases h2 with ⟨he, _⟩ | ⟨g', cap', cur, he, hb, hh, hle, hm, hs, ht⟩
  · cases he
  · injection he with e1 e2 e3
    injection e1 with e1
    injection e1 with e1
    subst e1; subst e3; subst e2
    exact ⟨cur, hh, hb, rfl, hle, hm, hs, ht⟩
theorem Own.free {α : Type} {w : World} {base : Nat} {e : TypeId} {k : Nat} {enc : α → List Value} {g n cap : Nat} {xs : List α} (h : Own w base e k enc (.slice (some ⟨g, 0, none⟩) n cap) xs) (j : Nat) : w.frozen? ⟨g, j, none⟩ = false := by
  obtain ⟨cur, hh, _⟩ := h.blk
  exact blk_free hh j
theorem Own.set {α : Type} {w : World} {base : Nat} {e : TypeId} {k : Nat} {enc : α → List Value} (hk : ∀ x, (enc x).length = k) {g n cap : Nat} {xs : List α} (h : Own w base e k enc (.slice (some ⟨g, 0, none⟩) n cap) xs) {i j : Nat} (hi : i < xs.length) (hj : j < k) (u : Value) (x' : α) (hx : enc x' = (enc xs[i]).set j u) :
    Own (w.setCell ⟨g, i * k + j, none⟩ u) base e k enc (.slice (some ⟨g, 0, none⟩) n cap) (xs.set i x') := by
  obtain ⟨cur, hh, hb, rfl, hle, hm, hs, ht⟩ := h.blk
  refine ⟨flatMap_len hk _, .inr ⟨g, cap, cur.setIfInBounds (i * k + j) u, by simp, hb, Go.heap_setCell_same w g _ cur e u hh, by simpa using hle, hm, by simpa using hs, ?_⟩⟩
  have hlt : i * k + j < xs.length * k := by
    have : (i + 1) * k ≤ xs.length * k := Nat.mul_le_mul_right k hi
    rw [Nat.succ_mul] at this
    omega
  rw [List.length_set, flatMap_set hk hj u xs i hi x' hx, ← ht, Array.toList_setIfInBounds, List.take_set]
theorem Own.rdg {α : Type} {w : World} {base : Nat} {e : TypeId} {k : Nat} {enc : α → List Value} (hk : ∀ x, (enc x).length = k) {g n cap : Nat} {xs : List α} (h : Own w base e k enc (.slice (some ⟨g, 0, none⟩) n cap) xs) : Rd k enc w (some ⟨g, 0, none⟩) xs := by
  obtain ⟨A, c, hv, hr⟩ := h.rd hk
  injection hv with e1 e2 e3
  rw [e1]
  exact hr
theorem Own.atItem {w : World} {base : Nat} {e : TypeId} {g n cap : Nat} {a : List Item} (h : Own w base e 7 encItem (.slice (some ⟨g, 0, none⟩) n cap) a) {i : Nat} (hi : i < a.length) :
    w.cell? ⟨g, i * 7, none⟩ = some (.int .u64 (itm a i).id.hi) ∧ w.cell? ⟨g, i * 7 + 1, none⟩ = some (.int .u64 (itm a i).id.lo) ∧
      w.cell? ⟨g, i * 7 + 2, none⟩ = some (.int .i64 (itm a i).par) ∧ w.cell? ⟨g, i * 7 + 3, none⟩ = some (.int .i64 (itm a i).own) ∧ w.cell? ⟨g, i * 7 + 4, none⟩ = some (.int .i64 (itm a i).w) ∧
      w.cell? ⟨g, i * 7 + 5, none⟩ = some (.int .i64 (itm a i).best) ∧ w.cell? ⟨g, i * 7 + 6, none⟩ = some (.int .i64 (itm a i).head) := by
  obtain ⟨b, o, hA, _, h1⟩ := (h.rdg encItem_len).atItem hi
  cases hA
  simpa using h1
/-- One field of an item is set. -/
theorem Own.setF {w : World} {base : Nat} {e : TypeId} {g n cap : Nat} {a : List Item} (h : Own w base e 7 encItem (.slice (some ⟨g, 0, none⟩) n cap) a) {i : Nat} (hi : i < a.length) (j : Nat) (hj : j < 7) (u : Value) (x : Item) (hx : encItem x = (encItem (itm a i)).set j u) :
    Own (w.setCell ⟨g, i * 7 + j, none⟩ u) base e 7 encItem (.slice (some ⟨g, 0, none⟩) n cap) (a.set i x) :=
  h.set encItem_len hi hj u x (by rw [hx, itm_lt hi])
set_option maxRecDepth 100000 in
set_option maxHeartbeats 1000000 in
theorem settle_any (a : List Item) (i : Nat) (hi : i < a.length) (hp : ParOk a) (g cap base : Nat) (w : World) (ho : Own w base 103 7 encItem (.slice (some ⟨g, 0, none⟩) a.length cap) a) :
    Calls Try.prog 88 #[.slice (some ⟨g, 0, none⟩) a.length cap, .int .i64 i] w fun e w' => e = .returned (.tuple #[]) ∧ Own w' base 103 7 encItem (.slice (some ⟨g, 0, none⟩) a.length cap) (settleP a i) ∧ w.grownBy w' (some g) := by
  have hr := ho.rdg encItem_len
  have hm := hr.1
  have hlow : ∀ k : Nat, (k : Int) ≤ i → (itm a k).par ≠ i := fun k hk => by have := (hp k (by omega)).2; omega
  have hbest := best_any a i (by omega) (by omega) hlow (some ⟨g, 0, none⟩) cap w hr
  have hs := bestTo_spec a i a.length
  have hse : settleP a i = a.set i { itm a i with best := best a i, head := headOf a i } := rfl
  have hhe : headOf a i = if best a i = -1 then (i : Int) else (itm a (best a i).toNat).head := rfl
  obtain ⟨sp, hsp⟩ : ∃ sp, settleP a i = sp := ⟨_, rfl⟩
  rw [hsp] at hse ⊢
  obtain ⟨m, hm2⟩ : ∃ m, best a i = m := ⟨_, rfl⟩
  rw [show bestTo a i a.length = best a i from rfl] at hs
  rw [hm2] at hbest hse hhe hs
  clear hm2 hsp hlow
  rcases hs with rfl | ⟨j, hj, hjp, rfl⟩
  · rw [if_pos rfl] at hhe
    rw [hhe] at hse
    have hse' := Lib.hid hse
    clear hse hhe
    go_enter Try.func88, Try.ntmps88
    go_wp2_with (go_at_call 62; refine hbest.mono ?_; clear hbest; rintro e w1 ⟨rfl, hb1⟩; have ho1 := ho.below hb1; obtain ⟨_, _, _, _, _, c5, _⟩ := ho1.atItem hi; have f5 := ho1.free (i * 7 + 5); have ho2 := ho1.setF hi 5 (by omega) (.int .i64 (-1)) { itm a i with best := -1 } rfl; obtain ⟨_, _, _, _, _, _, d6⟩ := ho2.atItem (i := i) (by simpa using hi); have f6 := ho2.free (i * 7 + 6); have ho3 := ho2.setF (i := i) (by simpa using hi) 6 (by omega) (.int .i64 i) { itm a i with best := -1, head := i } (by rw [itm_set _ _ _ _ hi, if_pos rfl]; rfl); obtain ⟨_, _, _, _, _, e5, _⟩ := ho3.atItem (i := i) (by simpa using hi); rw [itm_set _ _ _ _ (by simpa using hi), if_pos rfl] at e5)
    go_end0
    refine ⟨rfl, ?_, grown_trans (grown_trans (grownB hb1 _) (grown_set _ _ _)) (grown_set _ _ _)⟩
    rw [hse'.out]
    simpa [List.set_set] using ho3
  · have hij : i < j := by have := (hp j hj).2; omega
    rw [if_neg (by omega)] at hhe
    simp only [Int.toNat_natCast] at hhe
    rw [hhe] at hse
    have hse' := Lib.hid hse
    clear hse hhe
    go_enter Try.func88, Try.ntmps88
    go_wp2_with (go_at_call 62; refine hbest.mono ?_; clear hbest; rintro e w1 ⟨rfl, hb1⟩; have ho1 := ho.below hb1; obtain ⟨_, _, _, _, _, c5, _⟩ := ho1.atItem hi; have f5 := ho1.free (i * 7 + 5); have ho2 := ho1.setF hi 5 (by omega) (.int .i64 j) { itm a i with best := j } rfl; obtain ⟨_, _, _, _, _, _, d6⟩ := ho2.atItem (i := i) (by simpa using hi); have f6 := ho2.free (i * 7 + 6); have ho3 := ho2.setF (i := i) (by simpa using hi) 6 (by omega) (.int .i64 i) { itm a i with best := j, head := i } (by rw [itm_set _ _ _ _ hi, if_pos rfl]; rfl); obtain ⟨_, _, _, _, _, e5, e6⟩ := ho3.atItem (i := i) (by simpa using hi); rw [itm_set _ _ _ _ (by simpa using hi), if_pos rfl] at e5 e6; obtain ⟨_, _, _, _, _, _, g6⟩ := ho3.atItem (i := j) (by simpa using hj); rw [itm_set _ _ _ _ (by simpa using hi), if_neg (by omega), itm_set _ _ _ _ (by simpa using hi), if_neg (by omega)] at g6; have f7 := ho3.free (i * 7 + 6); have ho4 := ho3.setF (i := i) (by simpa using hi) 6 (by omega) (.int .i64 (itm a j).head) { itm a i with best := j, head := (itm a j).head } (by rw [itm_set _ _ _ _ (by simpa using hi), if_pos rfl]; rfl))
    go_end0
    refine ⟨rfl, ?_, grown_trans (grown_trans (grown_trans (grownB hb1 _) (grown_set _ _ _)) (grown_set _ _ _)) (grown_set _ _ _)⟩
    rw [hse'.out]
    simpa [List.set_set] using ho4
end Go.Proofs.Ytibmfpcbjopojaa
