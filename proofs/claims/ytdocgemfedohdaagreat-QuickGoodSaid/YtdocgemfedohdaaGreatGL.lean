/- GL: several texts in one. -/
import Derived.Test.YtdocgemfedohdaaGreatGK
import Derived.Test.YtdocgemfedohdaaGreatGH
import Derived.Lib.SliceRun
import Derived.Test.YtdocgemfedohdaaGreatGJ
import Derived.Test.YtdocgemfedohdaaGreatGG
import Derived.Deep.RegionHeld3
import Derived.Test.YtdocgemfedohdaaGreatGA
import Derived.Test.YtdocgemfedohdaaGreatGI
import Derived.Test.YtdocgemfedohdaaGreatGE
/-! slices.DeleteFunc over votes, with a committee's method, walked. -/
namespace Go.Proofs.YtdocgemfedohdaaGreat
open Go.RowKit
theorem flatMap_setK {α : Type} {k : Nat} {enc : α → List Value} (hk : ∀ x, (enc x).length = k) {j : Nat} (hj : j < k) (u : Value) : ∀ (xs : List α) (i : Nat) (hi : i < xs.length) (x' : α), enc x' = (enc xs[i]).set j u → (xs.set i x').flatMap enc = (xs.flatMap enc).set (i * k + j) u
  | [], i, hi, _, _ => by simp at hi
  | y :: xs, 0, hi, x', h => by
    simp only [List.getElem_cons_zero] at h
    simp only [List.set_cons_zero, List.flatMap_cons, Nat.zero_mul, Nat.zero_add]
    rw [h, List.set_append_left _ _ (by rw [hk]; exact hj)]
  | y :: xs, i + 1, hi, x', h => by
    simp only [List.getElem_cons_succ] at h
    simp only [List.set_cons_succ, List.flatMap_cons]
    rw [List.set_append_right _ _ (by rw [hk, Nat.succ_mul]; omega), hk, show (i + 1) * k + j - k = i * k + j by rw [Nat.succ_mul]; omega]
    rw [flatMap_setK hk hj u xs i (by simpa using hi) x' h]
theorem Own.setK {α : Type} {w : World} {base : Nat} {e : TypeId} {k : Nat} {enc : α → List Value} (hk : ∀ x, (enc x).length = k) {g n cap : Nat} {xs : List α} (h : Own w base e k enc (.slice (some ⟨g, 0, none⟩) n cap) xs) {i j : Nat} (hi : i < xs.length) (hj : j < k) (u : Value) (x' : α) (hx : enc x' = (enc xs[i]).set j u) :
    Own (w.setCell ⟨g, i * k + j, none⟩ u) base e k enc (.slice (some ⟨g, 0, none⟩) n cap) (xs.set i x') := by
  obtain ⟨cur, hh, hb, rfl, hle, hm, hs, ht⟩ := h.blkI
  refine ⟨flatMap_len hk _, .inr ⟨g, cap, cur.setIfInBounds (i * k + j) u, by simp, hb, Go.heap_setCell_same w g _ cur e u hh, by simpa using hle, hm, by simpa using hs, ?_⟩⟩
  rw [List.length_set, flatMap_setK hk hj u xs i hi x' hx, ← ht, Array.toList_setIfInBounds, List.take_set]
/-- A vote's four cells are set. -/
theorem Own.setVote {w : World} {base : Nat} {e : TypeId} {g n cap : Nat} {xs : List Vote} (h : Own w base e 4 encVote (.slice (some ⟨g, 0, none⟩) n cap) xs) {i : Nat} (hi : i < xs.length) (x : Vote) :
    Own ((((w.setCell ⟨g, i * 4, none⟩ (.int .i64 x.frm)).setCell ⟨g, i * 4 + 1, none⟩ (.int .i64 x.slot)).setCell ⟨g, i * 4 + 2, none⟩ (.int .u64 x.head.hi)).setCell ⟨g, i * 4 + 3, none⟩ (.int .u64 x.head.lo)) base e 4 encVote (.slice (some ⟨g, 0, none⟩) n cap) (xs.set i x) := by
  have h0 := h.setK encVote_len hi (j := 0) (by omega) (.int .i64 x.frm) ⟨x.frm, xs[i].slot, xs[i].head⟩ rfl
  have h1 := h0.setK encVote_len (i := i) (by simpa using hi) (j := 1) (by omega) (.int .i64 x.slot) ⟨x.frm, x.slot, xs[i].head⟩ (by simp [encVote])
  have h2 := h1.setK encVote_len (i := i) (by simpa using hi) (j := 2) (by omega) (.int .u64 x.head.hi) ⟨x.frm, x.slot, ⟨x.head.hi, xs[i].head.lo⟩⟩ (by simp [encVote])
  have h3 := h2.setK encVote_len (i := i) (by simpa using hi) (j := 3) (by omega) (.int .u64 x.head.lo) x (by simp [encVote])
  simpa using h3
theorem grown_setCells (g : Nat) : ∀ (vs : List Value) (o : Nat) (w : World), w.grownBy (w.setCells g o vs) (some g)
  | [], _, _ => ⟨rfl, rfl, rfl, Nat.le_refl _, fun _ _ _ => rfl⟩
  | v :: vs, o, w => (grown_setC w ⟨g, o, none⟩ v).trans (grown_setCells g vs (o + 1) _)
def zeroV : Array Value := #[.int .i64 0, .int .i64 0, .int .u64 0, .int .u64 0]
theorem run_clear_votes (w : World) (ty : TypeId) (b o n c : Nat) (hn : 0 < n) (hc : ∀ j, j < n * 4 → (w.cell? ⟨b, o + j, none⟩).isSome = true) (hf : ∀ j, j < n * 4 → w.frozen? ⟨b, o + j, none⟩ = false) :
    (Builtin.clear_ #[35] ty #[.slice (some ⟨b, o, none⟩) n c]).run Tryz.prog w = .ok (.tuple #[]) (w.setCells b o (Builtin.zeroCells zeroV n).toList) := by
  have hl : (Builtin.zeroCells zeroV n).toList.length = n * 4 := by simp [Builtin.zeroCells, zeroV]
  have hst := run_storeCells_cells (P := Tryz.prog) b o (Builtin.zeroCells zeroV n).toList 0 w (by rw [hl]; simpa using hc) (by rw [hl]; simpa using hf) (by
    intro v hv
    simp only [Builtin.zeroCells, Array.toList_map, List.mem_map] at hv
    obtain ⟨i, _, rfl⟩ := hv
    have : i % zeroV.size < 4 := Nat.mod_lt _ (by decide)
    match i % zeroV.size, this with
    | 0, _ => rfl
    | 1, _ => rfl
    | 2, _ => rfl
    | 3, _ => rfl)
  simp only [Nat.add_zero] at hst
  obtain ⟨m, rfl⟩ : ∃ m, n = m + 1 := ⟨n - 1, by omega⟩
  have hz := Tryz.zeroValue37
  have hcz : (Value.agg #[.int .i64 0, .int .i64 0, .int .u64 0, .int .u64 0]).cells = zeroV := rfl
  simp [Builtin.clear_, run_underlying Tryz.underlying35, hz, hcz, hst]
end Go.Proofs.YtdocgemfedohdaaGreat
/-! slices.DeleteFunc over votes, with a committee's method, walked. -/
namespace Go.Proofs.YtdocgemfedohdaaGreat
open Go.RowKit
def kept (cm : List Int) (l : List Vote) : List Vote := l.filter fun x => decide (x.frm ∈ cm)
theorem Own.rdV {w : World} {base : Nat} {e : TypeId} {g n cap : Nat} {xs : List Vote} (h : Own w base e 4 encVote (.slice (some ⟨g, 0, none⟩) n cap) xs) : Rd 4 encVote w (some ⟨g, 0, none⟩) xs := by
  obtain ⟨A, c, hv, hr⟩ := h.rd encVote_len
  injection hv with e1 e2 e3
  rw [e1]
  exact hr
theorem Own.lenV {w : World} {base : Nat} {e : TypeId} {g n cap : Nat} {xs : List Vote} (h : Own w base e 4 encVote (.slice (some ⟨g, 0, none⟩) n cap) xs) : n = xs.length := by
  obtain ⟨cur, _, _, h, _⟩ := h.blkI
  exact h
theorem Own.cellV {w : World} {base : Nat} {e : TypeId} {g n cap : Nat} {xs : List Vote} (h : Own w base e 4 encVote (.slice (some ⟨g, 0, none⟩) n cap) xs) {j : Nat} (hj : j < n * 4) : (∃ x, w.cell? ⟨g, j, none⟩ = some x) ∧ w.frozen? ⟨g, j, none⟩ = false := by
  obtain ⟨cur, hh, _, _, hle, _, hs, _⟩ := h.blkI
  have : j < cur.size := by rw [hs]; exact Nat.lt_of_lt_of_le hj (Nat.mul_le_mul_right 4 hle)
  exact ⟨⟨_, (blk_cell hh j).trans (Array.getElem?_eq_getElem this)⟩, blk_free hh j⟩
/-- What is behind the first i is cleared: they read as before. -/
theorem rd_cleared {w : World} {g i : Nat} {xs : List Vote} (h : Rd 4 encVote w (some ⟨g, 0, none⟩) xs) (hi : i ≤ xs.length) (vs : List Value) : Rd 4 encVote (w.setCells g (i * 4) vs) (some ⟨g, 0, none⟩) (xs.take i) := by
  refine ⟨by have := h.1; simp; omega, fun hne => ?_⟩
  have hne' : xs ≠ [] := fun e => hne (by rw [e]; simp)
  obtain ⟨b, o, hA, hlt, hc⟩ := h.2 hne'
  cases hA
  refine ⟨g, 0, rfl, Nat.lt_of_lt_of_le hlt (grown_setCells g vs (i * 4) w).size, fun q x hq j u hu => ?_⟩
  rw [List.getElem?_take] at hq
  split at hq
  · rename_i hqi
    have hj : j < 4 := by
      have h1 : j < (encVote x).length := by
        rcases Nat.lt_or_ge j (encVote x).length with h | h
        · exact h
        · rw [List.getElem?_eq_none h] at hu; cases hu
      rw [encVote_len] at h1; exact h1
    rw [World.cell?_setCells_out g vs (i * 4) w ⟨g, 0 + q * 4 + j, none⟩ (fun _ _ => .inl (by show 0 + q * 4 + j < i * 4; omega))]
    exact hc q x hq j u hu
  · cases hq
set_option maxRecDepth 100000 in
set_option maxHeartbeats 4000000 in
theorem deletef_any (l : List Vote) (hl : l.length ≤ 100000) (hne : 0 < l.length) (cm : List Int) (A2 : Option Addr) (g c0 k2 base : Nat) (w : World) (ho : Own w base 37 4 encVote (.slice (some ⟨g, 0, none⟩) l.length c0) l) (hr2 : Rd 1 encI w A2 cm)
    (hap : ∀ a, A2 = some a → some a.block ≠ some g) :
    Calls Tryz.prog 32 #[.slice (some ⟨g, 0, none⟩) l.length l.length, .func (.func 31) #[.slice A2 cm.length k2] #[]] w fun e w' =>
      e = .returned (.slice (some ⟨g, 0, none⟩) (kept cm l).length l.length) ∧ Rd 4 encVote w' (some ⟨g, 0, none⟩) (kept cm l) ∧ w.grownBy w' (some g) := by
  have hix := gindexf_any l cm (some ⟨g, 0, none⟩) A2 l.length k2 w ho.rdV hr2
  have hgl := (ho.base g rfl).2
  go_enter Tryz.func32, Tryz.ntmps32
  go_wp2_with fail
  refine hix.mono ?_
  clear hix
  rintro e w1 ⟨⟨rfl, hall⟩ | ⟨i0, rfl, htk, hi0, hx0⟩, hb1⟩
  · have hk : kept cm l = l := List.filter_eq_self.2 (fun x hx => by simpa using hall x hx)
    have hR := ho.rdV.below hb1
    have hk' := Lib.hid hk
    clear hall hk
    go_wp2_with fail
    go_ret
    rw [hk'.out]
    exact ⟨rfl, hR, gb_none hb1 _⟩
  · have ho1 := ho.below hb1
    have hg1 : w.grownBy w1 (some g) := gb_none hb1 _
    have hk0 : kept cm (l.take i0) = l.take i0 := List.filter_eq_self.2 (fun x hx => by simpa using htk x hx)
    have hk1 : kept cm (l.take (i0 + 1)) = l.take i0 := by
      rw [← List.take_append_getElem hi0, kept, List.filter_append]
      have h1 : (l.take i0).filter (fun x => decide (x.frm ∈ cm)) = l.take i0 := hk0
      rw [h1]
      simp [hx0]
    have hw1 : wrap64 ((i0 : Int) + 1) = (i0 + 1 : Nat) := by rw [w64_id (by omega) (by omega)]; omega
    have hni : ((i0 : Int) == -1) = false := by simp
    have hk1' := Lib.hid hk1
    clear htk hx0 hk0 hk1
    go_wp2_with fail
    clear hni
    go_loopw [5, 6, 7] (fun vi vj _ wr => ∃ (i j : Nat) (ss : List Vote), i < j ∧ j ≤ l.length ∧ vi = .int .i64 i ∧ vj = .int .i64 j ∧ Own wr base 37 4 encVote (.slice (some ⟨g, 0, none⟩) l.length c0) ss ∧ Hid (ss.take i = kept cm (l.take j)) ∧ Hid (∀ q, j ≤ q → ss[q]? = l[q]?) ∧ w.grownBy wr (some g)) (fun _ vj _ _ => l.length - (intOf vj).toNat)
    case atStart => exact ⟨i0, i0 + 1, l, by omega, hi0, rfl, by first | rfl | rw [hw1], ho1, Lib.hid hk1'.out.symm, Lib.hid (fun _ _ => rfl), hg1⟩
    case round =>
      clear ho1 hg1 hk1' hw1 hb1
      obtain ⟨i, j, ss, hij, hj, rfl, rfl, hs, htk, hrest, hg⟩ := hrel
      have hsl := hs.lenV
      by_cases hlt : j < l.length
      · have hjj := hrest.out j (Nat.le_refl _)
        rw [List.getElem?_eq_getElem (by omega), List.getElem?_eq_getElem hlt] at hjj
        replace hjj := Option.some.inj hjj
        obtain ⟨b, o, hAe, hbo, d0, d1, d2, d3⟩ := hs.rdV.atVote (i := j) (by omega)
        cases hAe
        obtain ⟨x, hx⟩ : ∃ x, l[j] = x := ⟨_, rfl⟩
        rw [hjj, hx] at d0 d1 d2 d3
        simp only [Nat.zero_add] at d0 d1 d2 d3
        have hsz := hg.size
        obtain ⟨W1, hW1⟩ : ∃ W1, wr.alloc (.cells #[.int .i64 x.frm, .int .i64 x.slot, .int .u64 x.head.hi, .int .u64 x.head.lo] 37) = W1 := ⟨_, rfl⟩
        have hB1 : Below wr.heap.size wr W1 := by subst hW1; exact (Below.refl _ wr).alloc (Nat.le_refl _) _
        have x1 : W1.heap[wr.heap.size]? = some (.cells #[.int .i64 x.frm, .int .i64 x.slot, .int .u64 x.head.hi, .int .u64 x.head.lo] 37 (0, 0)) := by subst hW1; exact ha_at rfl
        obtain ⟨q0, q1, q2, q3⟩ := blk4 x1
        have hou := bout_any x cm A2 k2 W1 ((hr2.grown hg hap).below hB1)
        have hls := Lib.hid (show kept cm (l.take (j + 1)) = kept cm (l.take j) ++ kept cm [x] by rw [← List.take_append_getElem hlt, hx]; simp [kept])
        by_cases hkx : x.frm ∈ cm
        · have hd : (!decide (x.frm ∈ cm)) = false := by simpa using hkx
          rw [hd] at hou
          have hkk := Lib.hid (show kept cm [x] = [x] by simp [kept, hkx])
          clear hkx hd
          unfold votev at hou
          have hst : ∀ W2, Below W1.heap.size W1 W2 → (W2.cell? ⟨wr.heap.size, 0, none⟩ = some (.int .i64 x.frm) ∧ W2.cell? ⟨wr.heap.size, 1, none⟩ = some (.int .i64 x.slot) ∧ W2.cell? ⟨wr.heap.size, 2, none⟩ = some (.int .u64 x.head.hi) ∧ W2.cell? ⟨wr.heap.size, 3, none⟩ = some (.int .u64 x.head.lo)) ∧
              ((∃ u, W2.cell? ⟨g, i * 4, none⟩ = some u) ∧ W2.frozen? ⟨g, i * 4, none⟩ = false) ∧ ((∃ u, W2.cell? ⟨g, i * 4 + 1, none⟩ = some u) ∧ W2.frozen? ⟨g, i * 4 + 1, none⟩ = false) ∧ ((∃ u, W2.cell? ⟨g, i * 4 + 2, none⟩ = some u) ∧ W2.frozen? ⟨g, i * 4 + 2, none⟩ = false) ∧ ((∃ u, W2.cell? ⟨g, i * 4 + 3, none⟩ = some u) ∧ W2.frozen? ⟨g, i * 4 + 3, none⟩ = false) ∧
              Own ((((W2.setCell ⟨g, i * 4, none⟩ (.int .i64 x.frm)).setCell ⟨g, i * 4 + 1, none⟩ (.int .i64 x.slot)).setCell ⟨g, i * 4 + 2, none⟩ (.int .u64 x.head.hi)).setCell ⟨g, i * 4 + 3, none⟩ (.int .u64 x.head.lo)) base 37 4 encVote (.slice (some ⟨g, 0, none⟩) l.length c0) (ss.set i x) ∧
              w.grownBy ((((W2.setCell ⟨g, i * 4, none⟩ (.int .i64 x.frm)).setCell ⟨g, i * 4 + 1, none⟩ (.int .i64 x.slot)).setCell ⟨g, i * 4 + 2, none⟩ (.int .u64 x.head.hi)).setCell ⟨g, i * 4 + 3, none⟩ (.int .u64 x.head.lo)) (some g) := fun W2 hb2 => by
            have hs2 := (hs.below hB1).below hb2
            obtain ⟨y0, y1, y2, y3⟩ := blk4 (bl_own hb2 x1)
            refine ⟨⟨y0, y1, y2, y3⟩, hs2.cellV (by omega), hs2.cellV (by omega), hs2.cellV (by omega), hs2.cellV (by omega), hs2.setVote (by omega) x, ?_⟩
            have hg2 := (hg.trans (gb_none hB1 (some g))).trans (gb_none hb2 (some g))
            exact (((hg2.trans (grown_setC W2 ⟨g, i * 4, none⟩ _)).trans (grown_setC _ ⟨g, i * 4 + 1, none⟩ _)).trans (grown_setC _ ⟨g, i * 4 + 2, none⟩ _)).trans (grown_setC _ ⟨g, i * 4 + 3, none⟩ _)
          have htk2 := Lib.hid (show (ss.set i x).take (i + 1) = kept cm (l.take (j + 1)) by
            rw [hls.out, hkk.out, ← htk.out]
            have hil : i < (ss.set i x).length := by simp; omega
            rw [← List.take_append_getElem hil]
            simp [List.take_set_of_le])
          have hrs2 := Lib.hid (show ∀ q, j + 1 ≤ q → (ss.set i x)[q]? = l[q]? from fun q hq => by
            rw [List.getElem?_set_ne (by omega)]; exact hrest.out q (by omega))
          have hst' := Lib.hid hst
          clear hst hx hjj hsl
          go_wp2_with (go_at_call 31; refine hou.mono ?_; clear hou; rintro e w2 ⟨rfl, hb2⟩; obtain ⟨⟨y0, y1, y2, y3⟩, ⟨⟨u0, p0⟩, f0⟩, ⟨⟨u1, p1⟩, f1⟩, ⟨⟨u2, p2⟩, f2⟩, ⟨⟨u3, p3⟩, f3⟩, hsn, hgn⟩ := hst'.out w2 hb2)
          go_roundw
          case rel => exact ⟨i + 1, j + 1, _, by omega, hlt, by go_num, by go_num, hsn, htk2, hrs2, hgn⟩
          case measure => simp [intOf]; omega
        · have hd : (!decide (x.frm ∈ cm)) = true := by simpa using hkx
          rw [hd] at hou
          have hkk := Lib.hid (show kept cm (l.take (j + 1)) = kept cm (l.take j) by rw [hls.out]; simp [kept, hkx])
          clear hkx hd
          unfold votev at hou
          have hs1 := hs.below hB1
          have hg1 := hg.trans (gb_none hB1 (some g))
          clear hx hjj hsl
          go_wp2_with (go_at_call 31; refine hou.mono ?_; clear hou; rintro e w2 ⟨rfl, hb2⟩)
          go_roundw
          case rel => exact ⟨i, j + 1, ss, by omega, hlt, rfl, by go_num, hs1.below hb2, Lib.hid (htk.out.trans hkk.out.symm), Lib.hid (fun q hq => hrest.out q (by omega)), hg1.trans (gb_none hb2 _)⟩
          case measure => simp [intOf]; omega
      · obtain rfl : j = l.length := by omega
        have hti := htk.out
        rw [List.take_length] at hti
        have hkl : (kept cm l).length = i := by rw [← hti]; simp; omega
        have hcl : ∀ ty, (Builtin.clear_ #[35] ty #[.slice (some ⟨g, i * 4, none⟩) (l.length - i) (l.length - i)]).run Tryz.prog wr = .ok (.tuple #[]) (wr.setCells g (i * 4) (Builtin.zeroCells zeroV (l.length - i)).toList) := fun ty =>
          run_clear_votes wr ty g (i * 4) (l.length - i) (l.length - i) (by omega) (fun q hq => by obtain ⟨⟨u, hu⟩, _⟩ := hs.cellV (j := i * 4 + q) (by omega); rw [hu]; rfl) (fun q hq => (hs.cellV (j := i * 4 + q) (by omega)).2)
        have hR := rd_cleared hs.rdV (i := i) (by omega) (Builtin.zeroCells zeroV (l.length - i)).toList
        rw [hti] at hR
        have hgn := hg.trans (grown_setCells g (Builtin.zeroCells zeroV (l.length - i)).toList (i * 4) wr)
        have hkl' := Lib.hid hkl
        have hti' := Lib.hid hti
        clear hti hkl htk hrest hsl
        have hie : decide ((i : Int) ≤ l.length) = true := by simp; omega
        go_wp2_with fail
        go_ret
        rw [hkl'.out]
        exact ⟨rfl, hR, hgn⟩
end Go.Proofs.YtdocgemfedohdaaGreat
/-! gold.Of, walked. -/
namespace Go.Proofs.YtdocgemfedohdaaGreat
open Go.RowKit
theorem Own.liesV {w : World} {base : Nat} {e : TypeId} {v : Value} {xs : List Vote} (h : Own w base e 4 encVote v xs) (hne : 0 < xs.length) : ∃ g cap, v = .slice (some ⟨g, 0, none⟩) xs.length cap ∧ base ≤ g ∧ g < w.heap.size ∧ xs.length ≤ cap := by
  have hb := h.base
  rcases h.2 with ⟨rfl, he⟩ | ⟨g, cap, cur, rfl, _⟩
  · omega
  · obtain ⟨_, _, _, _, hle, _⟩ := h.blkI
    exact ⟨g, cap, rfl, (hb g rfl).1, (hb g rfl).2, hle⟩
set_option maxRecDepth 100000 in
set_option maxHeartbeats 1000000 in
theorem deletef_empty (A A2 : Option Addr) (cm : List Int) (c k2 : Nat) (w : World) (hr2 : Rd 1 encI w A2 cm) :
    Calls Tryz.prog 32 #[.slice A 0 c, .func (.func 31) #[.slice A2 cm.length k2] #[]] w fun e w' => e = .returned (.slice A 0 c) ∧ Below w.heap.size w w' := by
  have hix : Calls Tryz.prog 49 #[.slice A 0 c, .func (.func 31) #[.slice A2 cm.length k2] #[]] w fun e w' => e = .returned (.int .i64 (-1)) ∧ Below w.heap.size w w' := by
    refine (gindexf_any [] cm A A2 c k2 w ⟨by simp, fun h => absurd rfl h⟩ hr2).mono ?_
    rintro e w1 ⟨⟨rfl, _⟩ | ⟨j, _, _, h, _⟩, hb1⟩
    · exact ⟨rfl, hb1⟩
    · exact absurd h (by simp)
  go_enter Tryz.func32, Tryz.ntmps32
  go_wp2_with (go_at_call 49; refine hix.mono ?_; clear hix; rintro e w1 ⟨rfl, hb1⟩)
  go_ret
  exact ⟨rfl, hb1⟩
theorem ofL_short {l : List Vote} {s : Int} (hl : l.length ≤ 100000) : (ofL l s).length ≤ 100000 := Nat.le_trans (ofL_len l s) hl
set_option maxRecDepth 100000 in
set_option maxHeartbeats 1000000 in
theorem gof_any (c : Cfg) (v : List Vote) (s : Int) (A Av : Option Addr) (k kv : Nat) (w : World) (hr : Rd 1 encI w A c.W) (hv : Rd 4 encVote w Av v) (hl : v.length ≤ 100000) :
    Calls Tryz.prog 14 #[cfgv A k c, .slice Av v.length kv, .int .i64 s] w fun e w' => ∃ A' k', e = .returned (.slice A' (goldOf c v s).length k') ∧ Rd 4 encVote w' A' (goldOf c v s) ∧ Below w.heap.size w w' := by
  have hof := fun W (hW : Below w.heap.size w W) => vof_any v s Av kv W (hv.below hW) hl
  have hcm := fun W (hW : Below w.heap.size w W) => committee_any c s A k W (hr.below hW)
  have hW : ∃ W, w.alloc (.cells #[.slice A c.W.length k, .int .u64 c.seed, .int .i64 c.epoch, .int .i64 c.num, .int .i64 c.den] 25) = W := ⟨_, rfl⟩
  obtain ⟨W, hW⟩ := hW
  have hB : Below w.heap.size w W := by subst hW; exact (Below.refl _ w).alloc (Nat.le_refl _) _
  have b0 : W.heap[w.heap.size]? = some (.cells #[.slice A c.W.length k, .int .u64 c.seed, .int .i64 c.epoch, .int .i64 c.num, .int .i64 c.den] 25 (0, 0)) := by subst hW; exact ha_at rfl
  obtain ⟨c0, c1, c2, c3, c4⟩ := blk5 b0
  have hgo : goldOf c v s = kept (comC c s) (ofL v s) := rfl
  rw [hgo]
  have hsh := ofL_short (s := s) hl
  generalize ofL v s = m at hof hsh hgo ⊢
  generalize comC c s = cm at hcm hgo ⊢
  clear hgo
  unfold cfgv at *
  by_cases hm : 0 < m.length
  · go_enter Tryz.func14, Tryz.ntmps14
    go_wp2_with (first
      | (go_at_call 30; refine (hof _ hB).mono ?_; clear hof; rintro e w2 ⟨u, rfl, ho2, hb2⟩; have hB2 := below_call hB hB.size hb2; obtain ⟨g, cp, hu, hg1, hg2, hcp⟩ := ho2.liesV hm; subst hu; obtain ⟨d0, d1, d2, d3, d4⟩ := blk5 (bl_own hb2 b0))
      | (go_at_call 9; refine (hcm _ hB2).mono ?_; clear hcm; rintro e w3 ⟨u3, rfl, ho3, hb3⟩; have hB3 := below_call hB2 hB2.size hb3; obtain ⟨A3, k3, hu3, hR3⟩ := ho3.rd encI_len; subst hu3))
    have hap : ∀ a, A3 = some a → some a.block ≠ some g := fun a ha e => by
      subst ha
      have h1 := (ho3.base a.block rfl).1
      have h2 := Option.some.inj e
      omega
    have hdf := deletef_any m hsh hm cm A3 g cp k3 W.heap.size w3 (ho2.below hb3) hR3 hap
    refine hdf.mono ?_
    clear hdf
    rintro e w4 ⟨rfl, hR4, hg4⟩
    have hB4 : Below w.heap.size w w4 := hB3.grown hg4 hB3.size (fun k e => by cases e; have := hB.size; omega)
    go_wp2_with fail
    go_ret
    exact ⟨_, _, rfl, hR4, hB4⟩
  · have hm0 : m = [] := List.length_eq_zero_iff.1 (by omega)
    subst hm0
    have hk0 : kept cm ([] : List Vote) = [] := rfl
    rw [hk0]
    clear hk0 hm hsh
    go_enter Tryz.func14, Tryz.ntmps14
    go_wp2_with (first
      | (go_at_call 30; refine (hof _ hB).mono ?_; clear hof; rintro e w2 ⟨u, rfl, ho2, hb2⟩; have hB2 := below_call hB hB.size hb2; obtain ⟨A5, k5, hu, _⟩ := ho2.rd encVote_len; simp only [List.length_nil] at hu; subst hu; obtain ⟨d0, d1, d2, d3, d4⟩ := blk5 (bl_own hb2 b0))
      | (go_at_call 9; refine (hcm _ hB2).mono ?_; clear hcm; rintro e w3 ⟨u3, rfl, ho3, hb3⟩; have hB3 := below_call hB2 hB2.size hb3; obtain ⟨A3, k3, hu3, hR3⟩ := ho3.rd encI_len; subst hu3)
      | (go_at_call 32; refine (deletef_empty _ A3 cm _ k3 w3 hR3).mono ?_; rintro e w4 ⟨rfl, hb4⟩))
    go_ret
    exact ⟨A5, 0, rfl, ⟨by simp, fun h => absurd rfl h⟩, below_call hB3 hB3.size hb4⟩
end Go.Proofs.YtdocgemfedohdaaGreat
/-! quick's test of a slot, and its two closures, walked. -/
namespace Go.Proofs.YtdocgemfedohdaaGreat
open Go.RowKit
/-- What the closures hold. -/
structure TestAt (W : World) (A A2 A3 A4 : Option Addr) (k k2 k3 k4 Bc Bw Bv Bn : Nat) (c : Cfg) (l : List Blk) (nv : Nat) (m : List Vote) (all : Int) : Prop where
  hc : W.heap[Bc]? = some (.cells #[.slice A c.W.length k, .int .u64 c.seed, .int .i64 c.epoch, .int .i64 c.num, .int .i64 c.den] 25 (0, 0))
  hw : W.heap[Bw]? = some (.cells #[.slice A2 l.length k2, .slice A3 nv k3] 40 (0, 0))
  hv : W.heap[Bv]? = some (.cells #[.slice A4 m.length k4] 35 (0, 0))
  hn : W.heap[Bn]? = some (.cells #[.int .i64 all] 3 (0, 0))
  r1 : Rd 1 encI W A c.W
  r2 : Rd 5 encBlk W A2 l
  r4 : Rd 4 encVote W A4 m
theorem TestAt.below {W W' : World} {A A2 A3 A4 : Option Addr} {k k2 k3 k4 Bc Bw Bv Bn : Nat} {c : Cfg} {l : List Blk} {nv : Nat} {m : List Vote} {all : Int} (h : TestAt W A A2 A3 A4 k k2 k3 k4 Bc Bw Bv Bn c l nv m all) (hb : Below W.heap.size W W') : TestAt W' A A2 A3 A4 k k2 k3 k4 Bc Bw Bv Bn c l nv m all :=
  ⟨bl_own hb h.hc, bl_own hb h.hw, bl_own hb h.hv, bl_own hb h.hn, h.r1.below hb, h.r2.below hb, h.r4.below hb⟩
def onF (Bc Bw Bv : Nat) : Value := .func (.func 42) #[] #[.pointer (some ⟨Bc, 0, none⟩), .pointer (some ⟨Bw, 0, none⟩), .pointer (some ⟨Bv, 0, none⟩)]
def sureF (Bc Bn : Nat) : Value := .func (.func 44) #[] #[.pointer (some ⟨Bc, 0, none⟩), .pointer (some ⟨Bn, 0, none⟩)]
set_option maxRecDepth 100000 in
set_option maxHeartbeats 2000000 in
theorem of1q_any {A A2 A3 A4 : Option Addr} {k k2 k3 k4 Bc Bw Bv Bn : Nat} {c : Cfg} {l : List Blk} {nv : Nat} {m : List Vote} {all : Int} (x : ID) (w : World) (h : TestAt w A A2 A3 A4 k k2 k3 k4 Bc Bw Bv Bn c l nv m all) (hl : l.length ≤ 100000) (hvl : m.length ≤ 100000) :
    Calls Tryz.prog 42 #[idv x, .pointer (some ⟨Bc, 0, none⟩), .pointer (some ⟨Bw, 0, none⟩), .pointer (some ⟨Bv, 0, none⟩)] w fun e w' => e = .returned (.int .i64 (onC c l m x)) ∧ Below w.heap.size w w' := by
  have hon := fun V (hV : Below w.heap.size w V) => on_any c l m x A A2 A4 k k2 k4 V (h.below hV).r1 (h.below hV).r2 (h.below hV).r4 hl hvl
  obtain ⟨n, hn⟩ : ∃ n, onC c l m x = n := ⟨_, rfl⟩
  rw [hn] at hon ⊢
  clear hn
  have hW : ∃ W, w.alloc (.cells #[.int .u64 x.hi, .int .u64 x.lo] 28) = W := ⟨_, rfl⟩
  obtain ⟨W, hW⟩ := hW
  have hB : Below w.heap.size w W := by subst hW; exact (Below.refl _ w).alloc (Nat.le_refl _) _
  have b0 : W.heap[w.heap.size]? = some (.cells #[.int .u64 x.hi, .int .u64 x.lo] 28 (0, 0)) := by subst hW; exact ha_at rfl
  have hS := h.below hB
  obtain ⟨c0, c1, c2, c3, c4⟩ := blk5 hS.hc
  obtain ⟨d0, d1, _, _⟩ := blk2 hS.hw
  obtain ⟨d2, _⟩ := blk1 hS.hv
  obtain ⟨e0, e1, _, _⟩ := blk2 b0
  have hon' := hon _ hB
  clear h hS hon
  unfold cfgv idv at *
  go_enter Tryz.func42, Tryz.ntmps42
  go_wp2_with (go_at_call 43; (with_reducible refine hon'.mono ?_); clear hon'; rintro e w1 ⟨rfl, hb1⟩; have hB1 := below_call hB hB.size hb1)
  go_ret
  exact ⟨rfl, hB1⟩
set_option maxRecDepth 100000 in
set_option maxHeartbeats 2000000 in
theorem of2q_any {A A2 A3 A4 : Option Addr} {k k2 k3 k4 Bc Bw Bv Bn : Nat} {c : Cfg} {l : List Blk} {nv : Nat} {m : List Vote} {all : Int} (n : Int) (w : World) (h : TestAt w A A2 A3 A4 k k2 k3 k4 Bc Bw Bv Bn c l nv m all) (hn : 0 ≤ n ∧ n ≤ 13194139533312) (hc : NumFew c) :
    Calls Tryz.prog 44 #[.int .i64 n, .pointer (some ⟨Bc, 0, none⟩), .pointer (some ⟨Bn, 0, none⟩)] w fun e w' => e = .returned (.bool (sureN c all n)) ∧ Below w.heap.size w w' := by
  have hmo := more_any (2 * n) c.den all (c.den + 2 * c.num) w
  have hr : moreB (2 * n) c.den all (c.den + 2 * c.num) = sureN c all n := rfl
  rw [hr] at hmo
  obtain ⟨r, hrr⟩ : ∃ r, sureN c all n = r := ⟨_, rfl⟩
  rw [hrr] at hmo ⊢
  obtain ⟨c0, c1, c2, c3, c4⟩ := blk5 h.hc
  obtain ⟨d0, _⟩ := blk1 h.hn
  obtain ⟨⟨h1, h2⟩, h3, h4⟩ := hc
  obtain ⟨h5, h6⟩ := hn
  have k1 : wrap64 (2 * n) = 2 * n := by unfold wrap64; omega
  have k2 : wrap64 (2 * c.num) = 2 * c.num := by unfold wrap64; omega
  have k3 : wrap64 (c.den + 2 * c.num) = c.den + 2 * c.num := by unfold wrap64; omega
  clear h hr hrr
  go_enter Tryz.func44, Tryz.ntmps44
  go_wp2_with (go_at_call 45; (with_reducible refine hmo.mono ?_); clear hmo; rintro e w1 ⟨rfl, hb1⟩)
  go_ret
  exact ⟨rfl, hb1⟩
end Go.Proofs.YtdocgemfedohdaaGreat
/-! The walk of ghost.rank's above. -/
namespace Go.Proofs.YtdocgemfedohdaaGreat
open Go.RowKit
def rankv (n : Int) (x : ID) : Value := .agg #[.int .i64 n, .int .u64 x.hi, .int .u64 x.lo]
def aboveB (m n : Int) (x y : ID) : Bool := decide (n < m) || decide (m = n) && idLess y x
theorem idl_irr (x : ID) : idLess x x = false := by unfold idLess; simp
end Go.Proofs.YtdocgemfedohdaaGreat
/-! The walk of ghost.Best. -/
namespace Go.Proofs.YtdocgemfedohdaaGreat
open Go.RowKit
/-- The best of some, and what is on it; -1: there is none. -/
def bestR (f : ID → Int) : List ID → Int × ID
  | [] => (-1, zid)
  | k :: ks => (f (ks.foldl (pick f) k), ks.foldl (pick f) k)
theorem bestR_snoc {f : ID → Int} {ks : List ID} {x : ID} (hx : 0 ≤ f x) : bestR f (ks ++ [x]) = if aboveB (f x) (bestR f ks).1 x (bestR f ks).2 then (f x, x) else bestR f ks := by
  cases ks with
  | nil =>
    have : aboveB (f x) (-1) x zid = true := by
      unfold aboveB
      have : decide ((-1 : Int) < f x) = true := by simp; omega
      rw [this]; rfl
    simp only [List.nil_append, bestR, List.foldl_nil, this, if_true]
  | cons k ks =>
    simp only [List.cons_append, bestR, List.foldl_append, List.foldl_cons, List.foldl_nil]
    show (f (pick f (ks.foldl (pick f) k) x), pick f (ks.foldl (pick f) k) x) = if beats f (ks.foldl (pick f) k) x = true then (f x, x) else (f (ks.foldl (pick f) k), ks.foldl (pick f) k)
    unfold pick
    split <;> rfl
theorem bestR_low {f : ID → Int} (hf : ∀ x, 0 ≤ f x) (ks : List ID) : (0 ≤ (bestR f ks).1) = (ks ≠ []) := by
  cases ks with
  | nil => simp [bestR]
  | cons k ks => simp [bestR, hf]
theorem bestR_bd {f : ID → Int} (hf : ∀ x, 0 ≤ f x ∧ f x ≤ 13194139533312) (ks : List ID) : -1 ≤ (bestR f ks).1 ∧ (bestR f ks).1 ≤ 13194139533312 := by
  cases ks with
  | nil => simp [bestR]
  | cons k ks =>
    have := hf (ks.foldl (pick f) k)
    simp only [bestR]; omega
theorem blk3 {w : World} {b : Nat} {x0 x1 x2 : Value} {T : TypeId} (h : w.heap[b]? = some (.cells #[x0, x1, x2] T (0, 0))) : w.cell? ⟨b, 0, none⟩ = some x0 ∧ w.cell? ⟨b, 1, none⟩ = some x1 ∧ w.cell? ⟨b, 2, none⟩ = some x2 ∧ w.frozen? ⟨b, 0, none⟩ = false ∧ w.frozen? ⟨b, 1, none⟩ = false ∧ w.frozen? ⟨b, 2, none⟩ = false :=
  ⟨blk_cell h 0, blk_cell h 1, blk_cell h 2, blk_free h 0, blk_free h 1, blk_free h 2⟩
theorem set3 {w : World} {b : Nat} {x y z : Value} {T : TypeId} (h : w.heap[b]? = some (.cells #[x, y, z] T (0, 0))) (u v t : Value) :
    (((w.setCell ⟨b, 0, none⟩ u).setCell ⟨b, 1, none⟩ v).setCell ⟨b, 2, none⟩ t).heap[b]? = some (.cells #[u, v, t] T (0, 0)) ∧ w.grownBy (((w.setCell ⟨b, 0, none⟩ u).setCell ⟨b, 1, none⟩ v).setCell ⟨b, 2, none⟩ t) (some b) := by
  refine ⟨?_, grown_trans (grown_trans (grown_set _ _ _) (grown_set _ _ _)) (grown_set _ _ _)⟩
  rw [heap_setCell_same _ _ _ _ _ _ (heap_setCell_same _ _ _ _ _ _ (heap_setCell_same _ _ _ _ _ _ h))]
  rfl
end Go.Proofs.YtdocgemfedohdaaGreat
/-! The walk of ghost.Head. -/
namespace Go.Proofs.YtdocgemfedohdaaGreat
open Go.RowKit
/-- The ID that lies in a block. -/
def idIn (W : World) (B : Nat) : ID := match W.heap[B]? with
  | some (.cells cs _ _) => ⟨intOf (cs.getD 0 undef), intOf (cs.getD 1 undef)⟩
  | _ => zid
theorem idIn_at {W : World} {B T : Nat} {x : ID} (h : W.heap[B]? = some (.cells #[.int .u64 x.hi, .int .u64 x.lo] T (0, 0))) : idIn W B = x := by
  unfold idIn
  rw [h]
  rfl
theorem gh_step {l : List Blk} {f : ID → Int} {r x k0 : ID} {ks : List ID} {n : Nat} (h : headGo l f n x = r) (hn : l.length + 1 ≤ n + (chain l x).length) (hks : kids l x = k0 :: ks) :
    ∃ n', headGo l f n' (ks.foldl (pick f) k0) = r ∧ l.length + 1 ≤ n' + (chain l (ks.foldl (pick f) k0)).length ∧ l.length + 1 - (chain l (ks.foldl (pick f) k0)).length < l.length + 1 - (chain l x).length := by
  have hk := pick_kids (wt := f) hks
  have h1 := kids_room hk
  have h2 := (kids_chain hk).1
  cases n with
  | zero => omega
  | succ n =>
    rw [headGo_cons hks] at h
    refine ⟨n, h, ?_, ?_⟩ <;> (rw [h2, List.length_cons]; omega)
theorem gh_start {l : List Blk} (f : ID → Int) : ∃ n, headGo l f n zid = headBy l f ∧ l.length + 1 ≤ n + (chain l zid).length := ⟨l.length + 1, headGo_more, by omega⟩
end Go.Proofs.YtdocgemfedohdaaGreat
/-! gold.Head, walked. -/
namespace Go.Proofs.YtdocgemfedohdaaGreat
open Go.RowKit
theorem gold_len2 {c : Cfg} {v : List Vote} {s : Int} (hl : v.length ≤ 100000) : (goldOf c v s).length ≤ 100000 := Nat.le_trans (goldOf_len c v s) hl
theorem cv7 {W : World} {N : Nat} {a b c d e x y : Value} {T T2 : TypeId} (h : W.heap[N]? = some (.cells #[a, b, c, d, e] T (0, 0))) (h2 : W.heap[N + 1]? = some (.cells #[x, y] T2 (0, 0))) :
    W.cell? ⟨N, 0, none⟩ = some a ∧ W.cell? ⟨N, 1, none⟩ = some b ∧ W.cell? ⟨N, 2, none⟩ = some c ∧ W.cell? ⟨N, 3, none⟩ = some d ∧ W.cell? ⟨N, 4, none⟩ = some e ∧ W.cell? ⟨N + 1, 0, none⟩ = some x ∧ W.cell? ⟨N + 1, 1, none⟩ = some y :=
  ⟨blk_cell h 0, blk_cell h 1, blk_cell h 2, blk_cell h 3, blk_cell h 4, blk_cell h2 0, blk_cell h2 1⟩
end Go.Proofs.YtdocgemfedohdaaGreat
