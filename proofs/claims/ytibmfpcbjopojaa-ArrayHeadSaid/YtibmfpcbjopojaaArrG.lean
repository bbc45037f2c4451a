/- Where an ID is in an array, walked. -/
import Derived.Test.YtibmfpcbjopojaaArrF
import Derived.Test.YtibmfpcbjopojaaGA
namespace Go.Proofs.Ytibmfpcbjopojaa
open Go.RowKit
def findI (a : List Item) (id : ID) : Int := idxI (a.map (·.id)) id
theorem find_hit {a : List Item} {id : ID} {k : Nat} (hlt : k < a.length) (hno : ∀ j, j < k → (itm a j).id ≠ id) (h : (itm a k).id = id) : findI a id = k := by
  refine idx_hit (by simpa using hlt) (fun hm => ?_) (by rw [List.getElem_map, ← itm_lt hlt, h])
  obtain ⟨j, hj, he⟩ := List.mem_take_iff_getElem.1 hm
  rw [List.length_map] at hj
  refine hno j (by omega) ?_
  rw [itm_lt (by omega), ← he, List.getElem_map]
theorem find_miss {a : List Item} {id : ID} (hno : ∀ j, j < a.length → (itm a j).id ≠ id) : findI a id = -1 := by
  refine idx_miss (fun hm => ?_)
  obtain ⟨x, hx, he⟩ := List.mem_map.1 hm
  obtain ⟨j, hj, rfl⟩ := List.getElem_of_mem hx
  exact hno j hj (by rw [itm_lt hj]; exact he)
theorem find_spec (a : List Item) (id : ID) : (findI a id = -1 ∧ ∀ j, j < a.length → (itm a j).id ≠ id) ∨ ∃ k : Nat, k < a.length ∧ findI a id = k ∧ (itm a k).id = id ∧ ∀ j, j < k → (itm a j).id ≠ id := by
  have key : ∀ n, n ≤ a.length → (∀ j, j < n → (itm a j).id ≠ id) ∨ ∃ k : Nat, k < n ∧ (itm a k).id = id ∧ ∀ j, j < k → (itm a j).id ≠ id := by
    intro n
    induction n with
    | zero => intro _; exact .inl (fun j hj => by omega)
    | succ n ih =>
      intro hn
      rcases ih (by omega) with h | ⟨k, h1, h2, h3⟩
      · by_cases e : (itm a n).id = id
        · exact .inr ⟨n, by omega, e, h⟩
        · exact .inl (fun j hj => if e2 : j = n then by subst e2; exact e else h j (by omega))
      · exact .inr ⟨k, by omega, h2, h3⟩
  rcases key a.length (Nat.le_refl _) with h | ⟨k, h1, h2, h3⟩
  · exact .inl ⟨find_miss h, h⟩
  · exact .inr ⟨k, h1, find_hit h1 h3 h2, h2, h3⟩
set_option maxRecDepth 100000 in
set_option maxHeartbeats 1000000 in
theorem find1_any (x : Item) (id : ID) (Bi : Nat) (w : World) (h : w.heap[Bi]? = some (.cells #[.int .u64 id.hi, .int .u64 id.lo] 29 (0, 0))) :
    Calls Try.prog 87 #[itemv x, .pointer (some ⟨Bi, 0, none⟩)] w fun e w' => e = .returned (.bool (decide (x.id = id))) ∧ Below w.heap.size w w' := by
  unfold itemv
  have hW : ∃ W, w.alloc (.cells #[.int .u64 x.id.hi, .int .u64 x.id.lo, .int .i64 x.par, .int .i64 x.own, .int .i64 x.w, .int .i64 x.best, .int .i64 x.head] 103) = W := ⟨_, rfl⟩
  obtain ⟨W, hW⟩ := hW
  have hB : Below w.heap.size w W := by subst hW; exact (Below.refl _ w).alloc (Nat.le_refl _) _
  have b0 : W.heap[w.heap.size]? = some (.cells #[.int .u64 x.id.hi, .int .u64 x.id.lo, .int .i64 x.par, .int .i64 x.own, .int .i64 x.w, .int .i64 x.best, .int .i64 x.head] 103 (0, 0)) := by subst hW; exact ha_at rfl
  obtain ⟨c0, c1, c2, c3, c4, c5, c6⟩ := blk7 b0
  obtain ⟨d0, d1, _, _⟩ := blk2 (bl_own hB h)
  have heq := eql_idw x.id id
  obtain ⟨q, hq⟩ : ∃ q, decide (x.id = id) = q := ⟨_, rfl⟩
  rw [hq] at heq ⊢
  clear hq
  go_enter Try.func87, Try.ntmps87
  go_wp2_with fail
  go_ret
  exact ⟨rfl, hB⟩
set_option maxRecDepth 100000 in
set_option maxHeartbeats 1000000 in
theorem indexf_any (a : List Item) (id : ID) (A : Option Addr) (c Bi : Nat) (w : World) (hr : Rd 7 encItem w A a) (h : w.heap[Bi]? = some (.cells #[.int .u64 id.hi, .int .u64 id.lo] 29 (0, 0))) :
    Calls Try.prog 86 #[.slice A a.length c, .func (.func 87) #[] #[.pointer (some ⟨Bi, 0, none⟩)]] w fun e w' => e = .returned (.int .i64 (findI a id)) ∧ Below w.heap.size w w' := by
  have hm := hr.1
  have hf := fun x V hV => find1_any x id Bi V hV
  unfold itemv at hf
  go_enter Try.func86, Try.ntmps86
  go_wp2_with fail
  go_loopw [5, 8] (fun x' i wr => ∃ k : Nat, k ≤ a.length ∧ i = .int .i64 k ∧ (∀ j, j < k → (itm a j).id ≠ id) ∧ Below w.heap.size w wr) (fun _ i _ => a.length - (intOf i).toNat)
  case atStart => exact ⟨0, Nat.zero_le _, rfl, fun j hj => by omega, Below.refl _ _⟩
  case round =>
    obtain ⟨k, hk, rfl, hno, hB⟩ := hrel
    by_cases hlt : k < a.length
    · obtain ⟨b, o, rfl, hbo, d0, d1, d2, d3, d4, d5, d6⟩ := (hr.below hB).atItem hlt
      have hf1 := hf (itm a k) wr (bl_own hB h)
      clear hf
      by_cases hx : (itm a k).id = id
      · have hd : decide ((itm a k).id = id) = true := by simpa using hx
        rw [hd] at hf1
        have hi := Lib.hid (find_hit hlt hno hx)
        clear hd hx hno
        go_wp2_with (go_at_call 87; refine hf1.mono ?_; clear hf1; rintro e w1 ⟨rfl, hb1⟩; have hB1 := below_call hB hB.size hb1)
        go_ret
        exact ⟨ret_int hi.out.symm, hB1⟩
      · have hd : decide ((itm a k).id = id) = false := by simpa using hx
        rw [hd] at hf1
        have hn : ∀ j, j < k + 1 → (itm a j).id ≠ id := fun j hj => if e2 : j = k then by subst e2; exact hx else hno j (by omega)
        have hn' := Lib.hid hn
        clear hd hx hn hno
        go_wp2_with (go_at_call 87; refine hf1.mono ?_; clear hf1; rintro e w1 ⟨rfl, hb1⟩; have hB1 := below_call hB hB.size hb1)
        go_roundw
        case rel => exact ⟨k + 1, hlt, by go_num, hn'.out, hB1⟩
        case measure => simp [intOf]; omega
    · obtain rfl : k = a.length := by omega
      have hi := Lib.hid (find_miss hno)
      clear hno hf
      go_wp2_with fail
      go_ret
      exact ⟨ret_int hi.out.symm, hB⟩
set_option maxRecDepth 100000 in
set_option maxHeartbeats 1000000 in
theorem find_any (a : List Item) (id : ID) (A : Option Addr) (c : Nat) (w : World) (hr : Rd 7 encItem w A a) :
    Calls Try.prog 60 #[.slice A a.length c, idv id] w fun e w' => e = .returned (.int .i64 (findI a id)) ∧ Below w.heap.size w w' := by
  unfold idv
  have hW : ∃ W, w.alloc (.cells #[.int .u64 id.hi, .int .u64 id.lo] 29) = W := ⟨_, rfl⟩
  obtain ⟨W, hW⟩ := hW
  have hB : Below w.heap.size w W := by subst hW; exact (Below.refl _ w).alloc (Nat.le_refl _) _
  have b0 : W.heap[w.heap.size]? = some (.cells #[.int .u64 id.hi, .int .u64 id.lo] 29 (0, 0)) := by subst hW; exact ha_at rfl
  have hx := indexf_any a id A c w.heap.size W (hr.below hB) b0
  go_enter Try.func60, Try.ntmps60
  go_wp2_with (go_at_call 86; refine hx.mono ?_; clear hx; rintro e w1 ⟨rfl, hb1⟩; have hB1 := below_call hB hB.size hb1)
  go_ret
  exact ⟨rfl, hB1⟩
end Go.Proofs.Ytibmfpcbjopojaa
