/- GB: several texts in one. -/
import Derived.Test.YtdocgemfedohdaaGreatGA
import Derived.Lib.Hide
import Derived.KernelRfl
import Derived.Deep.RegionHeld3
/-! The walks of tree.Name and slices.Index, slices.Contains of IDs. -/
namespace Go.Proofs.YtdocgemfedohdaaGreat
open Go.RowKit
def nameOf (b : Blk) : ID := mixOf [1, IntKind.u64.wrap b.slot, IntKind.u64.wrap b.frm, b.par.1, b.par.2, b.salt]
set_option maxRecDepth 100000 in
set_option maxHeartbeats 1000000 in
theorem name_any (b : Blk) (w : World) :
    Calls Tryz.prog 17 #[.agg #[.int .i64 b.slot, .int .i64 b.frm, .int .u64 b.par.1, .int .u64 b.par.2, .int .u64 b.salt]] w fun e w' => e = .returned (idv (nameOf b)) ∧ Below w.heap.size w w' := by
  go_enter Tryz.func17, Tryz.ntmps17
  go_wp2_with fail
  refine (of_any [1, IntKind.u64.wrap b.slot, IntKind.u64.wrap b.frm, b.par.1, b.par.2, b.salt] _ _ _ (Rd_newU (by simp) rfl (by simp))).mono ?_
  rintro e w1 ⟨rfl, hb⟩
  have hr : w1.heap[w.heap.size + 1]? = some (.cells #[.int .u64 0, .int .u64 0] 28 (0, 0)) := bl_own hb (ha_lt (ha_at (by simp)))
  obtain ⟨d0, d1, g0, g1⟩ := blk2 hr
  go_wp2
  refine bodyPost_ret (v := idv (nameOf b)) ?_ rfl ⟨rfl, ?_⟩
  · simp [results, Tryz.results17, go_sem, d0, d1, idv, nameOf]
  · exact ((below_call ((((Below.refl _ w).alloc (Nat.le_refl _) _).alloc (by simp <;> omega) _).alloc (by simp <;> omega) _) (by simp <;> omega) hb).setCell (p := ⟨w.heap.size + 1, 0, none⟩) (by simp) _).setCell (p := ⟨w.heap.size + 1, 1, none⟩) (by simp) _

/-- Where x is; -1: nowhere. -/
def idxI {α : Type} [DecidableEq α] (xs : List α) (x : α) : Int := match xs.findIdx? fun y => decide (y = x) with | some i => (i : Int) | none => -1
theorem idx_hit {α : Type} [DecidableEq α] {xs : List α} {x : α} {k : Nat} (hlt : k < xs.length) (hno : x ∉ xs.take k) (h : x = xs[k]) : idxI xs x = (k : Int) := by
  have : xs.findIdx? (fun y => decide (y = x)) = some k := by
    rw [List.findIdx?_eq_some_iff_getElem]
    refine ⟨hlt, by simp [h], fun j hj => ?_⟩
    have : xs[j] ≠ x := fun e => hno (by rw [← e]; exact List.mem_take_iff_getElem.2 ⟨j, by omega, rfl⟩)
    simpa using this
  unfold idxI
  rw [this]
theorem idx_miss {α : Type} [DecidableEq α] {xs : List α} {x : α} (hno : x ∉ xs) : idxI xs x = -1 := by
  have : xs.findIdx? (fun y => decide (y = x)) = none := by
    rw [List.findIdx?_eq_none_iff]
    intro y hy
    have : y ≠ x := fun e => hno (e ▸ hy)
    simpa using this
  unfold idxI
  rw [this]
theorem idx_mem {α : Type} [DecidableEq α] (xs : List α) (x : α) : decide (0 ≤ idxI xs x) = decide (x ∈ xs) := by
  by_cases h : x ∈ xs
  · obtain ⟨i, hi⟩ : ∃ i, xs.findIdx? (fun y => decide (y = x)) = some i := by
      cases hf : xs.findIdx? (fun y => decide (y = x)) with
      | some i => exact ⟨i, rfl⟩
      | none =>
        rw [List.findIdx?_eq_none_iff] at hf
        have := hf x h
        simp at this
    have : idxI xs x = (i : Int) := by unfold idxI; rw [hi]
    rw [this]
    simp [h]
  · rw [idx_miss h]
    simp [h]
theorem idx_low {α : Type} [DecidableEq α] (xs : List α) (x : α) : -1 ≤ idxI xs x := by
  unfold idxI
  cases xs.findIdx? (fun y => decide (y = x)) with
  | none => exact Int.le_refl _
  | some i => simp only; omega
theorem not_mem_step {α : Type} {xs : List α} {x : α} {k : Nat} (hlt : k < xs.length) (hno : x ∉ xs.take k) (h : ¬ x = xs[k]) : x ∉ xs.take (k + 1) := by
  rw [← List.take_append_getElem hlt]
  simp only [List.mem_append, List.mem_singleton]
  exact fun e => e.elim hno h
set_option maxRecDepth 100000 in
set_option maxHeartbeats 1000000 in
theorem index_any (x : ID) (xs : List ID) (A : Option Addr) (c : Nat) (w : World) (hr : Rd 2 encID w A xs) :
    Calls Tryz.prog 50 #[.slice A xs.length c, idv x] w fun e w' => e = .returned (.int .i64 (idxI xs x)) ∧ Below w.heap.size w w' := by
  unfold idv
  go_enter Tryz.func50, Tryz.ntmps50
  go_wp2_with fail
  have hm := hr.1
  go_loopw [5, 8] (fun x' i wr => ∃ k : Nat, k ≤ xs.length ∧ i = .int .i64 k ∧ x ∉ xs.take k ∧ wr.heap[w.heap.size]? = some (.cells #[.int .u64 x.1, .int .u64 x.2] 28 (0, 0)) ∧ Below w.heap.size w wr) (fun _ i _ => xs.length - (intOf i).toNat)
  case atStart => exact ⟨0, Nat.zero_le _, rfl, by simp, ha_at rfl, (Below.refl _ w).alloc (Nat.le_refl _) _⟩
  case round =>
    obtain ⟨k, hk, rfl, hno, hb, hB⟩ := hrel
    obtain ⟨c0, c1, f0, f1⟩ := blk2 hb
    by_cases hlt : k < xs.length
    · obtain ⟨b, o, rfl, hbo, d0, d1⟩ := (hr.below hB).atID hlt
      have heq := eql_id x xs[k]
      unfold idv at heq
      by_cases hx : x = xs[k]
      · have hd : decide (x = xs[k]) = true := by simpa using hx
        rw [hd] at heq
        have hi := Lib.hid (idx_hit hlt hno hx)
        clear hd hx
        go_wp2_with fail
        go_quiet (fail)
        go_wp2
        go_ret
        exact ⟨ret_int hi.out.symm, pw_below_drewN hB _⟩
      · have hd : decide (x = xs[k]) = false := by simpa using hx
        rw [hd] at heq
        have hn := not_mem_step hlt hno hx
        clear hd hx
        go_wp2_with fail
        go_quiet (fail)
        go_wp2
        go_roundw
        case rel => exact ⟨k + 1, hlt, by go_num, hn, hb, pw_below_drewN hB _⟩
        case measure => simp [intOf]; omega
    · obtain rfl : k = xs.length := by omega
      have hi := Lib.hid (idx_miss (by simpa using hno : x ∉ xs))
      go_wp2_with fail
      go_ret
      exact ⟨ret_int hi.out.symm, hB⟩
set_option maxRecDepth 100000 in
set_option maxHeartbeats 1000000 in
theorem contains_any (x : ID) (xs : List ID) (A : Option Addr) (c : Nat) (w : World) (hr : Rd 2 encID w A xs) :
    Calls Tryz.prog 33 #[.slice A xs.length c, idv x] w fun e w' => e = .returned (.bool (decide (x ∈ xs))) ∧ Below w.heap.size w w' := by
  have hi := Lib.hid (idx_mem xs x)
  have ht := index_any x xs A c (w.alloc (.cells #[.int .u64 x.1, .int .u64 x.2] 28)) (hr.below ((Below.refl _ w).alloc (Nat.le_refl _) _))
  unfold idv at *
  go_enter Tryz.func33, Tryz.ntmps33
  go_wp2_with (go_at_call 50; refine ht.mono ?_; clear ht; rintro e w' ⟨rfl, hb⟩)
  go_ret
  exact ⟨ret_bool hi.out, below_call ((Below.refl _ w).alloc (Nat.le_refl _) _) (by simp <;> omega) hb⟩
end Go.Proofs.YtdocgemfedohdaaGreat
/-! The walks of tree.places, Chain, May, Under, Kids. -/
namespace Go.Proofs.YtdocgemfedohdaaGreat
open Go.RowKit
def slotAt (l : List Blk) (p : Int) : Int := if p = -1 then 0 else (l[p.toNat]?.map (·.slot)).getD 0
def plStep (l : List Blk) (m : List (ID × Int)) (i : Nat) (b : Blk) : Option (List (ID × Int)) :=
  match mget m b.par with
  | none => none
  | some p => if b.slot ≤ slotAt l p then none else if (mget m (nameOf b)).isSome then none else some (mput m (nameOf b) i)
def plGo (l : List Blk) : List Blk → Nat → List (ID × Int) → Option (List (ID × Int))
  | [], _, m => some m
  | b :: bs, i, m => match plStep l m i b with
    | none => none
    | some m' => plGo l bs (i + 1) m'
def plc (l : List Blk) : Option (List (ID × Int)) := plGo l l 0 [(⟨0, 0⟩, -1)]
set_option maxRecDepth 100000 in
set_option maxHeartbeats 1000000 in
theorem slot_any (p : Int) (l : List Blk) (A : Option Addr) (c : Nat) (B T : Nat) (w : World) (hr : Rd 5 encBlk w A l) (hb : w.heap[B]? = some (.cells #[.slice A l.length c] T (0, 0))) (hp : p = -1 ∨ 0 ≤ p ∧ p < l.length) :
    Calls Tryz.prog 35 #[.int .i64 p, .pointer (some ⟨B, 0, none⟩)] w fun e w' => e = .returned (.int .i64 (slotAt l p)) ∧ w' = w := by
  obtain ⟨c0, f0⟩ := blk1 hb
  by_cases h : p = -1
  · subst h
    go_enter Tryz.func35, Tryz.ntmps35
    go_wp2_with fail
    go_ret
    exact ⟨rfl, rfl⟩
  · obtain ⟨k, rfl⟩ : ∃ k : Nat, p = k := ⟨p.toNat, by omega⟩
    have hlt : k < l.length := by omega
    obtain ⟨b, o, rfl, hbo, d0, d1, d2, d3, d4⟩ := hr.atBlk hlt
    have hs := Lib.hid (show slotAt l k = l[k].slot by unfold slotAt; rw [if_neg h]; simp [hlt])
    have hm := hr.1
    go_enter Tryz.func35, Tryz.ntmps35
    go_wp2_with fail
    go_ret
    exact ⟨ret_int hs.out.symm, rfl⟩
/-- What places tells. -/
def PlacesPost (w : World) (r : Option (List (ID × Int))) (e : Ending) (w' : World) : Prop :=
  (match r with
    | none => e = .returned (.tuple #[.map none, .bool false])
    | some m => ∃ M, e = .returned (.tuple #[.map (some M), .bool true]) ∧ w.heap.size ≤ M ∧ MapIs idv (Value.int .i64) w' M m) ∧ Below w.heap.size w w'
theorem PlacesPost.no {w w' : World} {r : Option (List (ID × Int))} (h : r = none) (hb : Below w.heap.size w w') : PlacesPost w r (.returned (.tuple #[.map none, .bool false])) w' := by
  subst h; exact ⟨rfl, hb⟩
theorem PlacesPost.yes {w w' : World} {r : Option (List (ID × Int))} {m : List (ID × Int)} {M : Nat} (h : r = some m) (hM : w.heap.size ≤ M) (hm : MapIs idv (Value.int .i64) w' M m) (hb : Below w.heap.size w w') : PlacesPost w r (.returned (.tuple #[.map (some M), .bool true])) w' := by
  subst h; exact ⟨⟨M, rfl, hM, hm⟩, hb⟩
theorem plGo_drop {l : List Blk} {k : Nat} (hlt : k < l.length) (m : List (ID × Int)) : plGo l (l.drop k) k m = match plStep l m k l[k] with | none => none | some m' => plGo l (l.drop (k + 1)) (k + 1) m' := by
  rw [List.drop_eq_getElem_cons hlt]; rfl
set_option maxRecDepth 100000 in
set_option maxHeartbeats 1000000 in
theorem places_any (l : List Blk) (A : Option Addr) (c : Nat) (w : World) (hr : Rd 5 encBlk w A l) :
    Calls Tryz.prog 20 #[.slice A l.length c] w (PlacesPost w (plc l)) := by
  have hm := hr.1
  have hmm := @run_makeMap Tryz.prog
  go_enter Tryz.func20, Tryz.ntmps20
  have hM0 : MapIs idv (Value.int .i64) ((w.alloc (.cells #[.slice A l.length c] 26)).alloc (.map #[] 0)) (w.heap.size + 1) ([] : List (ID × Int)) := MapIs_new _ _ (ha_at (by simp))
  go_wp2_with (refine wp_update rfl (.inr rfl) KeyID Tryz.underlying54 rfl (x := ⟨0, 0⟩) rfl (v := -1) rfl hM0 ?_; clear hM0)
  intro w1 hM1 hg1 hz1
  have hb1 : w1.heap[w.heap.size]? = some (.cells #[.slice A l.length c] 26 (0, 0)) := grown_own hg1 (ha_lt (ha_at rfl)) (by simp)
  obtain ⟨c1, f1⟩ := blk1 hb1
  have hB1 : Below w.heap.size w w1 := below_step (((Below.refl _ w).alloc (Nat.le_refl _) _).alloc (by simp) _) (by simp <;> omega) hg1 (by simp)
  go_wp2_with fail
  go_loopw [2, 3, 6, 7, 19] (fun s2 s3 s6 s7 i wr => ∃ (k : Nat) (m : List (ID × Int)), k ≤ l.length ∧ i = .int .i64 k ∧ MapIs idv (Value.int .i64) wr (w.heap.size + 1) m ∧ plGo l (l.drop k) k m = plc l ∧ (∀ q ∈ m, q.2 = -1 ∨ 0 ≤ q.2 ∧ q.2 < l.length) ∧
    wr.heap[w.heap.size]? = some (.cells #[.slice A l.length c] 26 (0, 0)) ∧ Below w.heap.size w wr) (fun _ _ _ _ i _ => l.length - (intOf i).toNat)
  case atStart => exact ⟨0, _, Nat.zero_le _, rfl, hM1, rfl, by simp [mput, mget], hb1, hB1⟩
  case round =>
    obtain ⟨k, m, hk, rfl, hM, hgo, hval, hb, hB⟩ := hrel
    by_cases hlt : k < l.length
    · obtain ⟨b', o, rfl, hbo, d0, d1, d2, d3, d4⟩ := (hr.below hB).atBlk hlt
      rw [plGo_drop hlt] at hgo
      obtain ⟨b, hbk⟩ : ∃ b, l[k] = b := ⟨_, rfl⟩
      rw [hbk] at d0 d1 d2 d3 d4 hgo
      have hMa := MapIs_alloc hM (.cells #[.int .i64 b.slot, .int .i64 b.frm, .int .u64 b.par.1, .int .u64 b.par.2, .int .u64 b.salt] 51)
      have hba : (wr.alloc (.cells #[.int .i64 b.slot, .int .i64 b.frm, .int .u64 b.par.1, .int .u64 b.par.2, .int .u64 b.salt] 51)).heap[w.heap.size]? = some (.cells #[.slice (some ⟨b', o, none⟩) l.length c] 26 (0, 0)) := ha_lt hb
      have hBa : Below w.heap.size w (wr.alloc (.cells #[.int .i64 b.slot, .int .i64 b.frm, .int .u64 b.par.1, .int .u64 b.par.2, .int .u64 b.salt] 51)) := hB.alloc hB.size _
      clear hbk
      cases hp : mget m b.par with
      | none =>
        have hres := Lib.hid (show plc l = none by rw [← hgo]; simp [plStep, hp])
        clear hgo
        go_wp2_with (at_lookup; refine wp_lookup (x := b.par) rfl rfl KeyID Tryz.underlying54 (Tryz.zeroValue3 _) rfl rfl hMa (r := .tuple #[.int .i64 0, .bool false]) (by rw [hp]; rfl) ?_)
        go_quiet (fail)
        go_wp2
        go_ret2
        exact PlacesPost.no hres.out (pw_below_drewN hBa _)
      | some p =>
        have hpv : p = -1 ∨ 0 ≤ p ∧ p < l.length := by
          unfold mget at hp
          obtain ⟨q, hq, rfl⟩ := Option.map_eq_some_iff.1 hp
          exact hval q (List.mem_of_find?_eq_some hq)
        have hslot := fun n => slot_any p l (some ⟨b', o, none⟩) c w.heap.size 26 ((wr.alloc (.cells #[.int .i64 b.slot, .int .i64 b.frm, .int .u64 b.par.1, .int .u64 b.par.2, .int .u64 b.salt] 51)).drewN n) (hr.below (pw_below_drewN hBa n)) hba hpv
        by_cases hs : b.slot ≤ slotAt l p
        · have hres := Lib.hid (show plc l = none by rw [← hgo]; simp [plStep, hp, hs])
          clear hgo hpv
          go_wp2_with (at_lookup; refine wp_lookup (x := b.par) rfl rfl KeyID Tryz.underlying54 (Tryz.zeroValue3 _) rfl rfl hMa (r := .tuple #[.int .i64 p, .bool true]) (by rw [hp]; rfl) ?_)
          go_quiet ((go_at_call 35; exact Calls.quiet_of_same (hslot _)))
          go_wp2
          go_ret2
          exact PlacesPost.no hres.out (pw_below_drewN hBa _)
        · have hd : decide (b.slot ≤ slotAt l p) = false := by simpa using hs
          clear hpv
          go_wp2_with (at_lookup; refine wp_lookup (x := b.par) rfl rfl KeyID Tryz.underlying54 (Tryz.zeroValue3 _) rfl rfl hMa (r := .tuple #[.int .i64 p, .bool true]) (by rw [hp]; rfl) ?_)
          go_quiet ((go_at_call 35; exact Calls.quiet_of_same (hslot _)))
          clear hslot
          have hMt := hMa
          have hbt := hba
          go_wp2_with fail
          refine (name_any b _).mono ?_
          rintro e w2 ⟨rfl, hb2⟩
          have hM2 : MapIs idv (Value.int .i64) w2 (w.heap.size + 1) m := MapIs_same hMa (hb2.block _ (MapIs_lt hMa))
          have hB2 : Below w.heap.size w w2 := below_call (pw_below_drewN hBa nq) (by simp; exact Nat.le_succ_of_le hB.size) hb2
          have hl2 : w2.heap[w.heap.size]? = some (.cells #[.slice (some ⟨b', o, none⟩) l.length c] 26 (0, 0)) := (hb2.block _ (lt_of_block hba)).trans hba
          clear hMa hba hMt hbt hb2
          have hM3 := MapIs_alloc hM2 (.cells #[.int .u64 (nameOf b).1, .int .u64 (nameOf b).2] 28)
          have hB3 := hB2.alloc hB2.size (.cells #[.int .u64 (nameOf b).1, .int .u64 (nameOf b).2] 28)
          have hl3 : (w2.alloc (.cells #[.int .u64 (nameOf b).1, .int .u64 (nameOf b).2] 28)).heap[w.heap.size]? = some (.cells #[.slice (some ⟨b', o, none⟩) l.length c] 26 (0, 0)) := ha_lt hl2
          unfold idv
          cases hn : mget m (nameOf b) with
          | some y =>
            have hres := Lib.hid (show plc l = none by rw [← hgo]; simp [plStep, hp, hn])
            clear hgo
            go_wp2_with (at_lookup; refine wp_lookup (x := nameOf b) rfl rfl KeyID Tryz.underlying54 (Tryz.zeroValue3 _) rfl rfl hM3 (r := .tuple #[.int .i64 y, .bool true]) (by rw [hn]; rfl) ?_)
            go_ret2
            exact PlacesPost.no hres.out hB3
          | none =>
            have hgo' := Lib.hid hgo
            clear hgo
            go_wp2_with (first | (at_lookup; refine wp_lookup (x := nameOf b) rfl rfl KeyID Tryz.underlying54 (Tryz.zeroValue3 _) rfl rfl hM3 (r := .tuple #[.int .i64 0, .bool false]) (by rw [hn]; rfl) ?_) | (at_mapUpdate; refine wp_update rfl (.inl rfl) KeyID Tryz.underlying54 rfl (x := nameOf b) rfl (v := (k : Int)) rfl hM3 ?_; intro w4 hM4 hg4 hz4))
            go_roundw
            case rel =>
              refine ⟨k + 1, mput m (nameOf b) k, hlt, by go_num, hM4, ?_, ?_, grown_own hg4 hl3 (by simp), below_step hB3 hB3.size hg4 (by simp)⟩
              · have hg := hgo'.out
                simp only [plStep, hp, if_neg (Int.not_le.2 hs), hn, Option.isSome_none, Bool.false_eq_true, if_false] at hg
                exact hg
              · intro q hq
                rcases mem_mput hq with h | h
                · exact hval q h
                · subst h; right; constructor <;> simp <;> omega
            case measure => simp [intOf]; omega
    · obtain rfl : k = l.length := by omega
      have hres := Lib.hid (show plc l = some m by rw [← hgo, List.drop_length]; rfl)
      clear hgo
      go_wp2_with fail
      go_ret2
      exact PlacesPost.yes hres.out (by omega) hM hB
theorem places_none {l : List Blk} (h : plc l = none) (A : Option Addr) (c : Nat) (w : World) (hr : Rd 5 encBlk w A l) :
    Calls Tryz.prog 20 #[.slice A l.length c] w fun e w' => e = .returned (.tuple #[.map none, .bool false]) ∧ Below w.heap.size w w' := by
  refine (places_any l A c w hr).mono ?_
  rw [h]
  exact fun e w' h => h
theorem places_some {l : List Blk} {m : List (ID × Int)} (h : plc l = some m) (A : Option Addr) (c : Nat) (w : World) (hr : Rd 5 encBlk w A l) :
    Calls Tryz.prog 20 #[.slice A l.length c] w fun e w' => ∃ M, e = .returned (.tuple #[.map (some M), .bool true]) ∧ w.heap.size ≤ M ∧ MapIs idv (Value.int .i64) w' M m ∧ Below w.heap.size w w' := by
  refine (places_any l A c w hr).mono ?_
  rw [h]
  rintro e w' ⟨⟨M, h1, h2, h3⟩, h4⟩
  exact ⟨M, h1, h2, h3, h4⟩
end Go.Proofs.YtdocgemfedohdaaGreat
/-! The walk of tree.Chain. -/
namespace Go.Proofs.YtdocgemfedohdaaGreat
open Go.RowKit
theorem infoID : (Tryz.prog.info? 28).map (fun i => (i.zero, i.size, i.bytes)) = some (some (.agg #[.int .u64 0, .int .u64 0]), 2, 16) := by kernel_rfl
theorem encID_len (x : ID) : (encID x).length = 2 := rfl
theorem encID_one (x : ID) : ∀ u ∈ encID x, u.oneCell' = true := by intro u hu; simp [encID] at hu; rcases hu with rfl | rfl <;> rfl
def parAt (l : List Blk) (i : Int) : ID := (l[i.toNat]?.map (·.par)).getD ⟨0, 0⟩
def chGo (l : List Blk) (m : List (ID × Int)) : Nat → ID → List ID
  | 0, _ => []
  | f + 1, id => id :: (match mget m id with
    | some i => if i = -1 then [] else chGo l m f (parAt l i)
    | none => [])
def chain (l : List Blk) (id : ID) : List ID :=
  match plc l with
  | none => []
  | some m => if (mget m id).isSome then chGo l m (l.length + 1) id else []
/-- What the walk leans on: a block's parent stands ahead of it. -/
def Ahead (l : List Blk) (m : List (ID × Int)) : Prop :=
  ∀ x i, mget m x = some i → i = -1 ∨ (0 ≤ i ∧ i < l.length ∧ ∃ j, mget m (parAt l i) = some j ∧ j < i ∧ -1 ≤ j)
theorem chain_zero {l : List Blk} {id : ID} (h : plc l = none ∨ ∃ m, plc l = some m ∧ mget m id = none) : chain l id = [] := by
  unfold chain
  rcases h with h | ⟨m, h, hn⟩
  · rw [h]
  · rw [h]; simp [hn]
set_option maxRecDepth 100000 in
set_option maxHeartbeats 1000000 in
theorem chain_none (l : List Blk) (id : ID) (A : Option Addr) (c : Nat) (w : World) (hr : Rd 5 encBlk w A l) (h : plc l = none) :
    Calls Tryz.prog 8 #[.slice A l.length c, idv id] w fun e w' => ∃ v, e = .returned v ∧ Own w' w.heap.size 28 2 encID v (chain l id) ∧ Below w.heap.size w w' := by
  have hm := hr.1
  have hc := Lib.hid (chain_zero (id := id) (.inl h))
  have hcall := fun W (hW : Below w.heap.size w W) => places_none h A c W (hr.below hW)
  unfold idv
  go_enter Tryz.func8, Tryz.ntmps8
  go_wp2_with fail
  go_step3
  go_wp2_with (first | (go_at_call 20; refine (hcall _ ((Below.refl _ w).alloc (Nat.le_refl _) _)).mono ?_; rintro e w1 ⟨rfl, hb⟩; obtain ⟨c0, c1, _, _⟩ := blk2 (bl_own hb (ha_at rfl))) | (at_lookup; refine wp_lookup_nil (x := id) rfl rfl KeyID Tryz.underlying54 (Tryz.zeroValue3 _) rfl rfl (r := .tuple #[.int .i64 0, .bool false]) rfl ?_))
  rw [Exit.noGoto_ret]
  go_ret
  refine ⟨_, rfl, ?_, below_call ((Below.refl _ w).alloc (Nat.le_refl _) _) (by simp) hb⟩
  rw [hc.out]
  exact Own.nil _ _ _ _ _
set_option maxRecDepth 100000 in
set_option maxHeartbeats 1000000 in
theorem chain_miss (l : List Blk) (id : ID) (m : List (ID × Int)) (A : Option Addr) (c : Nat) (w : World) (hr : Rd 5 encBlk w A l) (h : plc l = some m) (hn : mget m id = none) :
    Calls Tryz.prog 8 #[.slice A l.length c, idv id] w fun e w' => ∃ v, e = .returned v ∧ Own w' w.heap.size 28 2 encID v (chain l id) ∧ Below w.heap.size w w' := by
  have hm := hr.1
  have hc := Lib.hid (chain_zero (id := id) (.inr ⟨m, h, hn⟩))
  have hcall := fun W (hW : Below w.heap.size w W) => places_some h A c W (hr.below hW)
  unfold idv
  go_enter Tryz.func8, Tryz.ntmps8
  go_wp2_with fail
  go_step3
  go_wp2_with (first | (go_at_call 20; refine (hcall _ ((Below.refl _ w).alloc (Nat.le_refl _) _)).mono ?_; rintro e w1 ⟨M, rfl, hMl, hM, hb⟩; obtain ⟨c0, c1, _, _⟩ := blk2 (bl_own hb (ha_at rfl))) | (at_lookup; refine wp_lookup (x := id) rfl rfl KeyID Tryz.underlying54 (Tryz.zeroValue3 _) rfl rfl hM (r := .tuple #[.int .i64 0, .bool false]) (by rw [hn]; rfl) ?_))
  rw [Exit.noGoto_ret]
  go_ret
  refine ⟨_, rfl, ?_, below_call ((Below.refl _ w).alloc (Nat.le_refl _) _) (by simp) hb⟩
  rw [hc.out]
  exact Own.nil _ _ _ _ _
/-- What holds at the label 'down'. -/
def ChainAt (l : List Blk) (id : ID) (m : List (ID × Int)) (i : Int) (A : Option Addr) (c : Nat) (w : World) (a : Act) (W : World) : Prop :=
  ∃ (M : Nat) (v u10 u24 u25 u26 u27 u28 u29 u30 u31 u32 u33 u34 u35 u36 u37 : Value) (acc : List ID) (x : ID) (j : Int) (f : Nat), a = { tmps := #[.slice A l.length c, .agg #[.int .u64 id.hi, .int .u64 id.lo], undef, .pointer (some ⟨w.heap.size, 0, none⟩), .slice none 0 0, .map (some M), .bool true, .int .i64 i, .bool true, v, u10, .tuple #[.map (some M), .bool true], .slice A l.length c, .tuple #[.map (some M), .bool true], .map (some M), .bool true, .tuple #[.int .i64 i, .bool true], .map (some M), .agg #[.int .u64 id.hi, .int .u64 id.lo], .tuple #[.int .i64 i, .bool true], .int .i64 i, .bool true, .bool true, .bool false, u24, u25, u26, u27, u28, u29, u30, u31, u32, u33, u34, u35, u36, u37, undef], defers := [] } ∧
    MapIs idv (Value.int .i64) W M m ∧ w.heap.size + 1 ≤ M ∧ W.heap[w.heap.size]? = some (.cells #[.int .u64 x.hi, .int .u64 x.lo] 28 (0, 0)) ∧ Own W (w.heap.size + 1) 28 2 encID v acc ∧ Below w.heap.size w W ∧
    mget m x = some j ∧ -1 ≤ j ∧ j + 2 ≤ f ∧ acc ++ chGo l m f x = chain l id ∧ acc.length + j + 1 ≤ l.length
theorem lenV_own {α : Type} {w : World} {base : Nat} {e : TypeId} {k : Nat} {enc : α → List Value} {v : Value} {xs : List α} (h : Own w base e k enc v xs) : lenV v = xs.length := by
  obtain ⟨_, h2⟩ := h
  rcases h2 with ⟨rfl, h0⟩ | ⟨g, cap, cur, rfl, _⟩
  · simp [lenV, h0]
  · rfl
set_option maxRecDepth 100000 in
set_option maxHeartbeats 1000000 in
theorem chain_hit (l : List Blk) (id : ID) (m : List (ID × Int)) (i : Int) (A : Option Addr) (c : Nat) (w : World) (hr : Rd 5 encBlk w A l) (h : plc l = some m) (hn : mget m id = some i) (hA : Ahead l m) (hi : -1 ≤ i) (hl : l.length ≤ 100000) :
    Calls Tryz.prog 8 #[.slice A l.length c, idv id] w fun e w' => ∃ v, e = .returned v ∧ Own w' w.heap.size 28 2 encID v (chain l id) ∧ Below w.heap.size w w' := by
  have hm := hr.1
  have hcall := fun W (hW : Below w.heap.size w W) => places_some h A c W (hr.below hW)
  have hres : chGo l m (l.length + 1) id = chain l id := by unfold chain; rw [h]; simp [hn]
  have hil : i + 1 ≤ l.length := by
    rcases hA id i hn with e | ⟨_, e, _⟩ <;> omega
  unfold idv
  go_enter Tryz.func8, Tryz.ntmps8
  go_wp2_with fail
  refine wp_scope_loop 0 (ChainAt l id m i A c w) (fun a' _ => l.length + 2 - lenV (a'.tmps.getD 9 undef)) rfl ?pass ?first
  case first =>
    intro hpass
    go_wp2_with (first | (go_at_call 20; refine (hcall _ ((Below.refl _ w).alloc (Nat.le_refl _) _)).mono ?_; rintro e w1 ⟨M, rfl, hMl, hM, hb⟩; obtain ⟨c0, c1, _, _⟩ := blk2 (bl_own hb (ha_at rfl))) | (at_lookup; refine wp_lookup (x := id) rfl rfl KeyID Tryz.underlying54 (Tryz.zeroValue3 _) rfl rfl hM (r := .tuple #[.int .i64 i, .bool true]) (by rw [hn]; rfl) ?_))
    go_step3
    simp only [Exit.then]
    rename_i hk
    refine hk _ _ (hpass _ _ ?_)
    exact ⟨M, .slice none 0 0, undef, undef, undef, undef, undef, undef, undef, undef, undef, undef, undef, undef, undef, undef, undef, [], id, i, l.length + 1, rfl, hM, by simpa using hMl, bl_own hb (ha_at rfl), Own.nil _ _ _ _ _, below_call ((Below.refl _ w).alloc (Nat.le_refl _) _) (by simp) hb, hn, hi, by omega, hres, by simpa using hil⟩
  case pass =>
    rintro a W ⟨M, v, u10, u24, u25, u26, u27, u28, u29, u30, u31, u32, u33, u34, u35, u36, u37, acc, x, j, f, rfl, hM, hMl, hb, hown, hB, hx, hj, hf, hacc, hlen⟩
    obtain ⟨c0, c1, f0, f1⟩ := blk2 hb
    clear hn hres hil hi
    have hW1 : Below W.heap.size W (W.alloc (.cells #[.int .u64 x.hi, .int .u64 x.lo] 28)) := (Below.refl _ W).alloc (Nat.le_refl _) _
    have ho1 := hown.below hW1
    have hB1 : Below w.heap.size w (W.alloc (.cells #[.int .u64 x.hi, .int .u64 x.lo] 28)) := hB.alloc hB.size _
    have hM1 := MapIs_below hM hW1
    have hb1 := bl_own hW1 hb
    have hsz := hB.size
    have hlt := lt_of_block hb
    have hun := Tryz.underlying32
    have hle : acc.length ≤ 100000 := by omega
    have hvb : ∀ k, v.ownBlock = some k → w.heap.size + 1 ≤ k := fun k hk => (ho1.base k hk).1
    have hne1 : some w.heap.size ≠ v.ownBlock := fun e => by have := hvb _ e.symm; omega
    have hne2 : some M ≠ v.ownBlock := fun e => own_ne_map ho1 hM1 e.symm
    obtain ⟨f', rfl⟩ : ∃ f', f = f' + 1 := ⟨f - 1, by omega⟩
    have hgo : chGo l m (f' + 1) x = x :: (if j = -1 then [] else chGo l m f' (parAt l j)) := by simp [chGo, hx]
    rw [hgo] at hacc
    have hmu := Lib.hid (lenV_own hown)
    have hmx := Lib.hid hx
    clear hgo hx
    by_cases hj1 : j = -1
    · have hres : acc ++ [x] = chain l id := by rw [← hacc, if_pos hj1]
      have hres := Lib.hid hres
      subst hj1
      clear hacc
      go_wp2_with (first | (at_builtin; refine wp_append1 rfl rfl hun infoID rfl (by decide) encID_len encID_one rfl ho1 (g := W.heap.size) (c := 1) rfl (y := x) (ha_at rfl) rfl (by omega) (by unfold maxLen; omega) (by simp <;> omega) ?_; intro v' w2 ho2 hg2 hat2; have hb2 := grown_own hg2 hb1 hne1; have hM2 := MapIs_grown hM1 hg2 hne2; obtain ⟨e0, e1, _, _⟩ := blk2 hb2) | (at_lookup; refine wp_lookup (x := x) rfl rfl KeyID Tryz.underlying54 (Tryz.zeroValue3 _) rfl rfl hM2 (r := .int .i64 (-1)) (by rw [hmx.out]; rfl) ?_))
      simp only [Exit.jump]
      go_ret
      refine ⟨v', rfl, ?_, below_step hB1 hB1.size hg2 (fun k hk => by have := hvb k hk; omega)⟩
      rw [← hres.out]
      exact ho2.mono (by omega)
    · have hj0 : 0 ≤ j := by omega
      obtain ⟨n, rfl⟩ : ∃ n : Nat, j = n := ⟨j.toNat, by omega⟩
      rw [if_neg hj1] at hacc
      have hjl : n < l.length := by omega
      have hj2 : ((n : Int) == -1) = false := by simp
      obtain ⟨b', o, rfl, hbo, _⟩ := hr.atBlk hjl
      clear hj1
      go_wp2_with (first | (at_builtin; refine wp_append1 rfl rfl hun infoID rfl (by decide) encID_len encID_one rfl ho1 (g := W.heap.size) (c := 1) rfl (y := x) (ha_at rfl) rfl (by omega) (by unfold maxLen; omega) (by simp <;> omega) ?_; intro v' w2 ho2 hg2 hat2; have hb2 := grown_own hg2 hb1 hne1; have hM2 := MapIs_grown hM1 hg2 hne2; obtain ⟨e0, e1, g0, g1⟩ := blk2 hb2; have hB2 := below_step hB1 hB1.size hg2 (fun k hk => by have := hvb k hk; omega); obtain ⟨b2, o2, he, _, d0, d1, d2, d3, d4⟩ := (hr.below hB2).atBlk hjl; cases he) | (at_lookup; refine wp_lookup (x := x) rfl rfl KeyID Tryz.underlying54 (Tryz.zeroValue3 _) rfl rfl hM2 (r := .int .i64 n) (by rw [hmx.out]; rfl) ?_))
      obtain ⟨hs1, hs2⟩ := set2 hb2 (.int .u64 l[n].par.hi) (.int .u64 l[n].par.lo)
      obtain ⟨j', hj', hjn, hj1⟩ : ∃ j', mget m (parAt l n) = some j' ∧ j' < n ∧ -1 ≤ j' := by
        rcases hA x n hmx.out with e | ⟨_, _, j', h1, h2, h3⟩
        · omega
        · exact ⟨j', h1, h2, h3⟩
      have hpar : parAt l (n : Int) = l[n].par := by unfold parAt; simp [hjl]
      rw [hpar] at hj' hacc
      have hv2 : v'.ownBlock ≠ some w.heap.size := fun e => by have := (ho2.base _ e).1; omega
      go_step3
      simp only [Exit.then]
      refine ⟨rfl, ⟨M, v', _, _, _, _, _, _, _, _, _, _, _, _, _, _, _, acc ++ [x], l[n].par, j', f', rfl, MapIs_grown hM2 hs2 (by simp; omega), hMl, hs1, ho2.grown hs2 (.inr hv2), below_step hB2 hB2.size hs2 (by simp), hj', hj1, by omega, by simpa using hacc, by simp; omega⟩, ?_⟩
      show l.length + 2 - lenV v' < l.length + 2 - lenV v
      rw [hmu.out, lenV_own ho2]
      simp
      omega
/-- What Chain hands back. -/
theorem chain_any (l : List Blk) (id : ID) (A : Option Addr) (c : Nat) (w : World) (hr : Rd 5 encBlk w A l) (hA : ∀ m, plc l = some m → Ahead l m ∧ ∀ x i, mget m x = some i → -1 ≤ i) (hl : l.length ≤ 100000) :
    Calls Tryz.prog 8 #[.slice A l.length c, idv id] w fun e w' => ∃ v, e = .returned v ∧ Own w' w.heap.size 28 2 encID v (chain l id) ∧ Below w.heap.size w w' := by
  cases h : plc l with
  | none => exact chain_none l id A c w hr h
  | some m =>
    cases hn : mget m id with
    | none => exact chain_miss l id m A c w hr h hn
    | some i => exact chain_hit l id m i A c w hr h hn (hA m h).1 ((hA m h).2 id i hn) hl
end Go.Proofs.YtdocgemfedohdaaGreat
/-! Trees of blocks: what May, Chain, Kids and Under tell, in plain words. -/
namespace Go.Proofs.YtdocgemfedohdaaGreat
def Okb (pre : List Blk) (b : Blk) : Prop :=
  nameOf b ≠ zid ∧ (∀ c ∈ pre, nameOf c ≠ nameOf b) ∧ ((b.par = zid ∧ 0 < b.slot) ∨ (b.par ≠ zid ∧ ∃ c ∈ pre, nameOf c = b.par ∧ c.slot < b.slot))
/-- Blocks that may be. -/
def Tree (l : List Blk) : Prop := ∀ i (h : i < l.length), Okb (l.take i) l[i]
def mOf (bs : List Blk) : List (ID × Int) := (zid, -1) :: bs.zipIdx.map fun p => (nameOf p.1, (p.2 : Int))
theorem mget_zero (bs : List Blk) : mget (mOf bs) zid = some (-1) := by simp [mget, mOf]
theorem mget_zip (bs : List Blk) (x : ID) (n : Nat) : mget ((bs.zipIdx n).map fun p => (nameOf p.1, (p.2 : Int))) x = (bs.findIdx? fun b => decide (nameOf b = x)).map fun i => ((i + n : Nat) : Int) := by
  induction bs generalizing n with
  | nil => simp [mget]
  | cons b bs ih =>
    by_cases h : nameOf b = x
    · simp [mget, List.findIdx?_cons, h]
    · have e : mget (((b :: bs).zipIdx n).map fun p => (nameOf p.1, (p.2 : Int))) x = mget ((bs.zipIdx (n + 1)).map fun p => (nameOf p.1, (p.2 : Int))) x := by simp [mget, h]
      rw [e, ih]
      simp only [List.findIdx?_cons, h, decide_false, Bool.false_eq_true, if_false, Option.map_map]
      congr 1
      funext i
      simp only [Function.comp]
      omega
theorem mget_mOf (bs : List Blk) {x : ID} (hx : x ≠ zid) : mget (mOf bs) x = (bs.findIdx? fun b => decide (nameOf b = x)).map (fun i : Nat => (i : Int)) := by
  have e : mget (mOf bs) x = mget (bs.zipIdx.map fun p => (nameOf p.1, (p.2 : Int))) x := by simp [mget, mOf, Ne.symm hx]
  rw [e, mget_zip]
  rfl
theorem mOf_snoc (bs : List Blk) (b : Blk) : mOf (bs ++ [b]) = mOf bs ++ [(nameOf b, (bs.length : Int))] := by
  simp [mOf, List.zipIdx_append]
theorem mget_mem {bs : List Blk} {x : ID} : (mget (mOf bs) x).isSome ↔ x = zid ∨ ∃ c ∈ bs, nameOf c = x := by
  by_cases hx : x = zid
  · subst hx; simp [mget_zero]
  · rw [mget_mOf bs hx, Option.isSome_map, List.findIdx?_isSome]
    simp [hx]
theorem tree_snoc {l : List Blk} {k : Nat} (hk : k < l.length) : Tree (l.take (k + 1)) ↔ Tree (l.take k) ∧ Okb (l.take k) l[k] := by
  constructor
  · intro h
    refine ⟨fun i hi => ?_, ?_⟩
    · have hi' : i < (l.take (k + 1)).length := by simp at hi ⊢; omega
      have := h i hi'
      simp only [List.take_take, List.getElem_take] at this ⊢
      simp at hi
      rw [Nat.min_eq_left (by omega)] at this ⊢
      exact this
    · have := h k (by simp; omega)
      simpa [List.take_take] using this
  · rintro ⟨h1, h2⟩ i hi
    simp only [List.length_take] at hi
    by_cases he : i = k
    · subst he
      simpa [List.take_take] using h2
    · have := h1 i (by simp; omega)
      simp only [List.take_take, List.getElem_take] at this ⊢
      rw [Nat.min_eq_left (by omega)] at this ⊢
      exact this
theorem tree_inj {l : List Blk} (ht : Tree l) {i j : Nat} (hi : i < l.length) (hj : j < l.length) (h : nameOf l[i] = nameOf l[j]) : i = j := by
  rcases Nat.lt_trichotomy i j with hlt | he | hlt
  · exact absurd h ((ht j hj).2.1 l[i] (List.mem_take_iff_getElem.2 ⟨i, by omega, rfl⟩))
  · exact he
  · exact absurd h.symm ((ht i hi).2.1 l[j] (List.mem_take_iff_getElem.2 ⟨j, by omega, rfl⟩))
theorem plStep_ok {l : List Blk} {k : Nat} (hk : k < l.length) (ht : Tree (l.take k)) : plStep l (mOf (l.take k)) k l[k] = some (mOf (l.take (k + 1))) ∧ Okb (l.take k) l[k] ∨ plStep l (mOf (l.take k)) k l[k] = none ∧ ¬ Okb (l.take k) l[k] := by
  have hnm : (mget (mOf (l.take k)) (nameOf l[k])).isSome = true ↔ nameOf l[k] = zid ∨ ∃ c ∈ l.take k, nameOf c = nameOf l[k] := mget_mem
  have hput : mget (mOf (l.take k)) (nameOf l[k]) = none → mput (mOf (l.take k)) (nameOf l[k]) (k : Int) = mOf (l.take (k + 1)) := by
    intro h
    rw [← List.take_append_getElem hk, mOf_snoc]
    unfold mput
    rw [h]
    simp
    omega
  have hfin : ∀ p, mget (mOf (l.take k)) l[k].par = some p → (slotAt l p < l[k].slot ↔ ((l[k].par = zid ∧ 0 < l[k].slot) ∨ (l[k].par ≠ zid ∧ ∃ c ∈ l.take k, nameOf c = l[k].par ∧ c.slot < l[k].slot))) →
      plStep l (mOf (l.take k)) k l[k] = some (mOf (l.take (k + 1))) ∧ Okb (l.take k) l[k] ∨ plStep l (mOf (l.take k)) k l[k] = none ∧ ¬ Okb (l.take k) l[k] := by
    intro p hp hiff
    unfold plStep
    simp only [hp]
    by_cases hs : l[k].slot ≤ slotAt l p
    · right
      rw [if_pos hs]
      refine ⟨rfl, fun ho => ?_⟩
      have := hiff.2 ho.2.2
      omega
    · rw [if_neg hs]
      cases hn : mget (mOf (l.take k)) (nameOf l[k]) with
      | some y =>
        right
        refine ⟨rfl, fun ho => ?_⟩
        rcases hnm.1 (by rw [hn]; rfl) with h | ⟨c, hc, h⟩
        · exact ho.1 h
        · exact ho.2.1 c hc h
      | none =>
        left
        refine ⟨by simp [hput hn], fun h => ?_, fun c hc h => ?_, hiff.1 (by omega)⟩
        · have := hnm.2 (.inl h); rw [hn] at this; cases this
        · have := hnm.2 (.inr ⟨c, hc, h⟩); rw [hn] at this; cases this
  by_cases hz : l[k].par = zid
  · refine hfin (-1) (by rw [hz]; exact mget_zero _) ?_
    simp [slotAt, hz]
  · cases hf : (l.take k).findIdx? fun b => decide (nameOf b = l[k].par) with
    | none =>
      right
      have hp : mget (mOf (l.take k)) l[k].par = none := by rw [mget_mOf _ hz, hf]; rfl
      refine ⟨by unfold plStep; rw [hp], fun ho => ?_⟩
      rcases ho.2.2 with h | ⟨_, c, hc, h, _⟩
      · exact hz h.1
      · rw [List.findIdx?_eq_none_iff] at hf
        have := hf c hc
        simp [h] at this
    | some j =>
      have hp : mget (mOf (l.take k)) l[k].par = some (j : Int) := by rw [mget_mOf _ hz, hf]; rfl
      rw [List.findIdx?_eq_some_iff_getElem] at hf
      obtain ⟨hj, hjn, _⟩ := hf
      simp only [decide_eq_true_eq] at hjn
      have hjk : j < k := by simp at hj; omega
      have hjl : j < l.length := by omega
      have hsl : slotAt l (j : Int) = l[j].slot := by unfold slotAt; simp [hjl]
      refine hfin j hp ?_
      rw [hsl]
      constructor
      · intro h
        exact .inr ⟨hz, (l.take k)[j], List.getElem_mem _, hjn, by simpa using h⟩
      · rintro (h | ⟨_, c, hc, h, hs⟩)
        · exact absurd h.1 hz
        · obtain ⟨i, hi, rfl⟩ := List.getElem_of_mem hc
          have : i = j := tree_inj ht hi hj (by rw [h, hjn])
          subst this
          simpa using hs
theorem plGo_tree {l : List Blk} (d : Nat) : ∀ k, l.length - k = d → k ≤ l.length → Tree (l.take k) → plGo l (l.drop k) k (mOf (l.take k)) = some (mOf l) ∧ Tree l ∨ plGo l (l.drop k) k (mOf (l.take k)) = none ∧ ¬ Tree l := by
  induction d with
  | zero =>
    intro k hd hk ht
    obtain rfl : k = l.length := by omega
    left
    rw [List.drop_length, List.take_length] at *
    exact ⟨rfl, ht⟩
  | succ d ih =>
    intro k hd hk ht
    have hlt : k < l.length := by omega
    rw [plGo_drop hlt]
    rcases plStep_ok hlt ht with ⟨h1, h2⟩ | ⟨h1, h2⟩
    · rw [h1]
      exact ih (k + 1) (by omega) hlt ((tree_snoc hlt).2 ⟨ht, h2⟩)
    · rw [h1]
      right
      exact ⟨rfl, fun h => h2 (h k hlt)⟩
theorem plc_tree (l : List Blk) : plc l = some (mOf l) ∧ Tree l ∨ plc l = none ∧ ¬ Tree l :=
  plGo_tree l.length 0 (by omega) (Nat.zero_le _) (fun i h => by simp at h)
theorem plc_some {l : List Blk} {m : List (ID × Int)} (h : plc l = some m) : m = mOf l ∧ Tree l := by
  rcases plc_tree l with ⟨h1, h2⟩ | ⟨h1, h2⟩
  · rw [h1] at h; cases h; exact ⟨rfl, h2⟩
  · rw [h1] at h; cases h
theorem plc_yes {l : List Blk} (h : Tree l) : plc l = some (mOf l) := by
  rcases plc_tree l with ⟨h1, h2⟩ | ⟨h1, h2⟩
  · exact h1
  · exact absurd h h2
theorem plc_no {l : List Blk} (h : ¬ Tree l) : plc l = none := by
  rcases plc_tree l with ⟨h1, h2⟩ | ⟨h1, h2⟩
  · exact absurd h2 h
  · exact h1
/-- Where a key is, is what it names. -/
theorem mget_at {bs : List Blk} {x : ID} {i : Int} (h : mget (mOf bs) x = some i) : (x = zid ∧ i = -1) ∨ (x ≠ zid ∧ ∃ n : Nat, i = n ∧ ∃ hn : n < bs.length, nameOf bs[n] = x) := by
  by_cases hx : x = zid
  · subst hx; rw [mget_zero] at h; cases h; exact .inl ⟨rfl, rfl⟩
  · rw [mget_mOf bs hx] at h
    obtain ⟨n, hn, rfl⟩ := Option.map_eq_some_iff.1 h
    rw [List.findIdx?_eq_some_iff_getElem] at hn
    obtain ⟨h1, h2, _⟩ := hn
    exact .inr ⟨hx, n, rfl, h1, by simpa using h2⟩
theorem mget_idx {l : List Blk} (ht : Tree l) {n : Nat} (hn : n < l.length) : mget (mOf l) (nameOf l[n]) = some (n : Int) := by
  rw [mget_mOf _ (ht n hn).1]
  have : l.findIdx? (fun b => decide (nameOf b = nameOf l[n])) = some n := by
    rw [List.findIdx?_eq_some_iff_getElem]
    refine ⟨hn, by simp, fun j hj => ?_⟩
    have : nameOf l[j] ≠ nameOf l[n] := fun e => by have := tree_inj ht (by omega) hn e; omega
    simpa using this
  rw [this]
  rfl
theorem tree_ahead {l : List Blk} {m : List (ID × Int)} (h : plc l = some m) : Ahead l m ∧ ∀ x i, mget m x = some i → -1 ≤ i := by
  obtain ⟨rfl, ht⟩ := plc_some h
  refine ⟨fun x i hi => ?_, fun x i hi => ?_⟩
  · rcases mget_at hi with ⟨_, h⟩ | ⟨hx, n, rfl, hn, hnx⟩
    · exact .inl h
    · right
      refine ⟨by omega, by omega, ?_⟩
      have hp : parAt l (n : Int) = l[n].par := by unfold parAt; simp [hn]
      rw [hp]
      rcases (ht n hn).2.2 with ⟨h1, _⟩ | ⟨_, c, hc, h1, _⟩
      · exact ⟨-1, by rw [h1]; exact mget_zero _, by omega, by omega⟩
      · obtain ⟨j, hj, rfl⟩ := List.getElem_of_mem hc
        simp only [List.length_take] at hj
        have hjl : j < l.length := by omega
        simp only [List.getElem_take] at h1
        exact ⟨j, by rw [← h1]; exact mget_idx ht hjl, by omega, by omega⟩
  · rcases mget_at hi with ⟨_, h⟩ | ⟨_, n, rfl, _⟩ <;> omega
theorem chGo_fuel {l : List Blk} {m : List (ID × Int)} (hA : Ahead l m) : ∀ (f f' : Nat) (x : ID) (j : Int), mget m x = some j → -1 ≤ j → j + 2 ≤ f → j + 2 ≤ f' → chGo l m f x = chGo l m f' x
  | 0, _, _, _, _, h1, h2, _ => by omega
  | _ + 1, 0, _, _, _, h1, _, h3 => by omega
  | f + 1, f' + 1, x, j, hx, h1, h2, h3 => by
    simp only [chGo, hx]
    by_cases hj : j = -1
    · simp [hj]
    · rw [if_neg hj, if_neg hj]
      rcases hA x j hx with e | ⟨_, _, j', hp, hlt, hlo⟩
      · exact absurd e hj
      · rw [chGo_fuel hA f f' _ j' hp hlo (by omega) (by omega)]
theorem chain_zid {l : List Blk} (ht : Tree l) : chain l zid = [zid] := by
  unfold chain
  rw [plc_yes ht]
  simp [mget_zero, chGo]
theorem par_known {l : List Blk} (ht : Tree l) {n : Nat} (hn : n < l.length) : ∃ j, mget (mOf l) l[n].par = some j ∧ -1 ≤ j ∧ j < n := by
  rcases (tree_ahead (plc_yes ht)).1 _ _ (mget_idx ht hn) with e | ⟨_, _, j, h1, h2, h3⟩
  · omega
  · refine ⟨j, ?_, h3, h2⟩
    have hp : parAt l (n : Int) = l[n].par := by unfold parAt; simp [hn]
    rw [← hp]; exact h1
theorem chain_cons {l : List Blk} (ht : Tree l) {n : Nat} (hn : n < l.length) : chain l (nameOf l[n]) = nameOf l[n] :: chain l l[n].par := by
  obtain ⟨j, hj, hlo, hlt⟩ := par_known ht hn
  unfold chain
  rw [plc_yes ht]
  have hx := mget_idx ht hn
  have hp : parAt l (n : Int) = l[n].par := by unfold parAt; simp [hn]
  simp only [hx, hj, Option.isSome_some, if_true]
  rw [show l.length + 1 = l.length + 1 from rfl, chGo]
  simp only [hx]
  rw [if_neg (by omega), hp]
  congr 1
  exact chGo_fuel (tree_ahead (plc_yes ht)).1 _ _ _ j hj hlo (by omega) (by omega)
theorem chain_unknown {l : List Blk} {x : ID} (hx : x ≠ zid) (hn : ∀ b ∈ l, nameOf b ≠ x) : chain l x = [] := by
  apply chain_zero
  rcases plc_tree l with ⟨h1, h2⟩ | ⟨h1, h2⟩
  · refine .inr ⟨_, h1, ?_⟩
    cases hm : mget (mOf l) x with
    | none => rfl
    | some j =>
      have := (mget_mem (bs := l) (x := x)).1 (by rw [hm]; rfl)
      rcases this with e | ⟨c, hc, e⟩
      · exact absurd e hx
      · exact absurd e (hn c hc)
  · exact .inl h1
theorem chain_notree {l : List Blk} (h : ¬ Tree l) (x : ID) : chain l x = [] := chain_zero (.inl (plc_no h))
theorem chain_head {l : List Blk} (ht : Tree l) {x : ID} (hx : x = zid ∨ ∃ b ∈ l, nameOf b = x) : ∃ r, chain l x = x :: r := by
  rcases hx with rfl | ⟨b, hb, rfl⟩
  · exact ⟨_, chain_zid ht⟩
  · obtain ⟨n, hn, rfl⟩ := List.getElem_of_mem hb
    exact ⟨_, chain_cons ht hn⟩
theorem par_mem {l : List Blk} (ht : Tree l) {n : Nat} (hn : n < l.length) : l[n].par = zid ∨ ∃ b ∈ l, nameOf b = l[n].par := by
  rcases (ht n hn).2.2 with h | ⟨_, c, hc, h, _⟩
  · exact .inl h.1
  · exact .inr ⟨c, List.mem_of_mem_take hc, h⟩
end Go.Proofs.YtdocgemfedohdaaGreat
/-! The walks of tree.May, Under, Kids. -/
namespace Go.Proofs.YtdocgemfedohdaaGreat
open Go.RowKit
open Classical in
noncomputable def mayB (l : List Blk) : Bool := decide (Tree l)
set_option maxRecDepth 100000 in
set_option maxHeartbeats 1000000 in
theorem under_any (l : List Blk) (low id : ID) (A : Option Addr) (c : Nat) (w : World) (hr : Rd 5 encBlk w A l) (hl : l.length ≤ 100000) :
    Calls Tryz.prog 16 #[.slice A l.length c, idv low, idv id] w fun e w' => e = .returned (.bool (decide (low ∈ chain l id))) ∧ Below w.heap.size w w' := by
  have hcall := fun W (hW : Below w.heap.size w W) => chain_any l id A c W (hr.below hW) (fun m h => tree_ahead h) hl
  unfold idv at *
  go_enter Tryz.func16, Tryz.ntmps16
  go_wp2_with fail
  have hs : ∀ W : World, W = (w.alloc (.cells #[.int .u64 low.hi, .int .u64 low.lo] 28)).alloc (.cells #[.int .u64 id.hi, .int .u64 id.lo] 28) → W.heap[w.heap.size]? = some (.cells #[.int .u64 low.hi, .int .u64 low.lo] 28 (0, 0)) ∧ W.heap[w.heap.size + 1]? = some (.cells #[.int .u64 id.hi, .int .u64 id.lo] 28 (0, 0)) ∧ Below w.heap.size w W :=
    fun W e => by subst e; exact ⟨ha_lt (ha_at rfl), ha_at (by simp), ((Below.refl _ w).alloc (Nat.le_refl _) _).alloc (by simp) _⟩
  generalize (w.alloc (.cells #[.int .u64 low.hi, .int .u64 low.lo] 28)).alloc (.cells #[.int .u64 id.hi, .int .u64 id.lo] 28) = W at hs ⊢
  obtain ⟨h1, h2, h3⟩ := hs _ rfl
  clear hs
  obtain ⟨c1, c2, f1, f2⟩ := blk2 h1
  obtain ⟨c3, c4, f3, f4⟩ := blk2 h2
  go_region_held3 (fun W' => W'.cell? ⟨w.heap.size, 0, none⟩ = some (.int .u64 low.hi) ∧ W'.cell? ⟨w.heap.size, 1, none⟩ = some (.int .u64 low.lo) ∧ W'.cell? ⟨w.heap.size + 1, 0, none⟩ = some (.int .u64 id.hi) ∧ W'.cell? ⟨w.heap.size + 1, 1, none⟩ = some (.int .u64 id.lo)) (first | exact ⟨c1, c2, c3, c4⟩ | exact ⟨e1, e2, e3, e4⟩ | exact ⟨e5, e6, e7, e8⟩) ((first
    | (go_at_call 8; refine (hcall _ h3.drew).mono ?_; rintro e w1 ⟨v, rfl, hown, hb⟩; obtain ⟨A', c', rfl, hR⟩ := hown.rd encID_len; obtain ⟨e1, e2, _, _⟩ := blk2 (bl_own hb h1); obtain ⟨e3, e4, _, _⟩ := blk2 (bl_own hb h2))
    | (go_at_call 33; refine (contains_any low (chain l id) _ _ _ hR).mono ?_; rintro e w2 ⟨rfl, hb'⟩; obtain ⟨e5, e6, _, _⟩ := blk2 (bl_own hb' (bl_own hb h1)); obtain ⟨e7, e8, _, _⟩ := blk2 (bl_own hb' (bl_own hb h2)))))
  go_wp2
  go_ret
  exact ⟨rfl, below_call (below_call h3.drew h3.size hb) (Nat.le_trans h3.size hb.size) hb'⟩
def kidsOf (l : List Blk) (id : ID) : List ID := (l.filter fun b => decide (b.par = id)).map nameOf
open Classical in
noncomputable def kids (l : List Blk) (id : ID) : List ID := if Tree l then kidsOf l id else []
theorem kidsOf_snoc {l : List Blk} {k : Nat} (hlt : k < l.length) (id : ID) : kidsOf (l.take (k + 1)) id = kidsOf (l.take k) id ++ (if l[k].par = id then [nameOf l[k]] else []) := by
  unfold kidsOf
  rw [← List.take_append_getElem hlt, List.filter_append, List.map_append]
  by_cases h : l[k].par = id <;> simp [h]
theorem kidsOf_len (l : List Blk) (id : ID) : (kidsOf l id).length ≤ l.length := by
  unfold kidsOf
  rw [List.length_map]
  exact List.length_filter_le _ _
end Go.Proofs.YtdocgemfedohdaaGreat
