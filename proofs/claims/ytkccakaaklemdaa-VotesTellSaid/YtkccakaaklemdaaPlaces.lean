/- The walks of tree.places, Chain, May, Under, Kids. -/
import Derived.Test.YtkccakaaklemdaaName
namespace Go.Proofs.Ytkccakaaklemdaa
open Go.RowKit
def slotAt (l : List Blk) (p : Int) : Int := if p = -1 then 0 else (l[p.toNat]?.map (·.slot)).getD 0
def plStep (l : List Blk) (m : List (ID × Int)) (i : Nat) (b : Blk) : Option (List (ID × Int)) :=
  match mget m b.par with
  | none => none
  | some p => if b.slot ≤ slotAt l p then none else if (mget m (nameOf b)).isSome then none else some (mput m (nameOf b) i)
def plGo (l : List Blk) : List Blk → Nat → List (ID × Int) → Option (List (ID × Int))
  | [], _, m => some m
  | b :: bs, i, m => match plStep l m i b with
    | none => none
    | some m' => plGo l bs (i + 1) m'
def plc (l : List Blk) : Option (List (ID × Int)) := plGo l l 0 [(⟨0, 0⟩, -1)]
set_option maxRecDepth 100000 in
set_option maxHeartbeats 1000000 in
theorem slot_any (p : Int) (l : List Blk) (A : Option Addr) (c : Nat) (B T : Nat) (w : World) (hr : Rd 5 encBlk w A l) (hb : w.heap[B]? = some (.cells #[.slice A l.length c] T (0, 0))) (hp : p = -1 ∨ 0 ≤ p ∧ p < l.length) :
    Calls Try.prog 47 #[.int .i64 p, .pointer (some ⟨B, 0, none⟩)] w fun e w' => e = .returned (.int .i64 (slotAt l p)) ∧ w' = w := by
  obtain ⟨c0, f0⟩ := blk1 hb
  by_cases h : p = -1
  · subst h
    go_enter Try.func47, Try.ntmps47
    go_wp2_with fail
    go_ret
    exact ⟨rfl, rfl⟩
  · obtain ⟨k, rfl⟩ : ∃ k : Nat, p = k := ⟨p.toNat, by omega⟩
    have hlt : k < l.length := by omega
    obtain ⟨b, o, rfl, hbo, d0, d1, d2, d3, d4⟩ := hr.atBlk hlt
    have hs := Lib.hid (show slotAt l k = l[k].slot by unfold slotAt; rw [if_neg h]; simp [hlt])
    have hm := hr.1
    go_enter Try.func47, Try.ntmps47
    go_wp2_with fail
    go_ret
    exact ⟨ret_int hs.out.symm, rfl⟩
/-- What places tells. -/
def PlacesPost (w : World) (r : Option (List (ID × Int))) (e : Ending) (w' : World) : Prop :=
  (match r with
    | none => e = .returned (.tuple #[.map none, .bool false])
    | some m => ∃ M, e = .returned (.tuple #[.map (some M), .bool true]) ∧ w.heap.size ≤ M ∧ MapIs idv (Value.int .i64) w' M m) ∧ Below w.heap.size w w'
theorem PlacesPost.no {w w' : World} {r : Option (List (ID × Int))} (h : r = none) (hb : Below w.heap.size w w') : PlacesPost w r (.returned (.tuple #[.map none, .bool false])) w' := by
  subst h; exact ⟨rfl, hb⟩
theorem PlacesPost.yes {w w' : World} {r : Option (List (ID × Int))} {m : List (ID × Int)} {M : Nat} (h : r = some m) (hM : w.heap.size ≤ M) (hm : MapIs idv (Value.int .i64) w' M m) (hb : Below w.heap.size w w') : PlacesPost w r (.returned (.tuple #[.map (some M), .bool true])) w' := by
  subst h; exact ⟨⟨M, rfl, hM, hm⟩, hb⟩
theorem plGo_drop {l : List Blk} {k : Nat} (hlt : k < l.length) (m : List (ID × Int)) : plGo l (l.drop k) k m = match plStep l m k l[k] with | none => none | some m' => plGo l (l.drop (k + 1)) (k + 1) m' := by
  rw [List.drop_eq_getElem_cons hlt]; rfl
set_option maxRecDepth 100000 in
set_option maxHeartbeats 1000000 in
theorem places_any (l : List Blk) (A : Option Addr) (c : Nat) (w : World) (hr : Rd 5 encBlk w A l) :
    Calls Try.prog 31 #[.slice A l.length c] w (PlacesPost w (plc l)) := by
  have hm := hr.1
  have hmm := @run_makeMap Try.prog
  go_enter Try.func31, Try.ntmps31
  have hM0 : MapIs idv (Value.int .i64) ((w.alloc (.cells #[.slice A l.length c] 26)).alloc (.map #[] 0)) (w.heap.size + 1) ([] : List (ID × Int)) := MapIs_new _ _ (ha_at (by simp))
  go_wp2_with (refine wp_update rfl (.inr rfl) KeyID Try.underlying52 rfl (x := ⟨0, 0⟩) rfl (v := -1) rfl hM0 ?_; clear hM0)
  intro w1 hM1 hg1 hz1
  have hb1 : w1.heap[w.heap.size]? = some (.cells #[.slice A l.length c] 26 (0, 0)) := grown_own hg1 (ha_lt (ha_at rfl)) (by simp)
  obtain ⟨c1, f1⟩ := blk1 hb1
  have hB1 : Below w.heap.size w w1 := below_step (((Below.refl _ w).alloc (Nat.le_refl _) _).alloc (by simp) _) (by simp <;> omega) hg1 (by simp)
  go_wp2_with fail
  go_loopw [2, 3, 6, 7, 19] (fun s2 s3 s6 s7 i wr => ∃ (k : Nat) (m : List (ID × Int)), k ≤ l.length ∧ i = .int .i64 k ∧ MapIs idv (Value.int .i64) wr (w.heap.size + 1) m ∧ plGo l (l.drop k) k m = plc l ∧ (∀ q ∈ m, q.2 = -1 ∨ 0 ≤ q.2 ∧ q.2 < l.length) ∧
    wr.heap[w.heap.size]? = some (.cells #[.slice A l.length c] 26 (0, 0)) ∧ Below w.heap.size w wr) (fun _ _ _ _ i _ => l.length - (intOf i).toNat)
  case atStart => exact ⟨0, _, Nat.zero_le _, rfl, hM1, rfl, by simp [mput, mget], hb1, hB1⟩
  case round =>
    obtain ⟨k, m, hk, rfl, hM, hgo, hval, hb, hB⟩ := hrel
    by_cases hlt : k < l.length
    · obtain ⟨b', o, rfl, hbo, d0, d1, d2, d3, d4⟩ := (hr.below hB).atBlk hlt
      rw [plGo_drop hlt] at hgo
      obtain ⟨b, hbk⟩ : ∃ b, l[k] = b := ⟨_, rfl⟩
      rw [hbk] at d0 d1 d2 d3 d4 hgo
      have hMa := MapIs_alloc hM (.cells #[.int .i64 b.slot, .int .i64 b.frm, .int .u64 b.par.1, .int .u64 b.par.2, .int .u64 b.salt] 49)
      have hba : (wr.alloc (.cells #[.int .i64 b.slot, .int .i64 b.frm, .int .u64 b.par.1, .int .u64 b.par.2, .int .u64 b.salt] 49)).heap[w.heap.size]? = some (.cells #[.slice (some ⟨b', o, none⟩) l.length c] 26 (0, 0)) := ha_lt hb
      have hBa : Below w.heap.size w (wr.alloc (.cells #[.int .i64 b.slot, .int .i64 b.frm, .int .u64 b.par.1, .int .u64 b.par.2, .int .u64 b.salt] 49)) := hB.alloc hB.size _
      clear hbk
      cases hp : mget m b.par with
      | none =>
        have hres := Lib.hid (show plc l = none by rw [← hgo]; simp [plStep, hp])
        clear hgo
        go_wp2_with (at_lookup; refine wp_lookup (x := b.par) rfl rfl KeyID Try.underlying52 (Try.zeroValue3 _) rfl rfl hMa (r := .tuple #[.int .i64 0, .bool false]) (by rw [hp]; rfl) ?_)
        go_quiet (fail)
        go_wp2
        go_ret2
        exact PlacesPost.no hres.out (pw_below_drewN hBa _)
      | some p =>
        have hpv : p = -1 ∨ 0 ≤ p ∧ p < l.length := by
          unfold mget at hp
          obtain ⟨q, hq, rfl⟩ := Option.map_eq_some_iff.1 hp
          exact hval q (List.mem_of_find?_eq_some hq)
        have hslot := fun n => slot_any p l (some ⟨b', o, none⟩) c w.heap.size 26 ((wr.alloc (.cells #[.int .i64 b.slot, .int .i64 b.frm, .int .u64 b.par.1, .int .u64 b.par.2, .int .u64 b.salt] 49)).drewN n) (hr.below (pw_below_drewN hBa n)) hba hpv
        by_cases hs : b.slot ≤ slotAt l p
        · have hres := Lib.hid (show plc l = none by rw [← hgo]; simp [plStep, hp, hs])
          clear hgo hpv
          go_wp2_with (at_lookup; refine wp_lookup (x := b.par) rfl rfl KeyID Try.underlying52 (Try.zeroValue3 _) rfl rfl hMa (r := .tuple #[.int .i64 p, .bool true]) (by rw [hp]; rfl) ?_)
          go_quiet ((go_at_call 47; exact Calls.quiet_of_same (hslot _)))
          go_wp2
          go_ret2
          exact PlacesPost.no hres.out (pw_below_drewN hBa _)
        · have hd : decide (b.slot ≤ slotAt l p) = false := by simpa using hs
          clear hpv
          go_wp2_with (at_lookup; refine wp_lookup (x := b.par) rfl rfl KeyID Try.underlying52 (Try.zeroValue3 _) rfl rfl hMa (r := .tuple #[.int .i64 p, .bool true]) (by rw [hp]; rfl) ?_)
          go_quiet ((go_at_call 47; exact Calls.quiet_of_same (hslot _)))
          clear hslot
          have hMt := hMa
          have hbt := hba
          go_wp2_with fail
          refine (name_any b _).mono ?_
          rintro e w2 ⟨rfl, hb2⟩
          have hM2 : MapIs idv (Value.int .i64) w2 (w.heap.size + 1) m := MapIs_same hMa (hb2.block _ (MapIs_lt hMa))
          have hB2 : Below w.heap.size w w2 := below_call (pw_below_drewN hBa nq) (by simp; exact Nat.le_succ_of_le hB.size) hb2
          have hl2 : w2.heap[w.heap.size]? = some (.cells #[.slice (some ⟨b', o, none⟩) l.length c] 26 (0, 0)) := (hb2.block _ (lt_of_block hba)).trans hba
          clear hMa hba hMt hbt hb2
          have hM3 := MapIs_alloc hM2 (.cells #[.int .u64 (nameOf b).1, .int .u64 (nameOf b).2] 29)
          have hB3 := hB2.alloc hB2.size (.cells #[.int .u64 (nameOf b).1, .int .u64 (nameOf b).2] 29)
          have hl3 : (w2.alloc (.cells #[.int .u64 (nameOf b).1, .int .u64 (nameOf b).2] 29)).heap[w.heap.size]? = some (.cells #[.slice (some ⟨b', o, none⟩) l.length c] 26 (0, 0)) := ha_lt hl2
          unfold idv
          cases hn : mget m (nameOf b) with
          | some y =>
            have hres := Lib.hid (show plc l = none by rw [← hgo]; simp [plStep, hp, hn])
            clear hgo
            go_wp2_with (at_lookup; refine wp_lookup (x := nameOf b) rfl rfl KeyID Try.underlying52 (Try.zeroValue3 _) rfl rfl hM3 (r := .tuple #[.int .i64 y, .bool true]) (by rw [hn]; rfl) ?_)
            go_ret2
            exact PlacesPost.no hres.out hB3
          | none =>
            have hgo' := Lib.hid hgo
            clear hgo
            go_wp2_with (first | (at_lookup; refine wp_lookup (x := nameOf b) rfl rfl KeyID Try.underlying52 (Try.zeroValue3 _) rfl rfl hM3 (r := .tuple #[.int .i64 0, .bool false]) (by rw [hn]; rfl) ?_) | (at_mapUpdate; refine wp_update rfl (.inl rfl) KeyID Try.underlying52 rfl (x := nameOf b) rfl (v := (k : Int)) rfl hM3 ?_; intro w4 hM4 hg4 hz4))
            go_roundw
            case rel =>
              refine ⟨k + 1, mput m (nameOf b) k, hlt, by go_num, hM4, ?_, ?_, grown_own hg4 hl3 (by simp), below_step hB3 hB3.size hg4 (by simp)⟩
              · have hg := hgo'.out
                simp only [plStep, hp, if_neg (Int.not_le.2 hs), hn, Option.isSome_none, Bool.false_eq_true, if_false] at hg
                exact hg
              · intro q hq
                rcases mem_mput hq with h | h
                · exact hval q h
                · subst h; right; constructor <;> simp <;> omega
            case measure => simp [intOf]; omega
    · obtain rfl : k = l.length := by omega
      have hres := Lib.hid (show plc l = some m by rw [← hgo, List.drop_length]; rfl)
      clear hgo
      go_wp2_with fail
      go_ret2
      exact PlacesPost.yes hres.out (by omega) hM hB
theorem places_none {l : List Blk} (h : plc l = none) (A : Option Addr) (c : Nat) (w : World) (hr : Rd 5 encBlk w A l) :
    Calls Try.prog 31 #[.slice A l.length c] w fun e w' => e = .returned (.tuple #[.map none, .bool false]) ∧ Below w.heap.size w w' := by
  refine (places_any l A c w hr).mono ?_
  rw [h]
  exact fun e w' h => h
theorem places_some {l : List Blk} {m : List (ID × Int)} (h : plc l = some m) (A : Option Addr) (c : Nat) (w : World) (hr : Rd 5 encBlk w A l) :
    Calls Try.prog 31 #[.slice A l.length c] w fun e w' => ∃ M, e = .returned (.tuple #[.map (some M), .bool true]) ∧ w.heap.size ≤ M ∧ MapIs idv (Value.int .i64) w' M m ∧ Below w.heap.size w w' := by
  refine (places_any l A c w hr).mono ?_
  rw [h]
  rintro e w' ⟨⟨M, h1, h2, h3⟩, h4⟩
  exact ⟨M, h1, h2, h3, h4⟩
end Go.Proofs.Ytkccakaaklemdaa
