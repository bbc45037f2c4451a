/- The chapter's example, walked. -/
import Derived.Test.YtibmfpcbjopojaaArrV
namespace Go.Proofs.Ytibmfpcbjopojaa
open Go.RowKit
theorem Own.rdn {α : Type} {w : World} {base : Nat} {e : TypeId} {k : Nat} {enc : α → List Value} {v : Value} {xs : List α} (hk : ∀ x, (enc x).length = k) (h : Own w base e k enc v xs) : ∃ A c, v = .slice A xs.length c ∧ Rd k enc w A xs ∧ (A = none → c = 0) := by
  obtain ⟨A, c, hv, hr⟩ := h.rd hk
  refine ⟨A, c, hv, hr, fun e => ?_⟩
  rcases h.2 with ⟨h1, _⟩ | ⟨g, cap, cur, h1, _⟩
  · rw [hv] at h1; injection h1
  · rw [hv, e] at h1; injection h1 with h1 _ _; cases h1
def id1 : ID := ⟨1, 1⟩
def id2 : ID := ⟨2, 2⟩
def awL1 : List Item := [⟨id1, -1, 0, 0, -1, 0⟩]
def awL2 : List Item := [⟨id1, -1, 0, 0, -1, 0⟩, ⟨id2, -1, 0, 0, -1, 1⟩]
def awL3 : List Item := [⟨id1, -1, 5, 5, -1, 0⟩, ⟨id2, -1, 0, 0, -1, 1⟩]
theorem aw_m1 : MayA awL1 := of_decide_eq_true (by kernel_rfl)
theorem aw_m2 : MayA awL2 := of_decide_eq_true (by kernel_rfl)
theorem aw_m3 : MayA awL3 := of_decide_eq_true (by kernel_rfl)
theorem aw_e1 : insE [] id1 zid = 0 := by kernel_rfl
theorem aw_e2 : insE awL1 id2 zid = 0 := by kernel_rfl
theorem aw_e3 : mvE awL2 id1 5 = 0 := by kernel_rfl
theorem aw_t2 : topA awL2 = id2 := by kernel_rfl
theorem aw_t3 : topA awL3 = id1 := by kernel_rfl
theorem aw_l1 {l : List Item} (h : InsP [] id1 zid l) : l = awL1 := by
  obtain ⟨hs, hk⟩ := h.2 aw_e1
  have hk' : SameSk awL1 l := ⟨hk.1.symm, fun i hi => by obtain ⟨h1, h2, h3⟩ := hk.2 i (by rw [hk.1]; exact hi); exact ⟨h1.symm, h2.symm, h3.symm⟩⟩
  exact (settled_uniq aw_m1.2.1.parOk hk' aw_m1.2.2 hs).symm
theorem aw_l2 {l : List Item} (h : InsP awL1 id2 zid l) : l = awL2 := by
  obtain ⟨hs, hk⟩ := h.2 aw_e2
  have hk' : SameSk awL2 l := ⟨hk.1.symm, fun i hi => by obtain ⟨h1, h2, h3⟩ := hk.2 i (by rw [hk.1]; exact hi); exact ⟨h1.symm, h2.symm, h3.symm⟩⟩
  exact (settled_uniq aw_m2.2.1.parOk hk' aw_m2.2.2 hs).symm
theorem aw_l3 {l : List Item} (h : MvP awL2 id1 5 l) : l = awL3 := by
  obtain ⟨hs, hk⟩ := h.2 aw_e3
  have hk' : SameSk awL3 l := ⟨hk.1.symm, fun i hi => by
    obtain ⟨h1, h2, h3⟩ := hk.2 i (by rw [hk.1]; exact hi)
    rw [h1, h2, h3]
    match i, hi with
    | 0, _ => exact ⟨rfl, rfl, rfl⟩
    | 1, _ => exact ⟨rfl, rfl, rfl⟩⟩
  exact (settled_uniq aw_m3.2.1.parOk hk' aw_m3.2.2 hs).symm
def awB10 : Blk := ⟨1, 0, zid, 0⟩
def awC10 : Cfg := ⟨[1], 0, 1, 0, 1⟩
theorem aw_from {r : List Item} (h : FromP awC10 [awB10] [] r) : r.length = 1 := by
  have hok : FromOk awC10 [awB10] := ⟨of_decide_eq_true (by kernel_rfl), (plc_some (l := [awB10]) (m := mOf [awB10]) (by kernel_rfl)).2, by simp⟩
  obtain ⟨_, hk⟩ := h.1 hok
  rw [hk.1]
  rfl
set_option maxRecDepth 100000 in
set_option maxHeartbeats 2000000 in
theorem awake10_any (w : World) : Calls Try.prog 26 #[] w fun e w' => e = .returned (.bool true) ∧ Below w.heap.size w w' := by
  have hB0 := Below.refl w.heap.size w
  have h1 := fun V => insert_any [] id1 zid (by simp) none 0 V (Rd_nil _ _ _ _) (fun _ => rfl)
  have h2 := fun A c V hR hN => insert_any awL1 id2 zid (by decide) A c V hR hN
  have h3 := fun A c V hR hN => move_any awL2 id1 5 (by decide) A c V hR hN
  have h4 := fun A c V hR => top_any awL2 A c V hR
  have h5 := fun A c V hR => top_any awL3 A c V hR
  have h6 := fun A c V hR => may10_any awL3 A c V hR
  have h7 := fun A A2 k k2 V hR hR2 => from_any awC10 [awB10] [] A A2 none k k2 0 V hR hR2 (Rd_nil _ _ _ _)
  rw [aw_e1] at h1
  rw [aw_e2] at h2
  rw [aw_e3] at h3
  rw [aw_t2] at h4
  rw [aw_t3] at h5
  rw [decide_eq_true aw_m3] at h6
  have l1 : awL1.length = 1 := rfl
  have l2 : awL2.length = 2 := rfl
  have l3 : awL3.length = 2 := rfl
  rw [l1] at h2
  rw [l2] at h3 h4
  rw [l3] at h5 h6
  have e1 := Lib.hid (fun l (h : InsP [] id1 zid l) => aw_l1 h)
  have e2 := Lib.hid (fun l (h : InsP awL1 id2 zid l) => aw_l2 h)
  have e3 := Lib.hid (fun l (h : MvP awL2 id1 5 l) => aw_l3 h)
  have e7 := Lib.hid (fun r (h : FromP awC10 [awB10] [] r) => aw_from h)
  have hi1 := eql_idw ⟨2, 2⟩ ⟨2, 2⟩
  have hi2 := eql_idw ⟨1, 1⟩ ⟨1, 1⟩
  unfold cfgv awC10 awB10 at h7
  simp only [idv, id1, id2, zid] at h1 h2 h3 h4 h5
  dsimp only [List.length_nil, List.length_singleton] at h1 h7
  have l1' := Lib.hid l1
  have l2' := Lib.hid l2
  have l3' := Lib.hid l3
  clear l1 l2 l3
  go_enter Try.func26, Try.ntmps26
  go_wp2_with (first
    | (go_at_call 56; (with_reducible refine Calls.mono (h1 _) ?_); clear h1; rintro e w1 ⟨⟨a1, v1, rfl, ho1, hp1, _⟩, hb1⟩; obtain rfl := e1.out a1 hp1; obtain ⟨A1, c1, hv1, hR1, hN1⟩ := ho1.rdn encItem_len; rw [l1'.out] at hv1; subst hv1; have hB1 := below_call hB0 hB0.size hb1)
    | (go_at_call 56; (with_reducible refine Calls.mono (h2 _ _ _ hR1 hN1) ?_); clear h2; rintro e w2 ⟨⟨a2, v2, rfl, ho2, hp2, _⟩, hb2⟩; obtain rfl := e2.out a2 hp2; obtain ⟨A2, c2, hv2, hR2, hN2⟩ := ho2.rdn encItem_len; rw [l2'.out] at hv2; subst hv2; have hB2 := below_call hB1 hB1.size hb2)
    | (go_at_call 57; (with_reducible refine Calls.mono (h3 _ _ _ hR2 hN2) ?_); clear h3; rintro e w3 ⟨⟨a3, v3, rfl, ho3, hp3, _⟩, hb3⟩; obtain rfl := e3.out a3 hp3; obtain ⟨A3, c3, hv3, hR3, hN3⟩ := ho3.rdn encItem_len; rw [l3'.out] at hv3; subst hv3; have hB3 := below_call hB2 hB2.size hb3; have hR2' := hR2.below hb3)
    | (go_at_call 30; (with_reducible refine Calls.mono (h4 _ _ _ hR2') ?_); clear h4; rintro e w4 ⟨rfl, hb4⟩; have hB4 := below_call hB3 hB3.size hb4; have hR4 := hR3.below hb4)
    | (go_at_call 30; (with_reducible refine Calls.mono (h5 _ _ _ hR4) ?_); clear h5; rintro e w5 ⟨rfl, hb5⟩; have hB5 := below_call hB4 hB4.size hb5; have hR5 := hR4.below hb5)
    | (go_at_call 58; (with_reducible refine Calls.mono (h6 _ _ _ hR5) ?_); clear h6; rintro e w6 ⟨rfl, hb6⟩; have hB6 := below_call hB5 hB5.size hb6))
  have hW : ∃ W, (w6.alloc (.cells #[.int .i64 1] 3)).alloc (.cells #[.int .i64 1, .int .i64 0, .int .u64 0, .int .u64 0, .int .u64 0] 56) = W := ⟨_, rfl⟩
  obtain ⟨W, hW⟩ := hW
  have hBW : Below w6.heap.size w6 W := by subst hW; exact ((Below.refl _ w6).alloc (Nat.le_refl _) _).alloc (by simp) _
  have b0 : W.heap[w6.heap.size]? = some (.cells #[.int .i64 1] 3 (0, 0)) := by subst hW; exact ha_lt (ha_at rfl)
  have b1 : W.heap[w6.heap.size + 1]? = some (.cells #[.int .i64 1, .int .i64 0, .int .u64 0, .int .u64 0, .int .u64 0] 56 (0, 0)) := by subst hW; exact ha_at (by simp)
  rw [hW]
  clear hW
  have hR6 : Rd 1 encI W (some ⟨w6.heap.size, 0, none⟩) [1] := Rd_flat encI_len (by simp) b0 rfl
  have hR7 : Rd 5 encBlk W (some ⟨w6.heap.size + 1, 0, none⟩) [⟨1, 0, ⟨0, 0⟩, 0⟩] := Rd_flat encBlk_len (by simp) b1 rfl
  have hB7 := below_call hB6 hB6.size hBW
  refine (h7 _ _ 1 1 W hR6 hR7).mono ?_
  rintro e w8 ⟨⟨r, v, rfl, hor, hfr⟩, hb8⟩
  have hlr := e7.out r hfr
  have hB8 := below_call hB7 hB7.size hb8
  obtain ⟨A8, c8, hv8, _⟩ := hor.rdn encItem_len
  rw [hlr] at hv8
  subst hv8
  clear h7
  go_wp2_with fail
  go_ret
  exact ⟨ret_bool (by simp), hB8⟩
end Go.Proofs.Ytibmfpcbjopojaa
