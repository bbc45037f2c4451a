/- GM: several texts in one. -/
import Derived.Test.YtdocgemfedohdaaGreatGL
import Derived.Laws.EntriesVeiled
import Derived.Deep.CutRange
import Derived.Deep.CutBlock
/-! quick.of, walked. -/
namespace Go.Proofs.YtdocgemfedohdaaGreat
open Go.RowKit
theorem set1 {w : World} {b : Nat} {x : Value} {T : TypeId} (h : w.heap[b]? = some (.cells #[x] T (0, 0))) (u : Value) : (w.setCell ⟨b, 0, none⟩ u).heap[b]? = some (.cells #[u] T (0, 0)) ∧ w.grownBy (w.setCell ⟨b, 0, none⟩ u) (some b) := by
  refine ⟨?_, grown_set _ _ _⟩
  rw [heap_setCell_same _ _ _ _ _ _ h]
  rfl
/-- A store into a small block turns no list of votes. -/
theorem Rd_small {W W' : World} {A : Option Addr} {m : List Vote} {b : Nat} {cs : Array Value} {T : TypeId} (h : Rd 4 encVote W A m) (hb : W.heap[b]? = some (.cells cs T (0, 0))) (hs : cs.size ≤ 3) (hg : W.grownBy W' (some b)) : Rd 4 encVote W' A m := by
  by_cases hm : m = []
  · subst hm; exact Rd_nil _ _ _ _
  · refine h.grown hg (fun a e => ?_)
    obtain ⟨b', o, hA, _, hc⟩ := h.2 hm
    rw [hA] at e
    have e' := Option.some.inj e
    subst e'
    intro e2
    have e3 : b' = b := Option.some.inj e2
    subst e3
    cases m with
    | nil => exact hm rfl
    | cons v m =>
      have h1 := hc 0 v rfl 3 (.int .u64 v.head.lo) rfl
      rw [blk_cell hb, Array.getElem?_eq_none (by omega)] at h1
      cases h1
theorem Rd_store1 {W : World} {A : Option Addr} {m : List Vote} {b : Nat} {x u : Value} {T : TypeId} (h : Rd 4 encVote W A m) (hb : W.heap[b]? = some (.cells #[x] T (0, 0))) : Rd 4 encVote (W.setCell ⟨b, 0, none⟩ u) A m :=
  Rd_small h hb (by simp) (grown_set _ _ _)
set_option maxRecDepth 100000 in
set_option maxHeartbeats 16000000 in
theorem qof_any (c : Cfg) (l : List Blk) (v : List Vote) (s : Int) (A A2 A3 : Option Addr) (k k2 k3 : Nat) (w : World) (hr : Rd 1 encI w A c.W) (hr2 : Rd 5 encBlk w A2 l) (hr3 : Rd 4 encVote w A3 v) (hvl : v.length ≤ 100000) :
    Calls Tryz.prog 29 #[cfgv A k c, .agg #[.slice A2 l.length k2, .slice A3 v.length k3], .int .i64 s] w fun e w' => (∃ A4 k4 Bc Bw Bv Bn, e = .returned (.agg #[onF Bc Bw Bv, sureF Bc Bn]) ∧ TestAt w' A A2 A3 A4 k k2 k3 k4 Bc Bw Bv Bn c l v.length (goldOf c v s) (quickAll c s)) ∧ Below w.heap.size w w' := by
  have hof := fun W (hW : Below w.heap.size w W) => gof_any c v s A A3 k k3 W (hr.below hW) (hr3.below hW) hvl
  have hcm := fun W (hW : Below w.heap.size w W) => committee_any c s A k W (hr.below hW)
  have hwt := fun W (hW : Below w.heap.size w W) A5 k5 h5 => dweight_any c (comC c s) A A5 k k5 W (hr.below hW) h5
  have hall : weightC c (comC c s) = quickAll c s := rfl
  rw [hall] at hwt
  obtain ⟨all, hae⟩ : ∃ all, quickAll c s = all := ⟨_, rfl⟩
  rw [hae] at hwt ⊢
  generalize goldOf c v s = m at hof ⊢
  generalize comC c s = cm at hcm hwt hall
  clear hae hall
  obtain ⟨W, hW⟩ : ∃ W, ((w.alloc (.cells #[.slice A c.W.length k, .int .u64 c.seed, .int .i64 c.epoch, .int .i64 c.num, .int .i64 c.den] 25)).alloc (.cells #[.slice A2 l.length k2, .slice A3 v.length k3] 40)).alloc (.cells #[.nilFunc, .nilFunc] 70) = W := ⟨_, rfl⟩
  have hB : Below w.heap.size w W := by subst hW; exact (((Below.refl _ w).alloc (Nat.le_refl _) _).alloc (by simp) _).alloc (by simp <;> omega) _
  have b0 : W.heap[w.heap.size]? = some (.cells #[.slice A c.W.length k, .int .u64 c.seed, .int .i64 c.epoch, .int .i64 c.num, .int .i64 c.den] 25 (0, 0)) := by subst hW; exact ha_lt (ha_lt (ha_at rfl))
  have b1 : W.heap[w.heap.size + 1]? = some (.cells #[.slice A2 l.length k2, .slice A3 v.length k3] 40 (0, 0)) := by subst hW; exact ha_lt (ha_at (by simp))
  have b2 : W.heap[w.heap.size + 1 + 1]? = some (.cells #[.nilFunc, .nilFunc] 70 (0, 0)) := by subst hW; exact ha_at (by simp)
  unfold cfgv at *
  go_enter Tryz.func29, Tryz.ntmps29
  go_wp2_with fail
  go_cut [7, 8] from 9 to 18 (fun v7 v8 wx => ∃ (A4 : Option Addr) (k4 Bv Bn : Nat), v7 = .pointer (some ⟨Bv, 0, none⟩) ∧ v8 = .pointer (some ⟨Bn, 0, none⟩) ∧ wx.heap[Bv]? = some (.cells #[.slice A4 m.length k4] 35 (0, 0)) ∧ wx.heap[Bn]? = some (.cells #[.int .i64 all] 3 (0, 0)) ∧ Rd 4 encVote wx A4 m ∧ Below W.heap.size W wx)
  case first =>
    have kw0 : Below W.heap.size W W.drew := (Below.refl _ W).drew
    have kw1 : Below W.heap.size W (W.alloc (.cells #[.slice none 0 0] 35)).drew := ((Below.refl _ W).alloc (Nat.le_refl _) _).drew
    have kw2 : Below W.heap.size W (W.alloc (.cells #[.int .i64 0] 3)).drew := ((Below.refl _ W).alloc (Nat.le_refl _) _).drew
    have kw3 : Below W.heap.size W ((W.alloc (.cells #[.slice none 0 0] 35)).alloc (.cells #[.int .i64 0] 3)).drew := (((Below.refl _ W).alloc (Nat.le_refl _) _).alloc (by simp) _).drew
    have kw4 : Below W.heap.size W ((W.alloc (.cells #[.int .i64 0] 3)).alloc (.cells #[.slice none 0 0] 35)).drew := (((Below.refl _ W).alloc (Nat.le_refl _) _).alloc (by simp) _).drew
    have kwv1 : (W.alloc (.cells #[.slice none 0 0] 35)).drew.heap[W.heap.size]? = some (.cells #[.slice none 0 0] 35 (0, 0)) := ha_at rfl
    have kwv3 : ((W.alloc (.cells #[.slice none 0 0] 35)).alloc (.cells #[.int .i64 0] 3)).drew.heap[W.heap.size]? = some (.cells #[.slice none 0 0] 35 (0, 0)) := ha_lt (ha_at rfl)
    have kwv4 : ((W.alloc (.cells #[.int .i64 0] 3)).alloc (.cells #[.slice none 0 0] 35)).drew.heap[W.heap.size + 1]? = some (.cells #[.slice none 0 0] 35 (0, 0)) := ha_at (by simp)
    have kwn2 : (W.alloc (.cells #[.int .i64 0] 3)).drew.heap[W.heap.size]? = some (.cells #[.int .i64 0] 3 (0, 0)) := ha_at rfl
    have kwn4 : ((W.alloc (.cells #[.int .i64 0] 3)).alloc (.cells #[.slice none 0 0] 35)).drew.heap[W.heap.size]? = some (.cells #[.int .i64 0] 3 (0, 0)) := ha_lt (ha_at rfl)
    have kwn3 : ((W.alloc (.cells #[.slice none 0 0] 35)).alloc (.cells #[.int .i64 0] 3)).drew.heap[W.heap.size + 1]? = some (.cells #[.int .i64 0] 3 (0, 0)) := ha_at (by simp)
    have o0 := hof _ (below_call hB hB.size kw0)
    have o1 := hof _ (below_call hB hB.size kw1)
    have o2 := hof _ (below_call hB hB.size kw2)
    have o3 := hof _ (below_call hB hB.size kw3)
    have o4 := hof _ (below_call hB hB.size kw4)
    have hl0 := lt_of_block b0
    have hl1 := lt_of_block b1
    clear hof
    go_region_held3 (fun W' => W'.cell? ⟨w.heap.size, 0, none⟩ = some (.slice A c.W.length k) ∧ W'.cell? ⟨w.heap.size, 1, none⟩ = some (.int .u64 c.seed) ∧ W'.cell? ⟨w.heap.size, 2, none⟩ = some (.int .i64 c.epoch) ∧ W'.cell? ⟨w.heap.size, 3, none⟩ = some (.int .i64 c.num) ∧ W'.cell? ⟨w.heap.size, 4, none⟩ = some (.int .i64 c.den) ∧ W'.cell? ⟨w.heap.size + 1, 0, none⟩ = some (.slice A2 l.length k2) ∧ W'.cell? ⟨w.heap.size + 1, 1, none⟩ = some (.slice A3 v.length k3))
      (first | exact cv7 b0 b1 | exact cv7 (show W.drew.heap[_]? = _ from b0) (show W.drew.heap[_]? = _ from b1) | exact cv7 (bl_own kw1 b0) (bl_own kw1 b1) | exact cv7 (bl_own kw2 b0) (bl_own kw2 b1) | exact cv7 (bl_own kw3 b0) (bl_own kw3 b1) | exact cv7 (bl_own kw4 b0) (bl_own kw4 b1) | (with_reducible exact cv7 b0 b1) | (with_reducible exact cv7 (ha_lt b0) (ha_lt b1)) | (with_reducible exact cv7 (ha_lt (ha_lt b0)) (ha_lt (ha_lt b1))) | (with_reducible exact cv7 d0 d1) | (with_reducible exact cv7 (ha_lt d0) (ha_lt d1)) | (with_reducible exact cv7 (ha_lt (ha_lt d0)) (ha_lt (ha_lt d1))) | (with_reducible exact cv7 e0 e1) | (with_reducible exact cv7 (ha_lt e0) (ha_lt e1)) | (with_reducible exact cv7 (ha_lt (ha_lt e0)) (ha_lt (ha_lt e1))) | (with_reducible exact cv7 P0 P1) | (with_reducible exact cv7 (ha_lt P0) (ha_lt P1)) | (with_reducible exact cv7 (ha_lt (ha_lt P0)) (ha_lt (ha_lt P1))) | (with_reducible exact cv7 Zv0 Zv1) | (with_reducible exact cv7 Zn0 Zn1) | (with_reducible exact cv7 Zvn0 Zvn1) | (with_reducible exact cv7 Znv0 Znv1) | (with_reducible exact cv7 Pa Pb) | (with_reducible exact cv7 Pc Pd) | (with_reducible exact cv7 Zva Zvb) | (with_reducible exact cv7 Zvc Zvd) | (with_reducible exact cv7 Zna Znb) | (with_reducible exact cv7 Znc Znd) | (with_reducible exact cv7 Zvna Zvnb) | (with_reducible exact cv7 Zvnc Zvnd) | (with_reducible exact cv7 Znva Znvb) | (with_reducible exact cv7 Znvc Znvd))
      ((first
        | (go_at_call 14; (first | (with_reducible refine o0.mono ?_) | (with_reducible refine o1.mono ?_) | (with_reducible refine o2.mono ?_) | (with_reducible refine o3.mono ?_) | (with_reducible refine o4.mono ?_)); clear o0 o1 o2 o3 o4; rintro e w3 ⟨A4, k4, rfl, hR4, hb3⟩; have hK3 : Below W.heap.size W w3 := (by first | (with_reducible exact below_call kw0 kw0.size hb3) | (with_reducible exact below_call kw1 kw1.size hb3) | (with_reducible exact below_call kw2 kw2.size hb3) | (with_reducible exact below_call kw3 kw3.size hb3) | (with_reducible exact below_call kw4 kw4.size hb3)); (first | (with_reducible have fv3 := bl_own hb3 kwv1) | (with_reducible have fv3 := bl_own hb3 kwv3) | (with_reducible have fv3 := bl_own hb3 kwv4) | skip); (first | (with_reducible have fn3 := bl_own hb3 kwn2) | (with_reducible have fn3 := bl_own hb3 kwn3) | (with_reducible have fn3 := bl_own hb3 kwn4) | skip); have jw0 : Below w3.heap.size w3 w3 := (Below.refl _ w3); have jw1 : Below w3.heap.size w3 (w3.alloc (.cells #[.slice none 0 0] 35)) := ((Below.refl _ w3).alloc (Nat.le_refl _) _); have jw2 : Below w3.heap.size w3 (w3.alloc (.cells #[.int .i64 0] 3)) := ((Below.refl _ w3).alloc (Nat.le_refl _) _); have jw3 : Below w3.heap.size w3 ((w3.alloc (.cells #[.slice none 0 0] 35)).alloc (.cells #[.int .i64 0] 3)) := (((Below.refl _ w3).alloc (Nat.le_refl _) _).alloc (by simp) _); have jw4 : Below w3.heap.size w3 ((w3.alloc (.cells #[.int .i64 0] 3)).alloc (.cells #[.slice none 0 0] 35)) := (((Below.refl _ w3).alloc (Nat.le_refl _) _).alloc (by simp) _); have jwv1 : (w3.alloc (.cells #[.slice none 0 0] 35)).heap[w3.heap.size]? = some (.cells #[.slice none 0 0] 35 (0, 0)) := ha_at rfl; have jwv3 : ((w3.alloc (.cells #[.slice none 0 0] 35)).alloc (.cells #[.int .i64 0] 3)).heap[w3.heap.size]? = some (.cells #[.slice none 0 0] 35 (0, 0)) := ha_lt (ha_at rfl); have jwv4 : ((w3.alloc (.cells #[.int .i64 0] 3)).alloc (.cells #[.slice none 0 0] 35)).heap[w3.heap.size + 1]? = some (.cells #[.slice none 0 0] 35 (0, 0)) := ha_at (by simp); have jwn2 : (w3.alloc (.cells #[.int .i64 0] 3)).heap[w3.heap.size]? = some (.cells #[.int .i64 0] 3 (0, 0)) := ha_at rfl; have jwn4 : ((w3.alloc (.cells #[.int .i64 0] 3)).alloc (.cells #[.slice none 0 0] 35)).heap[w3.heap.size]? = some (.cells #[.int .i64 0] 3 (0, 0)) := ha_lt (ha_at rfl); have jwn3 : ((w3.alloc (.cells #[.slice none 0 0] 35)).alloc (.cells #[.int .i64 0] 3)).heap[w3.heap.size + 1]? = some (.cells #[.int .i64 0] 3 (0, 0)) := ha_at (by simp); have d0 := bl_own hK3 b0; have d1 := bl_own hK3 b1; have hB3 := below_call hB hB.size hK3; have c0 := hcm _ (below_call hB3 hB3.size jw0); have c1 := hcm _ (below_call hB3 hB3.size jw1); have c2 := hcm _ (below_call hB3 hB3.size jw2); have c3 := hcm _ (below_call hB3 hB3.size jw3); have c4 := hcm _ (below_call hB3 hB3.size jw4); have z3 := hK3.size; (try have lv3 := lt_of_block fv3); (try have ln3 := lt_of_block fn3))
        | (go_at_call 9; (first | (with_reducible refine c0.mono ?_) | (with_reducible refine c1.mono ?_) | (with_reducible refine c2.mono ?_) | (with_reducible refine c3.mono ?_) | (with_reducible refine c4.mono ?_)); clear c0 c1 c2 c3 c4; rintro e w4 ⟨u, rfl, ho4, hb4⟩; obtain ⟨A5, k5, hu, hR5⟩ := ho4.rd encI_len; subst hu; have hK4 : Below w3.heap.size w3 w4 := (by first | (with_reducible exact below_call jw0 jw0.size hb4) | (with_reducible exact below_call jw1 jw1.size hb4) | (with_reducible exact below_call jw2 jw2.size hb4) | (with_reducible exact below_call jw3 jw3.size hb4) | (with_reducible exact below_call jw4 jw4.size hb4)); (first | (with_reducible have fv4 := bl_own hb4 fv3) | (with_reducible have fv4 := bl_own hb4 (ha_lt fv3)) | (with_reducible have fv4 := bl_own hb4 (ha_lt (ha_lt fv3))) | (with_reducible have fv4 := bl_own hb4 jwv1) | (with_reducible have fv4 := bl_own hb4 jwv3) | (with_reducible have fv4 := bl_own hb4 jwv4) | skip); (first | (with_reducible have fn4 := bl_own hb4 fn3) | (with_reducible have fn4 := bl_own hb4 (ha_lt fn3)) | (with_reducible have fn4 := bl_own hb4 (ha_lt (ha_lt fn3))) | (with_reducible have fn4 := bl_own hb4 jwn2) | (with_reducible have fn4 := bl_own hb4 jwn3) | (with_reducible have fn4 := bl_own hb4 jwn4) | skip); have iw0 : Below w4.heap.size w4 w4 := (Below.refl _ w4); have iw1 : Below w4.heap.size w4 (w4.alloc (.cells #[.slice none 0 0] 35)) := ((Below.refl _ w4).alloc (Nat.le_refl _) _); have iw2 : Below w4.heap.size w4 (w4.alloc (.cells #[.int .i64 0] 3)) := ((Below.refl _ w4).alloc (Nat.le_refl _) _); have iw3 : Below w4.heap.size w4 ((w4.alloc (.cells #[.slice none 0 0] 35)).alloc (.cells #[.int .i64 0] 3)) := (((Below.refl _ w4).alloc (Nat.le_refl _) _).alloc (by simp) _); have iw4 : Below w4.heap.size w4 ((w4.alloc (.cells #[.int .i64 0] 3)).alloc (.cells #[.slice none 0 0] 35)) := (((Below.refl _ w4).alloc (Nat.le_refl _) _).alloc (by simp) _); have iwv1 : (w4.alloc (.cells #[.slice none 0 0] 35)).heap[w4.heap.size]? = some (.cells #[.slice none 0 0] 35 (0, 0)) := ha_at rfl; have iwv3 : ((w4.alloc (.cells #[.slice none 0 0] 35)).alloc (.cells #[.int .i64 0] 3)).heap[w4.heap.size]? = some (.cells #[.slice none 0 0] 35 (0, 0)) := ha_lt (ha_at rfl); have iwv4 : ((w4.alloc (.cells #[.int .i64 0] 3)).alloc (.cells #[.slice none 0 0] 35)).heap[w4.heap.size + 1]? = some (.cells #[.slice none 0 0] 35 (0, 0)) := ha_at (by simp); have iwn2 : (w4.alloc (.cells #[.int .i64 0] 3)).heap[w4.heap.size]? = some (.cells #[.int .i64 0] 3 (0, 0)) := ha_at rfl; have iwn4 : ((w4.alloc (.cells #[.int .i64 0] 3)).alloc (.cells #[.slice none 0 0] 35)).heap[w4.heap.size]? = some (.cells #[.int .i64 0] 3 (0, 0)) := ha_lt (ha_at rfl); have iwn3 : ((w4.alloc (.cells #[.slice none 0 0] 35)).alloc (.cells #[.int .i64 0] 3)).heap[w4.heap.size + 1]? = some (.cells #[.int .i64 0] 3 (0, 0)) := ha_at (by simp); have e0 := bl_own hK4 d0; have e1 := bl_own hK4 d1; have hR44 := hR4.below hK4; have hB4 := below_call hB3 hB3.size hK4; have t0 := hwt _ (below_call hB4 hB4.size iw0) A5 k5 (hR5.below iw0); have t1 := hwt _ (below_call hB4 hB4.size iw1) A5 k5 (hR5.below iw1); have t2 := hwt _ (below_call hB4 hB4.size iw2) A5 k5 (hR5.below iw2); have t3 := hwt _ (below_call hB4 hB4.size iw3) A5 k5 (hR5.below iw3); have t4 := hwt _ (below_call hB4 hB4.size iw4) A5 k5 (hR5.below iw4); have z4 := hK4.size; (try have lv4 := lt_of_block fv4); (try have ln4 := lt_of_block fn4))
        | (go_at_call 10; (first | (with_reducible refine t0.mono ?_) | (with_reducible refine t1.mono ?_) | (with_reducible refine t2.mono ?_) | (with_reducible refine t3.mono ?_) | (with_reducible refine t4.mono ?_)); clear t0 t1 t2 t3 t4; rintro e w5 ⟨rfl, hb5⟩; have hK5 : Below w4.heap.size w4 w5 := (by first | (with_reducible exact below_call iw0 iw0.size hb5) | (with_reducible exact below_call iw1 iw1.size hb5) | (with_reducible exact below_call iw2 iw2.size hb5) | (with_reducible exact below_call iw3 iw3.size hb5) | (with_reducible exact below_call iw4 iw4.size hb5)); (first | (with_reducible have fv5 := bl_own hb5 fv4) | (with_reducible have fv5 := bl_own hb5 (ha_lt fv4)) | (with_reducible have fv5 := bl_own hb5 (ha_lt (ha_lt fv4))) | (with_reducible have fv5 := bl_own hb5 iwv1) | (with_reducible have fv5 := bl_own hb5 iwv3) | (with_reducible have fv5 := bl_own hb5 iwv4) | skip); (first | (with_reducible have fn5 := bl_own hb5 fn4) | (with_reducible have fn5 := bl_own hb5 (ha_lt fn4)) | (with_reducible have fn5 := bl_own hb5 (ha_lt (ha_lt fn4))) | (with_reducible have fn5 := bl_own hb5 iwn2) | (with_reducible have fn5 := bl_own hb5 iwn3) | (with_reducible have fn5 := bl_own hb5 iwn4) | skip); have P0 := bl_own hK5 e0; have P1 := bl_own hK5 e1; have hR45 := hR44.below hK5; have hKK := below_call (below_call hK3 hK3.size hK4) (below_call hK3 hK3.size hK4).size hK5; have z5 := hK5.size; (try have lv5 := lt_of_block fv5); (try have ln5 := lt_of_block fn5); (try (have Pq1 := set1 fv5 (.slice A4 m.length k4); have Ph1 := grown_own Pq1.2 fn5 (fun e => by have := Option.some.inj e; omega); have Pq2 := set1 Ph1 (.int .i64 all); have Pr2 := grown_own Pq2.2 Pq1.1 (fun e => by have := Option.some.inj e; omega); have Pa := grown_own Pq1.2 P0 (fun e => by have := Option.some.inj e; omega); have Pb := grown_own Pq1.2 P1 (fun e => by have := Option.some.inj e; omega); have Pc := grown_own Pq2.2 Pa (fun e => by have := Option.some.inj e; omega); have Pd := grown_own Pq2.2 Pb (fun e => by have := Option.some.inj e; omega); obtain ⟨Pm0, Pm1⟩ := blk1 fv5; obtain ⟨Pm2, Pm3⟩ := blk1 Ph1)); obtain ⟨Zv, hZv⟩ : ∃ Z, w5.alloc (.cells #[.slice none 0 0] 35) = Z := ⟨_, rfl⟩; have BZv : Below w5.heap.size w5 Zv := (by subst hZv; exact (Below.refl _ _).alloc (Nat.le_refl _) _); have zZv := BZv.size; have Zv0 := bl_own BZv P0; have Zv1 := bl_own BZv P1; have Zvv : Zv.heap[w5.heap.size]? = some (.cells #[.slice none 0 0] 35 (0, 0)) := (by subst hZv; exact ha_at rfl); obtain ⟨Zn, hZn⟩ : ∃ Z, w5.alloc (.cells #[.int .i64 0] 3) = Z := ⟨_, rfl⟩; have BZn : Below w5.heap.size w5 Zn := (by subst hZn; exact (Below.refl _ _).alloc (Nat.le_refl _) _); have zZn := BZn.size; have Zn0 := bl_own BZn P0; have Zn1 := bl_own BZn P1; have Znn : Zn.heap[w5.heap.size]? = some (.cells #[.int .i64 0] 3 (0, 0)) := (by subst hZn; exact ha_at rfl); obtain ⟨Zvn, hZvn⟩ : ∃ Z, Zv.alloc (.cells #[.int .i64 0] 3) = Z := ⟨_, rfl⟩; have BZvn : Below Zv.heap.size Zv Zvn := (by subst hZvn; exact (Below.refl _ _).alloc (Nat.le_refl _) _); have zZvn := BZvn.size; have Zvn0 := bl_own BZvn Zv0; have Zvn1 := bl_own BZvn Zv1; have Zvnn : Zvn.heap[Zv.heap.size]? = some (.cells #[.int .i64 0] 3 (0, 0)) := (by subst hZvn; exact ha_at rfl); obtain ⟨Znv, hZnv⟩ : ∃ Z, Zn.alloc (.cells #[.slice none 0 0] 35) = Z := ⟨_, rfl⟩; have BZnv : Below Zn.heap.size Zn Znv := (by subst hZnv; exact (Below.refl _ _).alloc (Nat.le_refl _) _); have zZnv := BZnv.size; have Znv0 := bl_own BZnv Zn0; have Znv1 := bl_own BZnv Zn1; have Znvv : Znv.heap[Zn.heap.size]? = some (.cells #[.slice none 0 0] 35 (0, 0)) := (by subst hZnv; exact ha_at rfl); (try have Zvn5 := bl_own BZv fn5); (try have Znv5 := bl_own BZn fv5); have Zvnv := bl_own BZvn Zvv; have Znvn := bl_own BZnv Znn; have lZv := lt_of_block Zvv; have lZn := lt_of_block Znn; (try (have Zvq1 := set1 Zvv (.slice A4 m.length k4); have Zvh1 := grown_own Zvq1.2 Zvn5 (fun e => by have := Option.some.inj e; omega); have Zvq2 := set1 Zvh1 (.int .i64 all); have Zvr2 := grown_own Zvq2.2 Zvq1.1 (fun e => by have := Option.some.inj e; omega); have Zva := grown_own Zvq1.2 Zv0 (fun e => by have := Option.some.inj e; omega); have Zvb := grown_own Zvq1.2 Zv1 (fun e => by have := Option.some.inj e; omega); have Zvc := grown_own Zvq2.2 Zva (fun e => by have := Option.some.inj e; omega); have Zvd := grown_own Zvq2.2 Zvb (fun e => by have := Option.some.inj e; omega); obtain ⟨Zvm0, Zvm1⟩ := blk1 Zvv; obtain ⟨Zvm2, Zvm3⟩ := blk1 Zvh1)); (try (have Znq1 := set1 Znv5 (.slice A4 m.length k4); have Znh1 := grown_own Znq1.2 Znn (fun e => by have := Option.some.inj e; omega); have Znq2 := set1 Znh1 (.int .i64 all); have Znr2 := grown_own Znq2.2 Znq1.1 (fun e => by have := Option.some.inj e; omega); have Zna := grown_own Znq1.2 Zn0 (fun e => by have := Option.some.inj e; omega); have Znb := grown_own Znq1.2 Zn1 (fun e => by have := Option.some.inj e; omega); have Znc := grown_own Znq2.2 Zna (fun e => by have := Option.some.inj e; omega); have Znd := grown_own Znq2.2 Znb (fun e => by have := Option.some.inj e; omega); obtain ⟨Znm0, Znm1⟩ := blk1 Znv5; obtain ⟨Znm2, Znm3⟩ := blk1 Znh1)); (try (have Zvnq1 := set1 Zvnv (.slice A4 m.length k4); have Zvnh1 := grown_own Zvnq1.2 Zvnn (fun e => by have := Option.some.inj e; omega); have Zvnq2 := set1 Zvnh1 (.int .i64 all); have Zvnr2 := grown_own Zvnq2.2 Zvnq1.1 (fun e => by have := Option.some.inj e; omega); have Zvna := grown_own Zvnq1.2 Zvn0 (fun e => by have := Option.some.inj e; omega); have Zvnb := grown_own Zvnq1.2 Zvn1 (fun e => by have := Option.some.inj e; omega); have Zvnc := grown_own Zvnq2.2 Zvna (fun e => by have := Option.some.inj e; omega); have Zvnd := grown_own Zvnq2.2 Zvnb (fun e => by have := Option.some.inj e; omega); obtain ⟨Zvnm0, Zvnm1⟩ := blk1 Zvnv; obtain ⟨Zvnm2, Zvnm3⟩ := blk1 Zvnh1)); (try (have Znvq1 := set1 Znvv (.slice A4 m.length k4); have Znvh1 := grown_own Znvq1.2 Znvn (fun e => by have := Option.some.inj e; omega); have Znvq2 := set1 Znvh1 (.int .i64 all); have Znvr2 := grown_own Znvq2.2 Znvq1.1 (fun e => by have := Option.some.inj e; omega); have Znva := grown_own Znvq1.2 Znv0 (fun e => by have := Option.some.inj e; omega); have Znvb := grown_own Znvq1.2 Znv1 (fun e => by have := Option.some.inj e; omega); have Znvc := grown_own Znvq2.2 Znva (fun e => by have := Option.some.inj e; omega); have Znvd := grown_own Znvq2.2 Znvb (fun e => by have := Option.some.inj e; omega); obtain ⟨Znvm0, Znvm1⟩ := blk1 Znvv; obtain ⟨Znvm2, Znvm3⟩ := blk1 Znvh1)))))
    all_goals go_wp2
    all_goals go_meet
    all_goals first
      | (have u1 := below_step hKK hKK.size Pq1.2 (fun k e => by have := Option.some.inj e; omega); have u2 := below_step u1 u1.size Pq2.2 (fun k e => by have := Option.some.inj e; omega); exact ⟨A4, k4, _, _, rfl, rfl, Pr2, Pq2.1, Rd_store1 (Rd_store1 hR45 fv5) Ph1, u2⟩)
      | (have u1 := below_step (below_call hKK hKK.size BZv) (below_call hKK hKK.size BZv).size Zvq1.2 (fun k e => by have := Option.some.inj e; omega); have u2 := below_step u1 u1.size Zvq2.2 (fun k e => by have := Option.some.inj e; omega); exact ⟨A4, k4, _, _, rfl, rfl, Zvr2, Zvq2.1, Rd_store1 (Rd_store1 (hR45.below BZv) Zvv) Zvh1, u2⟩)
      | (have u1 := below_step (below_call hKK hKK.size BZn) (below_call hKK hKK.size BZn).size Znq1.2 (fun k e => by have := Option.some.inj e; omega); have u2 := below_step u1 u1.size Znq2.2 (fun k e => by have := Option.some.inj e; omega); exact ⟨A4, k4, _, _, rfl, rfl, Znr2, Znq2.1, Rd_store1 (Rd_store1 (hR45.below BZn) Znv5) Znh1, u2⟩)
      | (have u1 := below_step (below_call (below_call hKK hKK.size BZv) (below_call hKK hKK.size BZv).size BZvn) (below_call (below_call hKK hKK.size BZv) (below_call hKK hKK.size BZv).size BZvn).size Zvnq1.2 (fun k e => by have := Option.some.inj e; omega); have u2 := below_step u1 u1.size Zvnq2.2 (fun k e => by have := Option.some.inj e; omega); exact ⟨A4, k4, _, _, rfl, rfl, Zvnr2, Zvnq2.1, Rd_store1 (Rd_store1 ((hR45.below BZv).below BZvn) Zvnv) Zvnh1, u2⟩)
      | (have u1 := below_step (below_call (below_call hKK hKK.size BZn) (below_call hKK hKK.size BZn).size BZnv) (below_call (below_call hKK hKK.size BZn) (below_call hKK hKK.size BZn).size BZnv).size Znvq1.2 (fun k e => by have := Option.some.inj e; omega); have u2 := below_step u1 u1.size Znvq2.2 (fun k e => by have := Option.some.inj e; omega); exact ⟨A4, k4, _, _, rfl, rfl, Znvr2, Znvq2.1, Rd_store1 (Rd_store1 ((hR45.below BZn).below BZnv) Znvv) Znvh1, u2⟩)
  case rest =>
    obtain ⟨A4, k4, Bv, Bn, rfl, rfl, hv, hn, hR4, hK⟩ := hcut
    have hBc := below_call hB hB.size hK
    have e0 := bl_own hK b0
    have e1 := bl_own hK b1
    have e2 := bl_own hK b2
    have nv : some Bv ≠ some (w.heap.size + 1 + 1) := fun e => by
      rw [Option.some.inj e, e2] at hv
      simp at hv
    have nn : some Bn ≠ some (w.heap.size + 1 + 1) := fun e => by
      rw [Option.some.inj e, e2] at hn
      simp at hn
    obtain ⟨m0, m1, m2, m3⟩ := blk2 e2
    clear b0 b1 b2 hB hW hK
    go_wp2_with fail
    obtain ⟨q1, q2⟩ := set2 e2 (onF w.heap.size (w.heap.size + 1) Bv) (sureF w.heap.size Bn)
    obtain ⟨p0, p1, _, _⟩ := blk2 q1
    have x0 := grown_own q2 e0 (fun e => by have := Option.some.inj e; omega)
    have x1 := grown_own q2 e1 (fun e => by have := Option.some.inj e; omega)
    have xv := grown_own q2 hv nv
    have xn := grown_own q2 hn nn
    have hle : w.heap.size ≤ w.heap.size + 1 + 1 := by omega
    have hfin := below_step hBc hBc.size q2 (fun k e => by cases e; exact hle)
    have hR4' := Rd_small hR4 e2 (by simp) q2
    unfold onF sureF at q1 q2 p0 p1 x0 x1 xv xn hfin hR4'
    refine bodyPost_ret (v := .agg #[onF w.heap.size (w.heap.size + 1) Bv, sureF w.heap.size Bn]) ?_ rfl ⟨⟨A4, k4, _, _, Bv, Bn, rfl, ⟨x0, x1, xv, xn, hr.below hfin, hr2.below hfin, hR4'⟩⟩, hfin⟩
    unfold onF sureF
    simp [results, Tryz.results29, go_sem, p0, p1]
end Go.Proofs.YtdocgemfedohdaaGreat
/-! quick.For, quick.Sure, walked. -/
namespace Go.Proofs.YtdocgemfedohdaaGreat
open Go.RowKit
theorem cvq {W : World} {N : Nat} {a b c d e x y z u : Value} {T T2 T3 : TypeId} (h : W.heap[N]? = some (.cells #[a, b, c, d, e] T (0, 0))) (h2 : W.heap[N + 1]? = some (.cells #[x, y] T2 (0, 0))) (h3 : W.heap[N + 1 + 1]? = some (.cells #[z, u] T3 (0, 0))) :
    W.cell? ⟨N, 0, none⟩ = some a ∧ W.cell? ⟨N, 1, none⟩ = some b ∧ W.cell? ⟨N, 2, none⟩ = some c ∧ W.cell? ⟨N, 3, none⟩ = some d ∧ W.cell? ⟨N, 4, none⟩ = some e ∧ W.cell? ⟨N + 1, 0, none⟩ = some x ∧ W.cell? ⟨N + 1, 1, none⟩ = some y ∧ W.cell? ⟨N + 1 + 1, 0, none⟩ = some z ∧ W.cell? ⟨N + 1 + 1, 1, none⟩ = some u :=
  ⟨blk_cell h 0, blk_cell h 1, blk_cell h 2, blk_cell h 3, blk_cell h 4, blk_cell h2 0, blk_cell h2 1, blk_cell h3 0, blk_cell h3 1⟩
theorem cvt {W : World} {N M : Nat} {x y z u : Value} {T T2 : TypeId} (h : W.heap[N]? = some (.cells #[x, y] T (0, 0))) (h2 : W.heap[M]? = some (.cells #[z, u] T2 (0, 0))) :
    (W.cell? ⟨N, 0, none⟩ = some x ∧ W.cell? ⟨N, 1, none⟩ = some y) ∧ W.cell? ⟨M, 0, none⟩ = some z ∧ W.cell? ⟨M, 1, none⟩ = some u := ⟨⟨blk_cell h 0, blk_cell h 1⟩, blk_cell h2 0, blk_cell h2 1⟩
theorem field_test0 (Bc Bw Bv Bn : Nat) (w : World) : (Instr.field 70 (.agg #[.func (.func 42) #[] #[.pointer (some ⟨Bc, 0, none⟩), .pointer (some ⟨Bw, 0, none⟩), .pointer (some ⟨Bv, 0, none⟩)], .func (.func 44) #[] #[.pointer (some ⟨Bc, 0, none⟩), .pointer (some ⟨Bn, 0, none⟩)]]) 0).run Tryz.prog w = .ok (.func (.func 42) #[] #[.pointer (some ⟨Bc, 0, none⟩), .pointer (some ⟨Bw, 0, none⟩), .pointer (some ⟨Bv, 0, none⟩)]) w := by kernel_rfl
set_option maxRecDepth 100000 in
set_option maxHeartbeats 4000000 in
theorem qfor_any (c : Cfg) (l : List Blk) (v : List Vote) (s : Int) (x : ID) (A A2 A3 : Option Addr) (k k2 k3 : Nat) (w : World) (hr : Rd 1 encI w A c.W) (hr2 : Rd 5 encBlk w A2 l) (hr3 : Rd 4 encVote w A3 v) (hl : l.length ≤ 100000) (hvl : v.length ≤ 100000) :
    Calls Tryz.prog 12 #[cfgv A k c, .agg #[.slice A2 l.length k2, .slice A3 v.length k3], .int .i64 s, idv x] w fun e w' => e = .returned (.int .i64 (quickFor c l v s x)) ∧ Below w.heap.size w w' := by
  have hqo := fun V (hV : Below w.heap.size w V) => qof_any c l v s A A2 A3 k k2 k3 V (hr.below hV) (hr2.below hV) (hr3.below hV) hvl
  have hon := Lib.hid (fun V A4 k4 Bc Bw Bv Bn (h : TestAt V A A2 A3 A4 k k2 k3 k4 Bc Bw Bv Bn c l v.length (goldOf c v s) (quickAll c s)) => of1q_any x V h hl (gold_len2 hvl))
  have hr : onC c l (goldOf c v s) x = quickFor c l v s x := rfl
  rw [hr] at hon
  obtain ⟨r, hrr⟩ : ∃ r, quickFor c l v s x = r := ⟨_, rfl⟩
  rw [hrr] at hon ⊢
  clear hr hrr
  generalize goldOf c v s = m at hqo hon
  generalize quickAll c s = all at hqo hon
  unfold onF sureF at hqo
  unfold cfgv idv at *
  obtain ⟨W, hW⟩ : ∃ W, ((w.alloc (.cells #[.slice A c.W.length k, .int .u64 c.seed, .int .i64 c.epoch, .int .i64 c.num, .int .i64 c.den] 25)).alloc (.cells #[.slice A2 l.length k2, .slice A3 v.length k3] 40)).alloc (.cells #[.int .u64 x.hi, .int .u64 x.lo] 28) = W := ⟨_, rfl⟩
  have hB : Below w.heap.size w W := by subst hW; exact (((Below.refl _ w).alloc (Nat.le_refl _) _).alloc (by simp) _).alloc (by simp <;> omega) _
  have b0 : W.heap[w.heap.size]? = some (.cells #[.slice A c.W.length k, .int .u64 c.seed, .int .i64 c.epoch, .int .i64 c.num, .int .i64 c.den] 25 (0, 0)) := by subst hW; exact ha_lt (ha_lt (ha_at rfl))
  have b1 : W.heap[w.heap.size + 1]? = some (.cells #[.slice A2 l.length k2, .slice A3 v.length k3] 40 (0, 0)) := by subst hW; exact ha_lt (ha_at (by simp))
  have b2 : W.heap[w.heap.size + 1 + 1]? = some (.cells #[.int .u64 x.hi, .int .u64 x.lo] 28 (0, 0)) := by subst hW; exact ha_at (by simp)
  have hfd := field_test0
  go_enter Tryz.func12, Tryz.ntmps12
  go_wp2_with fail
  go_region_held3 (fun W' => W'.cell? ⟨w.heap.size, 0, none⟩ = some (.slice A c.W.length k) ∧ W'.cell? ⟨w.heap.size, 1, none⟩ = some (.int .u64 c.seed) ∧ W'.cell? ⟨w.heap.size, 2, none⟩ = some (.int .i64 c.epoch) ∧ W'.cell? ⟨w.heap.size, 3, none⟩ = some (.int .i64 c.num) ∧ W'.cell? ⟨w.heap.size, 4, none⟩ = some (.int .i64 c.den) ∧ W'.cell? ⟨w.heap.size + 1, 0, none⟩ = some (.slice A2 l.length k2) ∧ W'.cell? ⟨w.heap.size + 1, 1, none⟩ = some (.slice A3 v.length k3) ∧ W'.cell? ⟨w.heap.size + 1 + 1, 0, none⟩ = some (.int .u64 x.hi) ∧ W'.cell? ⟨w.heap.size + 1 + 1, 1, none⟩ = some (.int .u64 x.lo))
    (first | exact cvq b0 b1 b2 | exact cvq d0 d1 d2 | exact cvq e0 e1 e2) ((first
      | (go_at_call 29; (with_reducible refine (hqo _ hB.drew).mono ?_); clear hqo; rintro e w3 ⟨⟨A4, k4, Bc, Bw, Bv, Bn, rfl, hT⟩, hb3⟩; have hB3 := below_call hB.drew hB.size hb3; have hQ3 : Below W.heap.size W w3 := below_call (Below.refl _ W).drew (Nat.le_refl _) hb3; have d0 := bl_own hQ3 b0; have d1 := bl_own hQ3 b1; have d2 := bl_own hQ3 b2)
      | (go_at_call 42; (with_reducible refine (hon.out _ _ _ _ _ _ _ hT).mono ?_); rintro e w4 ⟨rfl, hb4⟩; have hB4 := below_call hB3 hB3.size hb4; have e0 := bl_own hb4 d0; have e1 := bl_own hb4 d1; have e2 := bl_own hb4 d2)))
  go_wp2
  go_ret
  exact ⟨rfl, hB4⟩
set_option maxRecDepth 100000 in
set_option maxHeartbeats 4000000 in
theorem qsure_any (c : Cfg) (l : List Blk) (v : List Vote) (s : Int) (x : ID) (A A2 A3 : Option Addr) (k k2 k3 : Nat) (w : World) (hr : Rd 1 encI w A c.W) (hr2 : Rd 5 encBlk w A2 l) (hr3 : Rd 4 encVote w A3 v) (hl : l.length ≤ 100000) (hvl : v.length ≤ 100000) (hc : NumFew c) :
    Calls Tryz.prog 13 #[cfgv A k c, .agg #[.slice A2 l.length k2, .slice A3 v.length k3], .int .i64 s, idv x] w fun e w' => e = .returned (.bool (quickSure c l v s x)) ∧ Below w.heap.size w w' := by
  have hqo := fun V (hV : Below w.heap.size w V) => qof_any c l v s A A2 A3 k k2 k3 V (hr.below hV) (hr2.below hV) (hr3.below hV) hvl
  have hon := Lib.hid (fun V A4 k4 Bc Bw Bv Bn (h : TestAt V A A2 A3 A4 k k2 k3 k4 Bc Bw Bv Bn c l v.length (goldOf c v s) (quickAll c s)) => of1q_any x V h hl (gold_len2 hvl))
  have hsu := Lib.hid (fun V A4 k4 Bc Bw Bv Bn (h : TestAt V A A2 A3 A4 k k2 k3 k4 Bc Bw Bv Bn c l v.length (goldOf c v s) (quickAll c s)) => of2q_any (quickFor c l v s x) V h (quickFor_bd c l v s x) hc)
  have hr' : onC c l (goldOf c v s) x = quickFor c l v s x := rfl
  rw [hr'] at hon
  have hr2' : sureN c (quickAll c s) (quickFor c l v s x) = quickSure c l v s x := rfl
  rw [hr2'] at hsu
  obtain ⟨n, hnn⟩ : ∃ n, quickFor c l v s x = n := ⟨_, rfl⟩
  obtain ⟨r, hrr⟩ : ∃ r, quickSure c l v s x = r := ⟨_, rfl⟩
  rw [hnn] at hon hsu
  rw [hrr] at hsu ⊢
  clear hr' hr2' hrr hnn
  generalize goldOf c v s = m at hqo hon hsu
  generalize quickAll c s = all at hqo hon hsu
  unfold onF sureF at hqo
  unfold cfgv idv at *
  obtain ⟨W, hW⟩ : ∃ W, ((w.alloc (.cells #[.slice A c.W.length k, .int .u64 c.seed, .int .i64 c.epoch, .int .i64 c.num, .int .i64 c.den] 25)).alloc (.cells #[.slice A2 l.length k2, .slice A3 v.length k3] 40)).alloc (.cells #[.int .u64 x.hi, .int .u64 x.lo] 28) = W := ⟨_, rfl⟩
  have hB : Below w.heap.size w W := by subst hW; exact (((Below.refl _ w).alloc (Nat.le_refl _) _).alloc (by simp) _).alloc (by simp <;> omega) _
  have b0 : W.heap[w.heap.size]? = some (.cells #[.slice A c.W.length k, .int .u64 c.seed, .int .i64 c.epoch, .int .i64 c.num, .int .i64 c.den] 25 (0, 0)) := by subst hW; exact ha_lt (ha_lt (ha_at rfl))
  have b1 : W.heap[w.heap.size + 1]? = some (.cells #[.slice A2 l.length k2, .slice A3 v.length k3] 40 (0, 0)) := by subst hW; exact ha_lt (ha_at (by simp))
  have b2 : W.heap[w.heap.size + 1 + 1]? = some (.cells #[.int .u64 x.hi, .int .u64 x.lo] 28 (0, 0)) := by subst hW; exact ha_at (by simp)
  obtain ⟨c0, c1, c2, c3, c4⟩ := blk5 b0
  obtain ⟨c5, c6, _, _⟩ := blk2 b1
  obtain ⟨c7, c8, _, _⟩ := blk2 b2
  go_enter Tryz.func13, Tryz.ntmps13
  go_wp2_with (go_at_call 29; (with_reducible refine (hqo _ hB).mono ?_); clear hqo; rintro e w3 ⟨⟨A4, k4, Bc, Bw, Bv, Bn, rfl, hT⟩, hb3⟩; have hB3 := below_call hB hB.size hb3)
  have hl4 : Below w3.heap.size w3 (w3.alloc (.cells #[.func (.func 42) #[] #[.pointer (some ⟨Bc, 0, none⟩), .pointer (some ⟨Bw, 0, none⟩), .pointer (some ⟨Bv, 0, none⟩)], .func (.func 44) #[] #[.pointer (some ⟨Bc, 0, none⟩), .pointer (some ⟨Bn, 0, none⟩)]] 70)) := (Below.refl _ w3).alloc (Nat.le_refl _) _
  have f3 := ha_at (w := w3) (o := .cells #[.func (.func 42) #[] #[.pointer (some ⟨Bc, 0, none⟩), .pointer (some ⟨Bw, 0, none⟩), .pointer (some ⟨Bv, 0, none⟩)], .func (.func 44) #[] #[.pointer (some ⟨Bc, 0, none⟩), .pointer (some ⟨Bn, 0, none⟩)]] 70) (k := w3.heap.size) rfl
  have hT4 := hT.below hl4
  have f2 := bl_own hl4 (bl_own hb3 b2)
  have hB4 := below_call hB3 hB3.size hl4
  generalize w3.alloc (.cells #[.func (.func 42) #[] #[.pointer (some ⟨Bc, 0, none⟩), .pointer (some ⟨Bw, 0, none⟩), .pointer (some ⟨Bv, 0, none⟩)], .func (.func 44) #[] #[.pointer (some ⟨Bc, 0, none⟩), .pointer (some ⟨Bn, 0, none⟩)]] 70) = w4 at hl4 f3 hT4 f2 hB4 ⊢
  obtain ⟨g, hg⟩ : ∃ g, w3.heap.size = g := ⟨_, rfl⟩
  rw [hg] at f3 ⊢
  clear hl4 hg hT hb3 hB3 c0 c1 c2 c3 c4 c5 c6 c7 c8 b0 b1 b2 hW hB
  go_region_held3 (fun W' => (W'.cell? ⟨w.heap.size + 1 + 1, 0, none⟩ = some (.int .u64 x.hi) ∧ W'.cell? ⟨w.heap.size + 1 + 1, 1, none⟩ = some (.int .u64 x.lo)) ∧ W'.cell? ⟨g, 0, none⟩ = some (.func (.func 42) #[] #[.pointer (some ⟨Bc, 0, none⟩), .pointer (some ⟨Bw, 0, none⟩), .pointer (some ⟨Bv, 0, none⟩)]) ∧ W'.cell? ⟨g, 1, none⟩ = some (.func (.func 44) #[] #[.pointer (some ⟨Bc, 0, none⟩), .pointer (some ⟨Bn, 0, none⟩)]))
    (first | exact cvt f2 f3 | exact cvt d2 d3 | exact cvt e2 e3) ((first
      | (go_at_call 42; (with_reducible refine (hon.out _ _ _ _ _ _ _ (hT4.below (Below.refl _ _).drew)).mono ?_); rintro e w5 ⟨rfl, hb5⟩; have hQ5 : Below w4.heap.size w4 w5 := below_call (Below.refl _ w4).drew (Nat.le_refl _) hb5; have hB5 := below_call hB4 hB4.size hQ5; have d2 := bl_own hQ5 f2; have d3 := bl_own hQ5 f3; have hT5 := hT4.below hQ5)
      | (go_at_call 44; (with_reducible refine (hsu.out _ _ _ _ _ _ _ hT5).mono ?_); rintro e w6 ⟨rfl, hb6⟩; have hB6 := below_call hB5 hB5.size hb6; have e2 := bl_own hb6 d2; have e3 := bl_own hb6 d3)))
  go_wp2
  go_ret
  exact ⟨rfl, hB6⟩
end Go.Proofs.YtdocgemfedohdaaGreat
/-! quick.Top, walked. -/
namespace Go.Proofs.YtdocgemfedohdaaGreat
open Go.RowKit
/-- A store into a block of functions turns no list of IDs. -/
theorem Rd_test {W W' : World} {A : Option Addr} {r : List ID} {g : Nat} {T : TypeId} (h : Rd 2 encID W A r) (hb : W.heap[g]? = some (.cells #[.nilFunc, .nilFunc] T (0, 0))) (hg : W.grownBy W' (some g)) : Rd 2 encID W' A r := by
  by_cases hm : r = []
  · subst hm; exact Rd_nil _ _ _ _
  · refine h.grown hg (fun a e => ?_)
    obtain ⟨b', o, hA, _, hc⟩ := h.2 hm
    rw [hA] at e
    have e' := Option.some.inj e
    subst e'
    intro e2
    have e3 : b' = g := Option.some.inj e2
    subst e3
    cases r with
    | nil => exact hm rfl
    | cons y r =>
      have h1 := hc 0 y rfl 0 (.int .u64 y.hi) rfl
      rw [blk_cell hb] at h1
      rcases o with _ | _ | o <;> simp at h1
theorem TestAt.stored {W W' : World} {A A2 A3 A4 : Option Addr} {k k2 k3 k4 Bc Bw Bv Bn : Nat} {c : Cfg} {l : List Blk} {nv : Nat} {m : List Vote} {all : Int} {g : Nat} {T : TypeId} (h : TestAt W A A2 A3 A4 k k2 k3 k4 Bc Bw Bv Bn c l nv m all) (hb : W.heap[g]? = some (.cells #[.nilFunc, .nilFunc] T (0, 0))) (hG : W.grownBy W' (some g)) (r1 : Rd 1 encI W' A c.W) (r2 : Rd 5 encBlk W' A2 l) : TestAt W' A A2 A3 A4 k k2 k3 k4 Bc Bw Bv Bn c l nv m all :=
  ⟨grown_own hG h.hc (fun e => by have h1 := h.hc; rw [Option.some.inj e, hb] at h1; simp at h1), grown_own hG h.hw (fun e => by have h1 := h.hw; rw [Option.some.inj e, hb] at h1; simp at h1),
    grown_own hG h.hv (fun e => by have h1 := h.hv; rw [Option.some.inj e, hb] at h1; simp at h1), grown_own hG h.hn (fun e => by have h1 := h.hn; rw [Option.some.inj e, hb] at h1; simp at h1),
    r1, r2, Rd_small h.r4 hb (by simp) hG⟩
theorem cvs {W : World} {p q z u : Value} {b o N : Nat} {T : TypeId} (h : W.cell? ⟨b, o, none⟩ = some p ∧ W.cell? ⟨b, o + 1, none⟩ = some q) (h2 : W.heap[N]? = some (.cells #[z, u] T (0, 0))) :
    (W.cell? ⟨b, o, none⟩ = some p ∧ W.cell? ⟨b, o + 1, none⟩ = some q) ∧ W.cell? ⟨N, 0, none⟩ = some z ∧ W.cell? ⟨N, 1, none⟩ = some u := ⟨h, blk_cell h2 0, blk_cell h2 1⟩
theorem rdm {w : World} {base : Nat} {v : Value} {xs : List ID} (h : Own w base 28 2 encID v xs) : ∃ A k, v = .slice A xs.length k ∧ xs.length ≤ k ∧ k ≤ 9223372036854775807 ∧ Rd 2 encID w A xs := by
  obtain ⟨A, k, h1, h2, h3⟩ := h.rdc encID_len
  refine ⟨A, k, h1, h2, ?_, h3⟩
  obtain ⟨_, h2⟩ := h
  rcases h2 with ⟨he, h0⟩ | ⟨g, cap, cur, he, hb, hh, hle, hm, _⟩
  · rw [h1] at he
    injection he with e1 e2 e3
    omega
  · rw [h1] at he
    injection he with e1 e2 e3
    unfold maxLen at hm
    omega
def TopAt (c : Cfg) (l : List Blk) (v : List Vote) (s : Int) (x : ID) (A A2 A3 : Option Addr) (k k2 k3 : Nat) (w : World) (m : List Vote) (all : Int) (su : ID → Bool) (res : Bool × ID) (a : Act) (W : World) : Prop :=
  ∃ (g : Nat) (A4 A5 : Option Addr) (k4 k5 Bc Bw Bv Bn : Nat) (r : List ID) (u12 u13 u14 u15 u16 u17 u18 u19 u20 u21 u22 u23 u24 u25 u26 u27 u28 u29 u30 u31 u32 u33 u34 u35 u36 u37 : Value), a = { tmps := #[.agg #[.slice A c.W.length k, .int .u64 c.seed, .int .i64 c.epoch, .int .i64 c.num, .int .i64 c.den], .agg #[.slice A2 l.length k2, .slice A3 v.length k3], .int .i64 s, .agg #[.int .u64 x.hi, .int .u64 x.lo], .pointer (some ⟨w.heap.size, 0, none⟩), .pointer (some ⟨w.heap.size + 1, 0, none⟩), undef, .pointer (some ⟨w.heap.size + 1 + 1, 0, none⟩), .pointer (some ⟨w.heap.size + 1 + 1 + 1, 0, none⟩), .bool false, .pointer (some ⟨g, 0, none⟩), .slice A5 r.length k5, u12, u13, u14, u15, u16, u17, u18, u19, u20, u21, u22, u23, u24, u25, u26, u27, u28, u29, u30, u31, u32, u33, u34, u35, u36, u37], defers := [] } ∧
    W.heap[g]? = some (.cells #[.func (.func 42) #[] #[.pointer (some ⟨Bc, 0, none⟩), .pointer (some ⟨Bw, 0, none⟩), .pointer (some ⟨Bv, 0, none⟩)], .func (.func 44) #[] #[.pointer (some ⟨Bc, 0, none⟩), .pointer (some ⟨Bn, 0, none⟩)]] 70 (0, 0)) ∧ W.heap[w.heap.size + 1 + 1 + 1]? = some (.cells #[.int .u64 0, .int .u64 0] 28 (0, 0)) ∧ TestAt W A A2 A3 A4 k k2 k3 k4 Bc Bw Bv Bn c l v.length m all ∧ Rd 2 encID W A5 r ∧ r.length ≤ k5 ∧ r.length ≤ 100001 ∧ k5 ≤ 9223372036854775807 ∧ Hid (topOf su r = res) ∧ Below w.heap.size w W
set_option maxRecDepth 100000 in
set_option maxHeartbeats 8000000 in
theorem qtop_any (c : Cfg) (l : List Blk) (v : List Vote) (s : Int) (x : ID) (A A2 A3 : Option Addr) (k k2 k3 : Nat) (w : World) (hr : Rd 1 encI w A c.W) (hr2 : Rd 5 encBlk w A2 l) (hr3 : Rd 4 encVote w A3 v) (hl : l.length ≤ 100000) (hvl : v.length ≤ 100000) (hc : NumFew c) :
    Calls Tryz.prog 11 #[cfgv A k c, .agg #[.slice A2 l.length k2, .slice A3 v.length k3], .int .i64 s, idv x] w fun e w' => e = .returned (.tuple #[idv (quickTop c l v s x).2, .bool (quickTop c l v s x).1]) ∧ Below w.heap.size w w' := by
  have hqo := fun V (hV : Below w.heap.size w V) => qof_any c l v s A A2 A3 k k2 k3 V (hr.below hV) (hr2.below hV) (hr3.below hV) hvl
  have hch := fun V (hV : Below w.heap.size w V) => chain_any l x A2 k2 V (hr2.below hV) (fun m h => tree_ahead h) hl
  have hon := Lib.hid (fun (y : ID) V A4 k4 Bc Bw Bv Bn (h : TestAt V A A2 A3 A4 k k2 k3 k4 Bc Bw Bv Bn c l v.length (goldOf c v s) (quickAll c s)) => of1q_any y V h hl (gold_len2 hvl))
  have hsu := Lib.hid (fun (y : ID) V A4 k4 Bc Bw Bv Bn (h : TestAt V A A2 A3 A4 k k2 k3 k4 Bc Bw Bv Bn c l v.length (goldOf c v s) (quickAll c s)) => of2q_any (quickFor c l v s y) V h (quickFor_bd c l v s y) hc)
  have hr' : ∀ y, onC c l (goldOf c v s) y = quickFor c l v s y := fun y => rfl
  simp only [hr'] at hon
  have hr2' : ∀ y, sureN c (quickAll c s) (quickFor c l v s y) = quickSure c l v s y := fun y => rfl
  simp only [hr2'] at hsu
  have hcl := chain_bound (l := l) x
  unfold quickTop
  obtain ⟨ch, hce⟩ : ∃ ch, chain l x = ch := ⟨_, rfl⟩
  rw [hce] at hch hcl ⊢
  generalize quickFor c l v s = fo at hon hsu
  generalize quickSure c l v s = su at hsu ⊢
  clear hr' hr2' hce
  generalize goldOf c v s = m at hqo hon hsu
  generalize quickAll c s = all at hqo hon hsu
  obtain ⟨res, hrs⟩ : ∃ res, topOf su ch = res := ⟨_, rfl⟩
  have hres : Hid (topOf su ch = res) := Lib.hid hrs
  rw [hrs]
  clear hrs
  unfold onF sureF at hqo
  unfold cfgv idv at *
  obtain ⟨W, hW⟩ : ∃ W, (((w.alloc (.cells #[.slice A c.W.length k, .int .u64 c.seed, .int .i64 c.epoch, .int .i64 c.num, .int .i64 c.den] 25)).alloc (.cells #[.slice A2 l.length k2, .slice A3 v.length k3] 40)).alloc (.cells #[.int .u64 x.hi, .int .u64 x.lo] 28)).alloc (.cells #[.int .u64 0, .int .u64 0] 28) = W := ⟨_, rfl⟩
  have hB : Below w.heap.size w W := by subst hW; exact ((((Below.refl _ w).alloc (Nat.le_refl _) _).alloc (by simp) _).alloc (by simp <;> omega) _).alloc (by simp <;> omega) _
  have b0 : W.heap[w.heap.size]? = some (.cells #[.slice A c.W.length k, .int .u64 c.seed, .int .i64 c.epoch, .int .i64 c.num, .int .i64 c.den] 25 (0, 0)) := by subst hW; exact ha_lt (ha_lt (ha_lt (ha_at rfl)))
  have b1 : W.heap[w.heap.size + 1]? = some (.cells #[.slice A2 l.length k2, .slice A3 v.length k3] 40 (0, 0)) := by subst hW; exact ha_lt (ha_lt (ha_at (by simp)))
  have b2 : W.heap[w.heap.size + 1 + 1]? = some (.cells #[.int .u64 x.hi, .int .u64 x.lo] 28 (0, 0)) := by subst hW; exact ha_lt (ha_at (by simp))
  have b3 : W.heap[w.heap.size + 1 + 1 + 1]? = some (.cells #[.int .u64 0, .int .u64 0] 28 (0, 0)) := by subst hW; exact ha_at (by simp)
  go_enter Tryz.func11, Tryz.ntmps11
  go_wp2_with fail
  refine wp_scope_loop 0 (TopAt c l v s x A A2 A3 k k2 k3 w m all su res) (fun a' _ => lenV (a'.tmps.getD 11 undef)) rfl ?pass ?first
  case first =>
    intro hpass
    go_wp2_with fail
    go_cut [10, 11] from 12 to 19 (fun v10 v11 wx => ∃ (g : Nat) (A4 A5 : Option Addr) (k4 k5 Bc Bw Bv Bn : Nat), v10 = .pointer (some ⟨g, 0, none⟩) ∧ v11 = .slice A5 ch.length k5 ∧ wx.heap[g]? = some (.cells #[.func (.func 42) #[] #[.pointer (some ⟨Bc, 0, none⟩), .pointer (some ⟨Bw, 0, none⟩), .pointer (some ⟨Bv, 0, none⟩)], .func (.func 44) #[] #[.pointer (some ⟨Bc, 0, none⟩), .pointer (some ⟨Bn, 0, none⟩)]] 70 (0, 0)) ∧ wx.heap[w.heap.size + 1 + 1 + 1]? = some (.cells #[.int .u64 0, .int .u64 0] 28 (0, 0)) ∧ TestAt wx A A2 A3 A4 k k2 k3 k4 Bc Bw Bv Bn c l v.length m all ∧ Rd 2 encID wx A5 ch ∧ ch.length ≤ k5 ∧ k5 ≤ 9223372036854775807 ∧ Below w.heap.size w wx)
    case first =>
      have hl0 := lt_of_block b0
      have hl3 := lt_of_block b3
      have k0 : Below W.heap.size W W.drew := (Below.refl _ W).drew
      have k1 : Below W.heap.size W (W.alloc (.cells #[.nilFunc, .nilFunc] 70)).drew := ((Below.refl _ W).alloc (Nat.le_refl _) _).drew
      have kg : (W.alloc (.cells #[.nilFunc, .nilFunc] 70)).drew.heap[W.heap.size]? = some (.cells #[.nilFunc, .nilFunc] 70 (0, 0)) := ha_at rfl
      have o0 := hqo _ (below_call hB hB.size k0)
      have o1 := hqo _ (below_call hB hB.size k1)
      clear hqo
      go_region_held3 (fun W' => W'.cell? ⟨w.heap.size, 0, none⟩ = some (.slice A c.W.length k) ∧ W'.cell? ⟨w.heap.size, 1, none⟩ = some (.int .u64 c.seed) ∧ W'.cell? ⟨w.heap.size, 2, none⟩ = some (.int .i64 c.epoch) ∧ W'.cell? ⟨w.heap.size, 3, none⟩ = some (.int .i64 c.num) ∧ W'.cell? ⟨w.heap.size, 4, none⟩ = some (.int .i64 c.den) ∧ W'.cell? ⟨w.heap.size + 1, 0, none⟩ = some (.slice A2 l.length k2) ∧ W'.cell? ⟨w.heap.size + 1, 1, none⟩ = some (.slice A3 v.length k3) ∧ W'.cell? ⟨w.heap.size + 1 + 1, 0, none⟩ = some (.int .u64 x.hi) ∧ W'.cell? ⟨w.heap.size + 1 + 1, 1, none⟩ = some (.int .u64 x.lo))
        (first | exact cvq b0 b1 b2 | exact cvq (bl_own k1 b0) (bl_own k1 b1) (bl_own k1 b2) | exact cvq d0 d1 d2 | exact cvq (ha_lt d0) (ha_lt d1) (ha_lt d2) | exact cvq e0 e1 e2 | exact cvq Z0 Z1 Z2 | exact cvq s0 s1 s2) ((first
          | (go_at_call 29; (with_reducible refine o0.mono ?_); clear o0 o1; rintro e w3 ⟨⟨A4, k4, Bc, Bw, Bv, Bn, rfl, hT⟩, hb3⟩; have hK3 : Below W.heap.size W w3 := below_call k0 k0.size hb3; have hB3 := below_call hB hB.size hK3; have d0 := bl_own hK3 b0; have d1 := bl_own hK3 b1; have d2 := bl_own hK3 b2; have c0 := hch _ hB3; have j1 : Below w3.heap.size w3 (w3.alloc (.cells #[.nilFunc, .nilFunc] 70)) := (Below.refl _ w3).alloc (Nat.le_refl _) _; have c1 := hch _ (below_call hB3 hB3.size j1); have z3 := hK3.size)
          | (go_at_call 29; (with_reducible refine o1.mono ?_); clear o0 o1; rintro e w3 ⟨⟨A4, k4, Bc, Bw, Bv, Bn, rfl, hT⟩, hb3⟩; have hK3 : Below W.heap.size W w3 := below_call k1 k1.size hb3; have hB3 := below_call hB hB.size hK3; have d0 := bl_own hK3 b0; have d1 := bl_own hK3 b1; have d2 := bl_own hK3 b2; have c0 := hch _ hB3; have fg3 := bl_own hb3 kg; have z3 := hK3.size)
          | (go_at_call 8; (with_reducible refine c0.mono ?_); clear c0; rintro e w4 ⟨u, rfl, ho4, hb4⟩; obtain ⟨A5, k5, hu, hk5, hk6, hR5⟩ := rdm ho4; subst hu; have hK4 := below_call hK3 hK3.size hb4; have hB4 := below_call hB3 hB3.size hb4; have e0 := bl_own hb4 d0; have e1 := bl_own hb4 d1; have e2 := bl_own hb4 d2; have hT4 := hT.below hb4; have z4 := hb4.size; obtain ⟨Z, hZ⟩ : ∃ Z, w4.alloc (.cells #[.nilFunc, .nilFunc] 70) = Z := ⟨_, rfl⟩; have BZ : Below w4.heap.size w4 Z := (by subst hZ; exact (Below.refl _ w4).alloc (Nat.le_refl _) _); have Z0 := bl_own BZ e0; have Z1 := bl_own BZ e1; have Z2 := bl_own BZ e2; have hTF := hT4.below BZ; have fg : Z.heap[w4.heap.size]? = some (.cells #[.nilFunc, .nilFunc] 70 (0, 0)) := (by subst hZ; exact ha_at rfl); have hKF := below_call hK4 hK4.size BZ; have hRF := hR5.below BZ; (try (have fg4 := bl_own hb4 fg3; have fgX := fg4; have hTg := hT4; have hKg := hK4; have hRg := hR5; obtain ⟨m0, m1, m2, m3⟩ := blk2 fg4; have sg := set2 fg4 (.func (.func 42) #[] #[.pointer (some ⟨Bc, 0, none⟩), .pointer (some ⟨Bw, 0, none⟩), .pointer (some ⟨Bv, 0, none⟩)]) (.func (.func 44) #[] #[.pointer (some ⟨Bc, 0, none⟩), .pointer (some ⟨Bn, 0, none⟩)]); have s0 := grown_own sg.2 e0 (fun e => by have := Option.some.inj e; omega); have s1 := grown_own sg.2 e1 (fun e => by have := Option.some.inj e; omega); have s2 := grown_own sg.2 e2 (fun e => by have := Option.some.inj e; omega); clear fg)); (try (have fgX := fg; have hTg := hTF; have hKg := hKF; have hRg := hRF; obtain ⟨m0, m1, m2, m3⟩ := blk2 fg; have sg := set2 fg (.func (.func 42) #[] #[.pointer (some ⟨Bc, 0, none⟩), .pointer (some ⟨Bw, 0, none⟩), .pointer (some ⟨Bv, 0, none⟩)]) (.func (.func 44) #[] #[.pointer (some ⟨Bc, 0, none⟩), .pointer (some ⟨Bn, 0, none⟩)]); have s0 := grown_own sg.2 Z0 (fun e => by have := Option.some.inj e; omega); have s1 := grown_own sg.2 Z1 (fun e => by have := Option.some.inj e; omega); have s2 := grown_own sg.2 Z2 (fun e => by have := Option.some.inj e; omega))))
          | (go_at_call 8; (with_reducible refine c1.mono ?_); clear c0 c1; rintro e w4 ⟨u, rfl, ho4, hb4⟩; obtain ⟨A5, k5, hu, hk5, hk6, hR5⟩ := rdm ho4; subst hu; have hb4' := below_call j1 j1.size hb4; have hK4 := below_call hK3 hK3.size hb4'; have hB4 := below_call hB3 hB3.size hb4'; have e0 := bl_own hb4' d0; have e1 := bl_own hb4' d1; have e2 := bl_own hb4' d2; have hT4 := hT.below hb4'; have z4 := hb4'.size; have fg4 : w4.heap[w3.heap.size]? = some (.cells #[.nilFunc, .nilFunc] 70 (0, 0)) := bl_own hb4 (ha_at rfl); have fgX := fg4; have hTg := hT4; have hKg := hK4; have hRg := hR5; obtain ⟨m0, m1, m2, m3⟩ := blk2 fg4; have sg := set2 fg4 (.func (.func 42) #[] #[.pointer (some ⟨Bc, 0, none⟩), .pointer (some ⟨Bw, 0, none⟩), .pointer (some ⟨Bv, 0, none⟩)]) (.func (.func 44) #[] #[.pointer (some ⟨Bc, 0, none⟩), .pointer (some ⟨Bn, 0, none⟩)]); have s0 := grown_own sg.2 e0 (fun e => by have := Option.some.inj e; omega); have s1 := grown_own sg.2 e1 (fun e => by have := Option.some.inj e; omega); have s2 := grown_own sg.2 e2 (fun e => by have := Option.some.inj e; omega))))
      all_goals go_wp2
      all_goals go_meet
      all_goals
        have q3 := grown_own sg.2 (bl_own hKg b3) (fun e => by have := Option.some.inj e; omega)
        have u0 := below_call hB hB.size hKg
        have u1 := below_step u0 u0.size sg.2 (fun k e => by have := Option.some.inj e; omega)
        exact ⟨_, A4, A5, k4, k5, Bc, Bw, Bv, Bn, rfl, rfl, sg.1, q3, hTg.stored fgX sg.2 (hr.below u1) (hr2.below u1), Rd_test hRg fgX sg.2, hk5, hk6, u1⟩
    case rest =>
      obtain ⟨g, A4, A5, k4, k5, Bc, Bw, Bv, Bn, rfl, rfl, hg, hz, hT, hR5, hk5, hk6, hBc⟩ := hcut
      go_wp2_with fail
      go_step3
      simp only [Exit.then]
      rename_i hk
      refine hk _ _ (hpass _ _ ?_)
      exact ⟨g, A4, A5, k4, k5, Bc, Bw, Bv, Bn, ch, _, _, _, _, _, _, _, _, _, _, _, _, _, _, _, _, _, _, _, _, _, _, _, _, _, _, rfl, hg, hz, hT, hR5, hk5, by omega, hk6, hres, hBc⟩
  case pass =>
    rintro a W2 ⟨g, A4, A5, k4, k5, Bc, Bw, Bv, Bn, r, u12, u13, u14, u15, u16, u17, u18, u19, u20, u21, u22, u23, u24, u25, u26, u27, u28, u29, u30, u31, u32, u33, u34, u35, u36, u37, rfl, hg, hz, hT, hR5, hk5, hrl, hk6, hto, hBr⟩
    obtain ⟨z0, z1, z2, z3⟩ := blk2 hz
    clear hqo hch hres hcl b0 b1 b2 b3 hW hB
    match r, hR5, hk5, hrl, hto with
    | [], hR5, hk5, hrl, hto =>
      have hto' := Lib.hid (show (false, zid) = res from hto.out)
      clear hto
      go_wp2_with fail
      obtain ⟨q1, q2⟩ := set2 hz (.int .u64 0) (.int .u64 0)
      obtain ⟨m0, m1, _, _⟩ := blk2 q1
      simp only [Exit.jump]
      refine bodyPost_ret (v := .tuple #[.agg #[.int .u64 0, .int .u64 0], .bool false]) ?_ rfl ⟨?_, ?_⟩
      · simp [results, Tryz.results11, go_sem, m0, m1]
      · rw [← hto'.out]
      · exact below_step hBr hBr.size q2 (fun k e => by cases e; omega)
    | [y], hR5, hk5, hrl, hto =>
      have hto' := Lib.hid (show (false, zid) = res from hto.out)
      clear hto
      go_wp2_with fail
      obtain ⟨q1, q2⟩ := set2 hz (.int .u64 0) (.int .u64 0)
      obtain ⟨m0, m1, _, _⟩ := blk2 q1
      simp only [Exit.jump]
      refine bodyPost_ret (v := .tuple #[.agg #[.int .u64 0, .int .u64 0], .bool false]) ?_ rfl ⟨?_, ?_⟩
      · simp [results, Tryz.results11, go_sem, m0, m1]
      · rw [← hto'.out]
      · exact below_step hBr hBr.size q2 (fun k e => by cases e; omega)
    | y :: y2 :: t, hR5, hk5, hrl, hto =>
      obtain ⟨b, o, hA5, hbo, d0, d1⟩ := hR5.atID (i := 0) (by simp)
      subst hA5
      simp only [Nat.zero_mul, Nat.add_zero, List.getElem_cons_zero] at d0 d1
      have hdc := Lib.hid (show ∀ V, Below W2.heap.size W2 V → V.cell? ⟨b, o, none⟩ = some (.int .u64 y.hi) ∧ V.cell? ⟨b, o + 1, none⟩ = some (.int .u64 y.lo) from fun V hV => ⟨(hV.cell (p := ⟨b, o, none⟩) hbo).trans d0, (hV.cell (p := ⟨b, o + 1, none⟩) hbo).trans d1⟩)
      simp only [List.length_cons] at hk5 hrl
      have i0 : ¬ ((t.length : Int) + 1 + 1 < 2) := by omega
      have i1 : (0 : Int) < (t.length : Int) + 1 + 1 := by omega
      have i2 : (1 : Int) ≤ (t.length : Int) + 1 + 1 := by omega
      have i3 : (t.length : Int) + 1 + 1 ≤ (k5 : Int) := by omega
      have i4 : ¬ k5 = 1 := by omega
      have hrt := hR5.drop 1
      have hs1 := fun V A4 k4 Bc Bw Bv Bn h => hsu.out y V A4 k4 Bc Bw Bv Bn h
      have ho1 := hon.out y
      have htop : topOf su (y :: y2 :: t) = if su y then (true, y) else topOf su (y2 :: t) := rfl
      rw [htop] at hto
      cases hsb : su y with
      | true =>
        rw [hsb] at hs1 hto
        have hto' := Lib.hid (show (true, y) = res from hto.out)
        clear hto htop hsb
        go_wp2_with fail
        go_region_held3 (fun W' => (W'.cell? ⟨b, o, none⟩ = some (.int .u64 y.hi) ∧ W'.cell? ⟨b, o + 1, none⟩ = some (.int .u64 y.lo)) ∧ W'.cell? ⟨g, 0, none⟩ = some (.func (.func 42) #[] #[.pointer (some ⟨Bc, 0, none⟩), .pointer (some ⟨Bw, 0, none⟩), .pointer (some ⟨Bv, 0, none⟩)]) ∧ W'.cell? ⟨g, 1, none⟩ = some (.func (.func 44) #[] #[.pointer (some ⟨Bc, 0, none⟩), .pointer (some ⟨Bn, 0, none⟩)]))
          (first | exact cvs (hdc.out _ (Below.refl _ W2).drew) hg | exact cvs (hdc.out _ hQ5) f3 | exact cvs (hdc.out _ hQ6) e3) ((first
            | (go_at_call 42; (with_reducible refine (ho1 _ _ _ _ _ _ _ (hT.below (Below.refl _ _).drew)).mono ?_); rintro e w5 ⟨rfl, hb5⟩; have hQ5 : Below W2.heap.size W2 w5 := below_call (Below.refl _ W2).drew (Nat.le_refl _) hb5; have f3 := bl_own hQ5 hg; have hT5 := hT.below hQ5)
            | (go_at_call 44; (with_reducible refine (hs1 _ _ _ _ _ _ _ hT5).mono ?_); rintro e w6 ⟨rfl, hb6⟩; have hQ6 := below_call hQ5 hQ5.size hb6; have e3 := bl_own hb6 f3)))
        have hB6 := below_call hBr hBr.size hQ6
        have hz6 := bl_own hQ6 hz
        have hT6 := hT.below hQ6
        obtain ⟨d2, d3⟩ := hdc.out _ hQ6
        obtain ⟨z4, z5, z6, z7⟩ := blk2 hz6
        clear ho1 hs1 d0 d1 hdc hQ5 f3 hT5 hb6 hT z0 z1 z2 z3 hz
        go_wp2_with fail
        obtain ⟨q1, q2⟩ := set2 hz6 (.int .u64 y.hi) (.int .u64 y.lo)
        obtain ⟨m0, m1, _, _⟩ := blk2 q1
        simp only [Exit.jump]
        refine bodyPost_ret (v := .tuple #[.agg #[.int .u64 y.hi, .int .u64 y.lo], .bool true]) ?_ rfl ⟨?_, ?_⟩
        · simp [results, Tryz.results11, go_sem, m0, m1]
        · rw [← hto'.out]
        · exact below_step hB6 hB6.size q2 (fun k e => by cases e; omega)
      | false =>
        rw [hsb] at hs1 hto
        have hto' : Hid (topOf su (y2 :: t) = res) := Lib.hid hto.out
        clear hto htop hsb
        go_wp2_with fail
        go_region_held3 (fun W' => (W'.cell? ⟨b, o, none⟩ = some (.int .u64 y.hi) ∧ W'.cell? ⟨b, o + 1, none⟩ = some (.int .u64 y.lo)) ∧ W'.cell? ⟨g, 0, none⟩ = some (.func (.func 42) #[] #[.pointer (some ⟨Bc, 0, none⟩), .pointer (some ⟨Bw, 0, none⟩), .pointer (some ⟨Bv, 0, none⟩)]) ∧ W'.cell? ⟨g, 1, none⟩ = some (.func (.func 44) #[] #[.pointer (some ⟨Bc, 0, none⟩), .pointer (some ⟨Bn, 0, none⟩)]))
          (first | exact cvs (hdc.out _ (Below.refl _ W2).drew) hg | exact cvs (hdc.out _ hQ5) f3 | exact cvs (hdc.out _ hQ6) e3) ((first
            | (go_at_call 42; (with_reducible refine (ho1 _ _ _ _ _ _ _ (hT.below (Below.refl _ _).drew)).mono ?_); rintro e w5 ⟨rfl, hb5⟩; have hQ5 : Below W2.heap.size W2 w5 := below_call (Below.refl _ W2).drew (Nat.le_refl _) hb5; have f3 := bl_own hQ5 hg; have hT5 := hT.below hQ5)
            | (go_at_call 44; (with_reducible refine (hs1 _ _ _ _ _ _ _ hT5).mono ?_); rintro e w6 ⟨rfl, hb6⟩; have hQ6 := below_call hQ5 hQ5.size hb6; have e3 := bl_own hb6 f3)))
        have hB6 := below_call hBr hBr.size hQ6
        have hz6 := bl_own hQ6 hz
        have hT6 := hT.below hQ6
        obtain ⟨d2, d3⟩ := hdc.out _ hQ6
        obtain ⟨z4, z5, z6, z7⟩ := blk2 hz6
        clear ho1 hs1 d0 d1 hdc hQ5 f3 hT5 hb6 hT z0 z1 z2 z3 hz
        go_wp2_with fail
        go_step3
        have hr6 : Rd 2 encID w6 (some ⟨b, o + 2, none⟩) (y2 :: t) := by
          have := hrt.below hQ6
          simpa using this
        refine ⟨rfl, ⟨g, A4, some ⟨b, o + 2, none⟩, k4, k5 - 1, Bc, Bw, Bv, Bn, y2 :: t, _, _, _, _, _, _, _, _, _, _, _, _, _, _, _, _, _, _, _, _, _, _, _, _, _, _, rfl, e3, hz6, hT6, hr6, by simp; omega, by simp; omega, by omega, hto', hB6⟩, ?_⟩
        simp [lenV]
end Go.Proofs.YtdocgemfedohdaaGreat
