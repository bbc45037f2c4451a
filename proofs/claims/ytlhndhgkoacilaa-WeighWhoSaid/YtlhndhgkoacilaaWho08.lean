/- WeighWho, walked. -/
import Derived.Test.YtlhndhgkoacilaaRead
namespace Go.Proofs.Ytlhndhgkoacilaa
open Go.RowKit
def knownOf (l : List Blk) (vs : List Vote) : List Vote := vs.filter fun v => decide (chain l v.head ≠ [])
theorem knownOf_snoc {l : List Blk} {vs : List Vote} {k : Nat} (hlt : k < vs.length) : knownOf l (vs.take (k + 1)) = knownOf l (vs.take k) ++ (if chain l vs[k].head ≠ [] then [vs[k]] else []) := by
  unfold knownOf
  rw [← List.take_append_getElem hlt, List.filter_append]
  by_cases h : chain l vs[k].head = [] <;> simp [h]
theorem knownOf_len (l : List Blk) (vs : List Vote) : (knownOf l vs).length ≤ vs.length := List.length_filter_le _ _
theorem whoOn_known (l : List Blk) (vs : List Vote) (id : ID) : whoOn l (knownOf l vs) id = whoOn l vs id := by
  unfold whoOn knownOf
  rw [List.filter_filter]
  congr 1
  apply List.filter_congr
  intro v _
  by_cases h : id ∈ chain l v.head
  · have : chain l v.head ≠ [] := fun e => by rw [e] at h; simp at h
    simp [h, this]
  · simp [h]
theorem infoV : (Try.prog.info? 38).map (fun i => (i.zero, i.size, i.bytes)) = some (some (.agg #[.int .i64 0, .int .i64 0, .int .u64 0, .int .u64 0]), 4, 32) := by kernel_rfl
theorem encVote_one (x : Vote) : ∀ u ∈ encVote x, u.oneCell' = true := by intro u hu; simp [encVote] at hu; rcases hu with rfl | rfl | rfl | rfl <;> rfl
theorem own_len {α : Type} {w : World} {base : Nat} {e : TypeId} {k : Nat} {enc : α → List Value} {v : Value} {xs : List α} (h : Own w base e k enc v xs) : ∃ A c, v = .slice A xs.length c := by
  obtain ⟨_, h2⟩ := h
  rcases h2 with ⟨rfl, h0⟩ | ⟨g, cap, cur, rfl, _⟩
  · exact ⟨none, 0, by simp [h0]⟩
  · exact ⟨_, _, rfl⟩
/-- Two slices of a call's own that do not share. -/
def Apart2 (u v : Value) : Prop := ∀ k, u.ownBlock = some k → v.ownBlock ≠ some k
theorem Apart2.symm {u v : Value} (h : Apart2 u v) : Apart2 v u := fun k h1 h2 => h k h2 h1
theorem Apart2.row {u v : Value} (h : Apart2 u v) : u.ownBlock = none ∨ v.ownBlock ≠ u.ownBlock := by
  cases hu : u.ownBlock with
  | none => exact .inl rfl
  | some k => exact .inr (h k hu)
theorem Apart2.grow {u u' v : Value} {w : World} (h : Apart2 u v) (hu : u'.ownBlock = u.ownBlock ∨ u'.ownBlock = some w.heap.size) (hv : ∀ k, v.ownBlock = some k → k < w.heap.size) : Apart2 u' v := fun k h1 h2 => by
  rcases hu with e | e
  · exact h k (e.symm.trans h1) h2
  · rw [e] at h1; cases h1; have := hv _ h2; omega
theorem apart_nil (u : Value) : Apart2 (.slice none 0 0) u := fun k h => by simp [Value.ownBlock] at h
set_option maxRecDepth 100000 in
set_option maxHeartbeats 4000000 in
theorem who_any (c : Cfg) (l : List Blk) (vs : List Vote) (id : ID) (A A2 A3 : Option Addr) (k k2 k3 : Nat) (w : World) (hr : Rd 1 encI w A c.W) (hr2 : Rd 5 encBlk w A2 l) (hr3 : Rd 4 encVote w A3 vs) :
    Calls Try.prog 5 #[cfgv A k c, .slice A2 l.length k2, .slice A3 vs.length k3, idv id] w fun e w' => e = .returned (.bool true) ∧ Below w.heap.size w w' := by
  have hm := hr.1
  have hm2 := hr2.1
  have hm3 := hr3.1
  have hunI := Try.underlying22
  have hunV := Try.underlying27
  have haw := fun V => awake_any V
  have hfew := fun V => few_any c l.length vs.length A A2 A3 k k2 k3 V hm hm2 hm3
  by_cases hsm : c.W.length ≤ 40 ∧ l.length ≤ 30 ∧ vs.length ≤ 30
  · have hd : decide (c.W.length ≤ 40 ∧ l.length ≤ 30 ∧ vs.length ≤ 30) = true := by simpa using hsm
    rw [hd] at hfew
    obtain ⟨hsm1, hsm2, hsm3⟩ := hsm
    clear hd
    have hun := fun (x : ID) V (hV : Below w.heap.size w V) => under_any l id x A2 k2 V (hr2.below hV) (by omega)
    have hch := fun (x : ID) V (hV : Below w.heap.size w V) => chain_any l x A2 k2 V (hr2.below hV) (fun m h => tree_ahead h) (by omega)
    have h1 := Lib.hid (fun V (hV : Below w.heap.size w V) => on_any c l vs id A A2 A3 k k2 k3 V (hr.below hV) (hr2.below hV) (hr3.below hV) (by omega) (by omega))
    have h2 := Lib.hid (fun V (hV : Below w.heap.size w V) (B : Option Addr) (kb : Nat) (hB : Rd 1 encI V B (whoOn l vs id)) => dweight_any c (whoOn l vs id) A B k kb V (hr.below hV) hB)
    have h3 := Lib.hid (fun V (hV : Below w.heap.size w V) (B : Option Addr) (kb : Nat) (hB : Rd 4 encVote V B (knownOf l vs)) => on_any c l (knownOf l vs) id A A2 B k k2 kb V (hr.below hV) (hr2.below hV) hB (by omega) (by have := knownOf_len l vs; omega))
    have e3 : onC c l (knownOf l vs) id = onC c l vs id := by unfold onC; rw [whoOn_known]
    rw [e3] at h3
    have e2 : weightC c (whoOn l vs id) = onC c l vs id := rfl
    rw [e2] at h2
    clear e2 e3
    unfold cfgv idv at *
    have hW : ∃ W, ((w.alloc (.cells #[.slice A c.W.length k, .int .u64 c.seed, .int .i64 c.epoch, .int .i64 c.num, .int .i64 c.den] 25)).alloc (.cells #[.int .u64 id.hi, .int .u64 id.lo] 29)) = W := ⟨_, rfl⟩
    obtain ⟨W, hW⟩ := hW
    have hB : Below w.heap.size w W := by subst hW; exact ((Below.refl _ w).alloc (Nat.le_refl _) _).alloc (by simp) _
    have b0 : W.heap[w.heap.size]? = some (.cells #[.slice A c.W.length k, .int .u64 c.seed, .int .i64 c.epoch, .int .i64 c.num, .int .i64 c.den] 25 (0, 0)) := by subst hW; exact ha_lt (ha_at rfl)
    have b1 : W.heap[w.heap.size + 1]? = some (.cells #[.int .u64 id.hi, .int .u64 id.lo] 29 (0, 0)) := by subst hW; exact ha_at (by simp)
    obtain ⟨c0, c1, c2, c3, c4⟩ := blk5 b0
    go_enter Try.func5, Try.ntmps5
    go_wp2_with (first
      | (go_at_call 9; refine (haw _).mono ?_; clear haw; rintro e w1 ⟨rfl, hb1⟩; have hB1 := below_call hB hB.size hb1; have b0' := bl_own hb1 b0; have b1' := bl_own hb1 b1; obtain ⟨d0, d1, d2, d3, d4⟩ := blk5 b0')
      | (go_at_call 10; refine (hfew _).mono ?_; clear hfew; rintro e w2 ⟨rfl, hb2⟩; have hB2 := below_call hB1 hB1.size hb2; have b0'' := bl_own hb2 b0'; have b1'' := bl_own hb2 b1'))
    clear hb1 hb2 b0' b1' b0 b1 c0 c1 c2 c3 c4 d0 d1 d2 d3 d4 hB hB1
    go_loopw [11, 12, 13] (fun u v i wr => ∃ j : Nat, j ≤ vs.length ∧ i = .int .i64 j ∧ Own wr w2.heap.size 3 1 encI u (whoOn l (vs.take j) id) ∧ Own wr w2.heap.size 38 4 encVote v (knownOf l (vs.take j)) ∧ Apart2 u v ∧ Below w2.heap.size w2 wr) (fun _ _ i _ => vs.length - (intOf i).toNat)
    case atStart => exact ⟨0, Nat.zero_le _, rfl, Own.nil _ _ _ _ _, Own.nil _ _ _ _ _, apart_nil _, Below.refl _ _⟩
    case round =>
      obtain ⟨j, hj, rfl, hu, hv, hap, hBW⟩ := hrel
      have hBr := below_call hB2 hB2.size hBW
      by_cases hlt : j < vs.length
      · obtain ⟨b', o, rfl, hbo, d0, d1, d2, d3⟩ := (hr3.below hBr).atVote hlt
        have hsu := whoOn_snoc (l := l) (id := id) hlt
        have hsv := knownOf_snoc (l := l) hlt
        have hle := whoOn_len l (vs.take j) id
        have hle2 := knownOf_len l (vs.take j)
        have htk : (vs.take j).length ≤ 30 := by simp; omega
        have hlu : (whoOn l (vs.take j) id).length ≤ 30 := by omega
        have hlv : (knownOf l (vs.take j)).length ≤ 30 := by omega
        clear hle hle2 htk
        obtain ⟨x, hxe⟩ : ∃ x, vs[j] = x := ⟨_, rfl⟩
        rw [hxe] at d0 d1 d2 d3 hsu hsv
        have hst := Lib.hid (show ∀ V, Below w2.heap.size w2 V → V.cell? ⟨b', o + j * 4, none⟩ = some (.int .i64 x.frm) ∧ V.cell? ⟨b', o + j * 4 + 1, none⟩ = some (.int .i64 x.slot) ∧ V.cell? ⟨b', o + j * 4 + 2, none⟩ = some (.int .u64 x.head.hi) ∧ V.cell? ⟨b', o + j * 4 + 3, none⟩ = some (.int .u64 x.head.lo) from fun V hV => ?hst)
        case hst =>
          obtain ⟨b2, o2, he, _, q0, q1, q2, q3⟩ := (hr3.below (below_call hB2 hB2.size hV)).atVote hlt
          cases he
          rw [hxe] at q0 q1 q2 q3
          exact ⟨q0, q1, q2, q3⟩
        clear hxe
        have hunx := hun x.head
        have hchx := hch x.head
        clear hun hch
        obtain ⟨c0, c1, _, _⟩ := blk2 (bl_own hBW b1'')
        have hub : ∀ k, u11.ownBlock = some k → w2.heap.size ≤ k := fun k hk => (hu.base k hk).1
        have hvb : ∀ k, u12.ownBlock = some k → w2.heap.size ≤ k := fun k hk => (hv.base k hk).1
        by_cases hin : id ∈ chain l x.head
        · have hne : chain l x.head ≠ [] := fun e => by rw [e] at hin; simp at hin
          have hpos : 0 < (chain l x.head).length := List.length_pos_iff.2 hne
          have hd : decide (id ∈ chain l x.head) = true := by simpa using hin
          rw [hd] at hunx
          rw [if_pos hin] at hsu
          rw [if_pos hne] at hsv
          have hsu' := Lib.hid hsu
          have hsv' := Lib.hid hsv
          clear hsu hsv hd hin hne
          go_wp2_with fail
          go_region_held3 (fun W' => W'.cell? ⟨w.heap.size + 1, 0, none⟩ = some (.int .u64 id.hi) ∧ W'.cell? ⟨w.heap.size + 1, 1, none⟩ = some (.int .u64 id.lo) ∧ W'.cell? ⟨b', o + j * 4 + 2, none⟩ = some (.int .u64 x.head.hi) ∧ W'.cell? ⟨b', o + j * 4 + 3, none⟩ = some (.int .u64 x.head.lo)) (first | exact ⟨c0, c1, d2, d3⟩ | exact ⟨e0, e1, e2, e3⟩) ((go_at_call 16; refine (hunx _ hBr.drew).mono ?_; rintro e w4 ⟨rfl, hb4⟩; have hB4 := below_call hBW.drew hBW.size hb4; obtain ⟨e0, e1, _, _⟩ := blk2 (bl_own hB4 b1''); obtain ⟨z0, z1, e2, e3⟩ := hst.out _ hB4))
          have hb4' := below_call ((Below.refl wr.heap.size wr).drew) (Nat.le_refl _) hb4
          have hu4 := hu.below hb4'
          have hv4 := hv.below hb4'
          clear hu hv hunx d0 d1 d2 d3 c0 c1
          have hW5 : Below w4.heap.size w4 (w4.alloc (.cells #[.int .i64 x.frm] 3)) := (Below.refl _ w4).alloc (Nat.le_refl _) _
          have hu5 := hu4.below hW5
          have hv5 := hv4.below hW5
          have hB5 := below_call hB4 hB4.size hW5
          go_wp2_with (first
            | (at_builtin; refine wp_append1 rfl rfl hunI infoI rfl (by decide) encI_len encI_one rfl hu5 (g := w4.heap.size) (c := 1) rfl (y := x.frm) (ha_at rfl) rfl (by omega) (by unfold maxLen; omega) hB5.size ?_; intro u' w6 hu6 hg6 hat6; have hB6 := below_step hB5 hB5.size hg6 hub; have hv6 := hv5.grown hg6 hap.row; have hap6 : Apart2 u' u12 := hap.grow hat6 (fun k hk => (hv5.base k hk).2); obtain ⟨z4, z5, z6, z7⟩ := hst.out _ hB6; have hub6 : ∀ k, u'.ownBlock = some k → w2.heap.size ≤ k := fun k hk => (hu6.base k hk).1)
            | (go_at_call 17; refine (hchx _ (below_call hB2 hB2.size hB6)).mono ?_; clear hchx; rintro e w7 ⟨uc, rfl, hc7, hb7⟩; obtain ⟨Ac, cc, rfl⟩ := own_len hc7; have hB7 := below_call hB6 hB6.size hb7; have hu7 := hu6.below hb7; have hv7 := hv6.below hb7; obtain ⟨y0, y1, y2, y3⟩ := hst.out _ hB7; have hW8 : Below w7.heap.size w7 (w7.alloc (.cells #[.int .i64 x.frm, .int .i64 x.slot, .int .u64 x.head.hi, .int .u64 x.head.lo] 38)) := (Below.refl _ w7).alloc (Nat.le_refl _) _; have hu8 := hu7.below hW8; have hv8 := hv7.below hW8; have hB8 := below_call hB7 hB7.size hW8)
            | (at_builtin; refine wp_append1 rfl rfl hunV infoV rfl (by decide) encVote_len encVote_one rfl hv8 (g := w7.heap.size) (c := 1) rfl (y := x) (ha_at rfl) rfl (by omega) (by unfold maxLen; omega) hB8.size ?_; intro v' w9 hv9 hg9 hat9; have hB9 := below_step hB8 hB8.size hg9 hvb; have hu9 := hu8.grown hg9 hap6.symm.row; have hap9 := (hap6.symm.grow hat9 (fun k hk => (hu8.base k hk).2)).symm))
          go_roundw
          case rel => exact ⟨j + 1, hlt, by go_num, by rw [hsu'.out]; exact hu9, by rw [hsv'.out]; exact hv9, hap9, hB9⟩
          case measure => simp [intOf]; omega
        · have hd : decide (id ∈ chain l x.head) = false := by simpa using hin
          rw [hd] at hunx
          rw [if_neg hin] at hsu
          have hsu' := Lib.hid hsu
          clear hsu hd hin
          by_cases hne : chain l x.head = []
          · have hlen0 : (chain l x.head).length = 0 := by rw [hne]; rfl
            rw [if_neg (fun h => h hne)] at hsv
            have hsv' := Lib.hid hsv
            clear hsv hne
            go_wp2_with fail
            go_region_held3 (fun W' => W'.cell? ⟨w.heap.size + 1, 0, none⟩ = some (.int .u64 id.hi) ∧ W'.cell? ⟨w.heap.size + 1, 1, none⟩ = some (.int .u64 id.lo) ∧ W'.cell? ⟨b', o + j * 4 + 2, none⟩ = some (.int .u64 x.head.hi) ∧ W'.cell? ⟨b', o + j * 4 + 3, none⟩ = some (.int .u64 x.head.lo)) (first | exact ⟨c0, c1, d2, d3⟩ | exact ⟨e0, e1, e2, e3⟩) ((go_at_call 16; refine (hunx _ hBr.drew).mono ?_; rintro e w4 ⟨rfl, hb4⟩; have hB4 := below_call hBW.drew hBW.size hb4; obtain ⟨e0, e1, _, _⟩ := blk2 (bl_own hB4 b1''); obtain ⟨z0, z1, e2, e3⟩ := hst.out _ hB4))
            have hb4' := below_call ((Below.refl wr.heap.size wr).drew) (Nat.le_refl _) hb4
            have hu4 := hu.below hb4'
            have hv4 := hv.below hb4'
            clear hu hv hunx d0 d1 d2 d3 c0 c1
            have hB6 := hB4
            have hu6 := hu4
            have hv6 := hv4
            have hap6 := hap
            have hub6 := hub
            obtain ⟨z4, z5, z6, z7⟩ := hst.out _ hB6
            go_wp2_with ((go_at_call 17; refine (hchx _ (below_call hB2 hB2.size hB6)).mono ?_; clear hchx; rintro e w7 ⟨uc, rfl, hc7, hb7⟩; obtain ⟨Ac, cc, rfl⟩ := own_len hc7; have hB7 := below_call hB6 hB6.size hb7; have hu7 := hu6.below hb7; have hv7 := hv6.below hb7; obtain ⟨y0, y1, y2, y3⟩ := hst.out _ hB7; have hW8 : Below w7.heap.size w7 (w7.alloc (.cells #[.int .i64 x.frm, .int .i64 x.slot, .int .u64 x.head.hi, .int .u64 x.head.lo] 38)) := (Below.refl _ w7).alloc (Nat.le_refl _) _; have hu8 := hu7.below hW8; have hv8 := hv7.below hW8; have hB8 := below_call hB7 hB7.size hW8))
            go_roundw
            case rel => exact ⟨j + 1, hlt, by go_num, by rw [hsu'.out, List.append_nil]; exact hu7, by rw [hsv'.out, List.append_nil]; exact hv7, hap6, hB7⟩
            case measure => simp [intOf]; omega
          · have hpos : 0 < (chain l x.head).length := List.length_pos_iff.2 hne
            rw [if_pos hne] at hsv
            have hsv' := Lib.hid hsv
            clear hsv hne
            go_wp2_with fail
            go_region_held3 (fun W' => W'.cell? ⟨w.heap.size + 1, 0, none⟩ = some (.int .u64 id.hi) ∧ W'.cell? ⟨w.heap.size + 1, 1, none⟩ = some (.int .u64 id.lo) ∧ W'.cell? ⟨b', o + j * 4 + 2, none⟩ = some (.int .u64 x.head.hi) ∧ W'.cell? ⟨b', o + j * 4 + 3, none⟩ = some (.int .u64 x.head.lo)) (first | exact ⟨c0, c1, d2, d3⟩ | exact ⟨e0, e1, e2, e3⟩) ((go_at_call 16; refine (hunx _ hBr.drew).mono ?_; rintro e w4 ⟨rfl, hb4⟩; have hB4 := below_call hBW.drew hBW.size hb4; obtain ⟨e0, e1, _, _⟩ := blk2 (bl_own hB4 b1''); obtain ⟨z0, z1, e2, e3⟩ := hst.out _ hB4))
            have hb4' := below_call ((Below.refl wr.heap.size wr).drew) (Nat.le_refl _) hb4
            have hu4 := hu.below hb4'
            have hv4 := hv.below hb4'
            clear hu hv hunx d0 d1 d2 d3 c0 c1
            have hB6 := hB4
            have hu6 := hu4
            have hv6 := hv4
            have hap6 := hap
            have hub6 := hub
            obtain ⟨z4, z5, z6, z7⟩ := hst.out _ hB6
            go_wp2_with (first
              | (go_at_call 17; refine (hchx _ (below_call hB2 hB2.size hB6)).mono ?_; clear hchx; rintro e w7 ⟨uc, rfl, hc7, hb7⟩; obtain ⟨Ac, cc, rfl⟩ := own_len hc7; have hB7 := below_call hB6 hB6.size hb7; have hu7 := hu6.below hb7; have hv7 := hv6.below hb7; obtain ⟨y0, y1, y2, y3⟩ := hst.out _ hB7; have hW8 : Below w7.heap.size w7 (w7.alloc (.cells #[.int .i64 x.frm, .int .i64 x.slot, .int .u64 x.head.hi, .int .u64 x.head.lo] 38)) := (Below.refl _ w7).alloc (Nat.le_refl _) _; have hu8 := hu7.below hW8; have hv8 := hv7.below hW8; have hB8 := below_call hB7 hB7.size hW8)
              | (at_builtin; refine wp_append1 rfl rfl hunV infoV rfl (by decide) encVote_len encVote_one rfl hv8 (g := w7.heap.size) (c := 1) rfl (y := x) (ha_at rfl) rfl (by omega) (by unfold maxLen; omega) hB8.size ?_; intro v' w9 hv9 hg9 hat9; have hB9 := below_step hB8 hB8.size hg9 hvb; have hu9 := hu8.grown hg9 hap6.symm.row; have hap9 := (hap6.symm.grow hat9 (fun k hk => (hu8.base k hk).2)).symm))
            go_roundw
            case rel => exact ⟨j + 1, hlt, by go_num, by rw [hsu'.out, List.append_nil]; exact hu9, by rw [hsv'.out]; exact hv9, hap9, hB9⟩
            case measure => simp [intOf]; omega
      · obtain rfl : j = vs.length := by omega
        rw [List.take_length] at hu hv
        obtain ⟨Au, cu, rfl, hRu⟩ := hu.rd encI_len
        obtain ⟨Av, cv, rfl, hRv⟩ := hv.rd encVote_len
        clear hun hch
        obtain ⟨c0, c1, c2, c3, c4⟩ := blk5 (bl_own hBW b0'')
        obtain ⟨c5, c6, _, _⟩ := blk2 (bl_own hBW b1'')
        have g0 := gr_cell c0
        have g1 := gr_cell c1
        have g2 := gr_cell c2
        have g3 := gr_cell c3
        have g4 := gr_cell c4
        have g5 := gr_cell c5
        have g6 := gr_cell c6
        have hBg : ∀ p, Below w.heap.size w (gr wr p) := fun p => hBr.trans ((gr_below _ _).mono hBr.size)
        have hun1 := fun p => hRu.below (gr_below wr p)
        have hun2 := fun p => hRv.below (gr_below wr p)
        have h1' := fun p => h1.out _ (hBg p)
        have h2' := fun p => h2.out _ (hBg p) _ cu (hun1 p)
        have h3' := fun p => h3.out _ (hBg p) _ cv (hun2 p)
        clear c0 c1 c2 c3 c4 c5 c6 hu hv
        go_wp2_with fail
        refine wp_region_gr (by kernel_rfl) (by kernel_rfl) ?_
        repeat (go_big_quiet_step ((first
          | (go_at_call 11; with_reducible exact Calls.gr_of (h1' _))
          | (go_at_call 11; with_reducible exact Calls.gr_of (h3' _))
          | (go_at_call 18; exact Calls.gr_of (h2' _)))))
        refine wpQuiet_nil ?_
        rintro _ ⟨pq, rfl⟩
        go_wp2
        go_ret
        exact ⟨rfl, hBg _⟩
  · have hd : decide (c.W.length ≤ 40 ∧ l.length ≤ 30 ∧ vs.length ≤ 30) = false := by simpa using hsm
    rw [hd] at hfew
    clear hsm hd
    unfold cfgv idv at *
    have hW : ∃ W, ((w.alloc (.cells #[.slice A c.W.length k, .int .u64 c.seed, .int .i64 c.epoch, .int .i64 c.num, .int .i64 c.den] 25)).alloc (.cells #[.int .u64 id.hi, .int .u64 id.lo] 29)) = W := ⟨_, rfl⟩
    obtain ⟨W, hW⟩ := hW
    have hB : Below w.heap.size w W := by subst hW; exact ((Below.refl _ w).alloc (Nat.le_refl _) _).alloc (by simp) _
    have b0 : W.heap[w.heap.size]? = some (.cells #[.slice A c.W.length k, .int .u64 c.seed, .int .i64 c.epoch, .int .i64 c.num, .int .i64 c.den] 25 (0, 0)) := by subst hW; exact ha_lt (ha_at rfl)
    go_enter Try.func5, Try.ntmps5
    go_wp2_with (first
      | (go_at_call 9; refine (haw _).mono ?_; clear haw; rintro e w1 ⟨rfl, hb1⟩; have hB1 := below_call hB hB.size hb1; obtain ⟨c0, c1, c2, c3, c4⟩ := blk5 (bl_own hb1 b0))
      | (go_at_call 10; refine (hfew _).mono ?_; clear hfew; rintro e w2 ⟨rfl, hb2⟩; have hB2 := below_call hB1 hB1.size hb2))
    go_ret
    exact ⟨rfl, hB2⟩
theorem who_walk (A : Option Addr) (c : Cfg) (k : Nat) (A2 : Option Addr) (l : List Blk) (k2 : Nat) (A3 : Option Addr) (vs : List Vote) (k3 : Nat) (id : ID) (w : World) (_ : c.W.length ≤ k) (_ : k ≤ maxLen) (hr : Rd 1 encI w A c.W) (_ : c.Ok) (_ : l.length ≤ k2) (_ : k2 ≤ maxLen) (hr2 : Rd 5 encBlk w A2 l) (_ : ∀ b ∈ l, b.Ok) (_ : vs.length ≤ k3) (_ : k3 ≤ maxLen) (hr3 : Rd 4 encVote w A3 vs) (_ : ∀ b ∈ vs, b.Ok) (_ : id.Ok) :
    Calls Try.prog 5 #[cfgv A k c, .slice A2 l.length k2, .slice A3 vs.length k3, idv id] w fun e w' => e = .returned (.bool true) ∧ Below w.heap.size w w' :=
  who_any c l vs id A A2 A3 k k2 k3 w hr hr2 hr3
end Go.Proofs.Ytlhndhgkoacilaa
