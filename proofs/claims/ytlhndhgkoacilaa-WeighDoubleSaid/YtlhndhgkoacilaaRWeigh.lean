/- The walks of marigoldref08's OnIn, On, All. -/
import Derived.Test.YtlhndhgkoacilaaWeigh2
namespace Go.Proofs.Ytlhndhgkoacilaa
open Go.RowKit
theorem wsumTo_false (W : List Int) (k : Nat) : wsumTo W (fun _ => false) k = 0 := by
  induction k with
  | zero => rfl
  | succ k ih => simp [wsumTo, ih]
theorem weightC_nil (c : Cfg) : weightC c [] = 0 := by
  unfold weightC
  split
  · have : (fun i : Nat => decide ((i : Int) ∈ ([] : List Int))) = fun _ => false := by funext i; simp
    rw [this, wsumTo_false]
  · rfl
theorem onC_notree {l : List Blk} (h : ¬ Tree l) (c : Cfg) (vs : List Vote) (id : ID) : onC c l vs id = 0 := by
  have : whoOn l vs id = [] := by
    unfold whoOn
    simp [chain_notree h]
  unfold onC
  rw [this, weightC_nil]
set_option maxRecDepth 100000 in
set_option maxHeartbeats 2000000 in
theorem ronin_any (c : Cfg) (l : List Blk) (vs : List Vote) (id : ID) (A A2 A3 N : Option Addr) (k k2 k3 kn : Nat) (w : World) (ht : Tree l) (hr : Rd 1 encI w A c.W) (hr2 : Rd 5 encBlk w A2 l) (hn : Rd 2 encID w N (names l)) (hr3 : Rd 4 encVote w A3 vs) (hl : l.length ≤ 100000) (hvl : vs.length ≤ 100000) :
    Calls Try.prog 30 #[cfgv A k c, .slice A2 l.length k2, .slice N l.length kn, .slice A3 vs.length k3, idv id] w fun e w' => e = .returned (.int .i64 (onC c l vs id)) ∧ Below w.heap.size w w' := by
  have hm := hr.1
  have hm2 := hr2.1
  have hm3 := hr3.1
  have hun := Try.underlying22
  have hund := fun (x : ID) V (hV : Below w.heap.size w V) => runderin_any l id x A2 N k2 kn V ht (hr2.below hV) (hn.below hV) hl
  have hwei := fun V (hV : Below w.heap.size w V) (A' : Option Addr) (k' : Nat) (hR : Rd 1 encI V A' (whoOn l vs id)) => rweight_any c (whoOn l vs id) A A' k k' V (hr.below hV) hR
  unfold cfgv idv at *
  go_enter Try.func30, Try.ntmps30
  go_wp2_with fail
  have hW : ∃ W, ((w.alloc (.cells #[.slice A c.W.length k, .int .u64 c.seed, .int .i64 c.epoch, .int .i64 c.num, .int .i64 c.den] 25)).alloc (.cells #[.int .u64 id.hi, .int .u64 id.lo] 29)) = W := ⟨_, rfl⟩
  obtain ⟨W, hW⟩ := hW
  have hB : Below w.heap.size w W := by subst hW; exact ((Below.refl _ w).alloc (Nat.le_refl _) _).alloc (by simp) _
  have b0 : W.heap[w.heap.size]? = some (.cells #[.slice A c.W.length k, .int .u64 c.seed, .int .i64 c.epoch, .int .i64 c.num, .int .i64 c.den] 25 (0, 0)) := by subst hW; exact ha_lt (ha_at rfl)
  have b1 : W.heap[w.heap.size + 1]? = some (.cells #[.int .u64 id.hi, .int .u64 id.lo] 29 (0, 0)) := by subst hW; exact ha_at (by simp)
  have hsz : W.heap.size = w.heap.size + 1 + 1 := by subst hW; simp
  rw [hW]
  clear hW
  go_loopw [11, 12, 13] (fun v i _u wr => ∃ j : Nat, j ≤ vs.length ∧ i = .int .i64 j ∧ Own wr W.heap.size 3 1 encI v (whoOn l (vs.take j) id) ∧ Below W.heap.size W wr) (fun _ i _ _ => vs.length - (intOf i).toNat)
  case atStart => exact ⟨0, Nat.zero_le _, rfl, Own.nil _ _ _ _ _, Below.refl _ _⟩
  case round =>
    obtain ⟨j, hj, rfl, hown, hBW⟩ := hrel
    have hBr := below_call hB hB.size hBW
    have b0' := bl_own hBW b0
    have b1' := bl_own hBW b1
    by_cases hlt : j < vs.length
    · obtain ⟨b', o, rfl, hbo, d0, d1, d2, d3⟩ := (hr3.below hBr).atVote hlt
      have hsn := whoOn_snoc (l := l) (id := id) hlt
      have hle := whoOn_len l (vs.take j) id
      obtain ⟨x, hxe⟩ : ∃ x, vs[j] = x := ⟨_, rfl⟩
      rw [hxe] at d0 d1 d2 d3 hsn
      have hvb : ∀ j, u11.ownBlock = some j → W.heap.size ≤ j := fun j hj => (hown.base j hj).1
      have hlen : (whoOn l (vs.take j) id).length ≤ 100000 := by have : (vs.take j).length ≤ vs.length := by simp; omega
                                                                 omega
      clear hle
      obtain ⟨c0, c1, _, _⟩ := blk2 b1'
      have hund' := fun V hV => hund x.head V hV
      have hvx := hr3
      have hst0 := Lib.hid (show ∀ V, Below W.heap.size W V → V.cell? ⟨b', o + j * 4, none⟩ = some (.int .i64 x.frm) from fun V hV => ?hst)
      case hst =>
        obtain ⟨b2, o2, he, _, q0, _⟩ := (hr3.below (below_call hB hB.size hV)).atVote hlt
        cases he
        rw [hxe] at q0
        exact q0
      have hst2 := Lib.hid (show ∀ V, Below W.heap.size W V → V.cell? ⟨b', o + j * 4 + 2, none⟩ = some (.int .u64 x.head.hi) ∧ V.cell? ⟨b', o + j * 4 + 3, none⟩ = some (.int .u64 x.head.lo) from fun V hV => ?hst2)
      case hst2 =>
        obtain ⟨b2, o2, he, _, _, _, q2, q3⟩ := (hr3.below (below_call hB hB.size hV)).atVote hlt
        cases he
        rw [hxe] at q2 q3
        exact ⟨q2, q3⟩
      clear hxe
      by_cases hin : id ∈ chain l x.head
      · have hd : decide (id ∈ chain l x.head) = true := by simpa using hin
        rw [hd] at hund'
        rw [if_pos hin] at hsn
        have hsn' := Lib.hid hsn
        clear hsn hd hin hund
        go_wp2_with fail
        go_region_held3 (fun W' => W'.cell? ⟨w.heap.size + 1, 0, none⟩ = some (.int .u64 id.hi) ∧ W'.cell? ⟨w.heap.size + 1, 1, none⟩ = some (.int .u64 id.lo) ∧ W'.cell? ⟨b', o + j * 4 + 2, none⟩ = some (.int .u64 x.head.hi) ∧ W'.cell? ⟨b', o + j * 4 + 3, none⟩ = some (.int .u64 x.head.lo)) (first | exact ⟨c0, c1, d2, d3⟩ | exact ⟨e0, e1, e2, e3⟩) ((go_at_call 44; refine (hund' _ hBr.drew).mono ?_; rintro e w1 ⟨rfl, hb1⟩; have hB1 := below_call hBW.drew hBW.size hb1; obtain ⟨e0, e1, _, _⟩ := blk2 (bl_own hB1 b1); obtain ⟨e2, e3⟩ := hst2.out _ hB1))
        have d0' := hst0.out _ hB1
        have ho1 := hown.below (below_call ((Below.refl wr.heap.size wr).drew) (Nat.le_refl _) hb1)
        have hW2 : Below w1.heap.size w1 (w1.alloc (.cells #[.int .i64 x.frm] 3)) := (Below.refl _ w1).alloc (Nat.le_refl _) _
        have ho2 := ho1.below hW2
        have hB2 := below_call hB1 hB1.size hW2
        go_wp2_with (at_builtin; refine wp_append1 rfl rfl hun infoI rfl (by decide) encI_len encI_one rfl ho2 (g := w1.heap.size) (c := 1) rfl (y := x.frm) (ha_at rfl) rfl (by omega) (by unfold maxLen; omega) hB2.size ?_; intro v' w5 ho5 hg5 hat5)
        go_roundw
        case rel => exact ⟨j + 1, hlt, by go_num, by rw [hsn'.out]; exact ho5, below_step hB2 hB2.size hg5 hvb⟩
        case measure => simp [intOf]; omega
      · have hd : decide (id ∈ chain l x.head) = false := by simpa using hin
        rw [hd] at hund'
        rw [if_neg hin] at hsn
        have hsn' := Lib.hid hsn
        clear hsn hd hin hund
        go_wp2_with fail
        go_region_held3 (fun W' => W'.cell? ⟨w.heap.size + 1, 0, none⟩ = some (.int .u64 id.hi) ∧ W'.cell? ⟨w.heap.size + 1, 1, none⟩ = some (.int .u64 id.lo) ∧ W'.cell? ⟨b', o + j * 4 + 2, none⟩ = some (.int .u64 x.head.hi) ∧ W'.cell? ⟨b', o + j * 4 + 3, none⟩ = some (.int .u64 x.head.lo)) (first | exact ⟨c0, c1, d2, d3⟩ | exact ⟨e0, e1, e2, e3⟩) ((go_at_call 44; refine (hund' _ hBr.drew).mono ?_; rintro e w1 ⟨rfl, hb1⟩; have hB1 := below_call hBW.drew hBW.size hb1; obtain ⟨e0, e1, _, _⟩ := blk2 (bl_own hB1 b1); obtain ⟨e2, e3⟩ := hst2.out _ hB1))
        go_wp2_with fail
        go_roundw
        case rel => exact ⟨j + 1, hlt, by go_num, by rw [hsn'.out, List.append_nil]; exact hown.below (below_call ((Below.refl wr.heap.size wr).drew) (Nat.le_refl _) hb1), hB1⟩
        case measure => simp [intOf]; omega
    · obtain rfl : j = vs.length := by omega
      rw [List.take_length] at hown
      obtain ⟨A', c', rfl, hR⟩ := hown.rd encI_len
      have hwei' := hwei _ hBr A' c' hR
      have c0 := blk_cell b0' 0
      have c1 := blk_cell b0' 1
      have c2 := blk_cell b0' 2
      have c3 := blk_cell b0' 3
      have c4 := blk_cell b0' 4
      clear hwei hund
      go_wp2_with (go_at_call 45; refine hwei'.mono ?_; clear hwei'; rintro e w1 ⟨rfl, hb1⟩)
      go_ret
      exact ⟨rfl, below_call hBr hBr.size hb1⟩
set_option maxRecDepth 100000 in
set_option maxHeartbeats 2000000 in
theorem ron_any (c : Cfg) (l : List Blk) (vs : List Vote) (id : ID) (A A2 A3 : Option Addr) (k k2 k3 : Nat) (w : World) (hok : ∀ b ∈ l, b.Ok) (hr : Rd 1 encI w A c.W) (hr2 : Rd 5 encBlk w A2 l) (hr3 : Rd 4 encVote w A3 vs) (hl : l.length ≤ 100000) (hvl : vs.length ≤ 100000) :
    Calls Try.prog 12 #[cfgv A k c, .slice A2 l.length k2, .slice A3 vs.length k3, idv id] w fun e w' => e = .returned (.int .i64 (onC c l vs id)) ∧ Below w.heap.size w w' := by
  have hm := hr.1
  have hm2 := hr2.1
  have hm3 := hr3.1
  have hnl : (names l).length = l.length := by simp [names]
  have hnm := fun V (hV : Below w.heap.size w V) => rnames_any l A2 k2 V (hr2.below hV) hok hl
  have hmi := fun V (hV : Below w.heap.size w V) (N : Option Addr) (d : Nat) (hn : Rd 2 encID V N (names l)) (hd : l.length ≤ d) => rmayin_any l A2 N k2 d V (hr2.below hV) hn hd hl
  have hin := fun V (ht : Tree l) (hV : Below w.heap.size w V) (N : Option Addr) (d : Nat) (hn : Rd 2 encID V N (names l)) => ronin_any c l vs id A A2 A3 N k k2 k3 d V ht (hr.below hV) (hr2.below hV) hn (hr3.below hV) hl hvl
  unfold cfgv idv at *
  have hW : ∃ W, ((w.alloc (.cells #[.slice A c.W.length k, .int .u64 c.seed, .int .i64 c.epoch, .int .i64 c.num, .int .i64 c.den] 25)).alloc (.cells #[.int .u64 id.hi, .int .u64 id.lo] 29)) = W := ⟨_, rfl⟩
  obtain ⟨W, hW⟩ := hW
  have hB : Below w.heap.size w W := by subst hW; exact ((Below.refl _ w).alloc (Nat.le_refl _) _).alloc (by simp) _
  have b0 : W.heap[w.heap.size]? = some (.cells #[.slice A c.W.length k, .int .u64 c.seed, .int .i64 c.epoch, .int .i64 c.num, .int .i64 c.den] 25 (0, 0)) := by subst hW; exact ha_lt (ha_at rfl)
  have b1 : W.heap[w.heap.size + 1]? = some (.cells #[.int .u64 id.hi, .int .u64 id.lo] 29 (0, 0)) := by subst hW; exact ha_at (by simp)
  by_cases ht : Tree l
  · have hmb : mayB l = true := by simp [mayB, ht]
    rw [hmb] at hmi
    have hin' := fun V => hin V ht
    clear hmb ht hin
    go_enter Try.func12, Try.ntmps12
    go_wp2_with (first
      | (go_at_call 28; refine (hnm _ hB).mono ?_; clear hnm; rintro e w1 ⟨u, rfl, hown, hb1⟩; obtain ⟨N, d, rfl, hd, hR⟩ := hown.rdc encID_len; rw [hnl] at hd; have hB1 := below_call hB hB.size hb1; have b0' := bl_own hb1 b0; have b1' := bl_own hb1 b1)
      | (go_at_call 29; (try rw [hnl]); refine (hmi _ hB1 N d hR hd).mono ?_; clear hmi; rintro e w2 ⟨rfl, hb2⟩; have hB2 := below_call hB1 hB1.size hb2; have b0'' := bl_own hb2 b0'; obtain ⟨e0, e1, _, _⟩ := blk2 (bl_own hb2 b1'); have c0 := blk_cell b0'' 0; have c1 := blk_cell b0'' 1; have c2 := blk_cell b0'' 2; have c3 := blk_cell b0'' 3; have c4 := blk_cell b0'' 4; have hR2 := hR.below hb2)
      | (go_at_call 30; (try rw [hnl]); refine (hin' _ hB2 N d hR2).mono ?_; clear hin'; rintro e w3 ⟨rfl, hb3⟩))
    go_ret
    exact ⟨rfl, below_call hB2 hB2.size hb3⟩
  · have hmb : mayB l = false := by simp [mayB, ht]
    rw [hmb] at hmi
    have hz := Lib.hid (onC_notree ht c vs id)
    clear hmb ht hin
    go_enter Try.func12, Try.ntmps12
    go_wp2_with (first
      | (go_at_call 28; refine (hnm _ hB).mono ?_; clear hnm; rintro e w1 ⟨u, rfl, hown, hb1⟩; obtain ⟨N, d, rfl, hd, hR⟩ := hown.rdc encID_len; rw [hnl] at hd; have hB1 := below_call hB hB.size hb1)
      | (go_at_call 29; (try rw [hnl]); refine (hmi _ hB1 N d hR hd).mono ?_; clear hmi; rintro e w2 ⟨rfl, hb2⟩; have hB2 := below_call hB1 hB1.size hb2))
    go_ret
    exact ⟨ret_int hz.out.symm, hB2⟩
set_option maxRecDepth 100000 in
set_option maxHeartbeats 2000000 in
theorem rall_any (c : Cfg) (l : List Blk) (vs : List Vote) (A A2 A3 : Option Addr) (k k2 k3 : Nat) (w : World) (hok : ∀ b ∈ l, b.Ok) (hr : Rd 1 encI w A c.W) (hr2 : Rd 5 encBlk w A2 l) (hr3 : Rd 4 encVote w A3 vs) (hl : l.length ≤ 100000) (hvl : vs.length ≤ 100000) :
    Calls Try.prog 14 #[cfgv A k c, .slice A2 l.length k2, .slice A3 vs.length k3] w fun e w' => e = .returned (.int .i64 (onC c l vs zid)) ∧ Below w.heap.size w w' := by
  have hm := hr.1
  have hm2 := hr2.1
  have hm3 := hr3.1
  have hon := fun V (hV : Below w.heap.size w V) => ron_any c l vs zid A A2 A3 k k2 k3 V hok (hr.below hV) (hr2.below hV) (hr3.below hV) hl hvl
  unfold cfgv idv at *
  have hW : ∃ W, w.alloc (.cells #[.slice A c.W.length k, .int .u64 c.seed, .int .i64 c.epoch, .int .i64 c.num, .int .i64 c.den] 25) = W := ⟨_, rfl⟩
  obtain ⟨W, hW⟩ := hW
  have hB : Below w.heap.size w W := by subst hW; exact (Below.refl _ w).alloc (Nat.le_refl _) _
  have hb : W.heap[w.heap.size]? = some (.cells #[.slice A c.W.length k, .int .u64 c.seed, .int .i64 c.epoch, .int .i64 c.num, .int .i64 c.den] 25 (0, 0)) := by subst hW; exact ha_at rfl
  have c0 := blk_cell hb 0
  have c1 := blk_cell hb 1
  have c2 := blk_cell hb 2
  have c3 := blk_cell hb 3
  have c4 := blk_cell hb 4
  go_enter Try.func14, Try.ntmps14
  go_wp2_with (go_at_call 12; refine (hon _ hB).mono ?_; clear hon; rintro e w1 ⟨rfl, hb1⟩)
  go_ret
  exact ⟨rfl, below_call hB hB.size hb1⟩
end Go.Proofs.Ytlhndhgkoacilaa
