/- FfgMore, walked. -/
import Derived.Test.YtdocgemfedohdaaGD
import Derived.Test.YtdocgemfedohdaaGM
import Derived.Test.YtdocgemfedohdaaGO
import Derived.Test.YtdocgemfedohdaaGK
import Derived.Deep.CutRange
import Derived.Deep.CutBlock
namespace Go.Proofs.Ytdocgemfedohdaa
open Go.RowKit
theorem getC_mem {g : List Chk} {i : Nat} (hi : i < g.length) : g[i] ∈ g := List.getElem_mem hi
theorem more_lists (c : Cfg) (l : List Blk) (v : List Lnk) (x : Lnk) : (justL c l v = [] ∧ justL c l (v ++ [x]) = [] ∧ finalL c l v = [] ∧ finalL c l (v ++ [x]) = []) ∨ ∃ r r', justL c l v = zchk :: r ∧ finalL c l v = zchk :: r' := by
  by_cases h : MayC c ∧ Tree l
  · obtain ⟨r, hr⟩ := justL_head h v
    obtain ⟨r', hr'⟩ := finalL_head h v
    exact .inr ⟨r, r', hr, hr'⟩
  · exact .inl ⟨justL_no h _, justL_no h _, finalL_no h _, finalL_no h _⟩
set_option maxRecDepth 100000 in
set_option maxHeartbeats 8000000 in
theorem more11_any (c : Cfg) (l : List Blk) (v : List Lnk) (x : Lnk) (A A2 A3 : Option Addr) (k k2 k3 : Nat) (w : World) (hr : Rd 1 encI w A c.W) (hr2 : Rd 5 encBlk w A2 l) (hok : ∀ b ∈ l, b.Ok) (hr3 : Rd 7 encLnk w A3 v) (hk3 : v.length ≤ k3) (hk3m : k3 ≤ maxLen) (hN : A3 = none → k3 = 0) :
    Calls Try.prog 4 #[cfgv A k c, .slice A2 l.length k2, .slice A3 v.length k3, lnkv x] w fun e w' => e = .returned (.bool true) ∧ Below w.heap.size w w' := by
  have hm := hr.1
  have hm2 := hr2.1
  have hm3 := hr3.1
  have haw := fun V => awake11_any V
  have hfew := fun V => few11_any c l.length v.length A A2 A3 k k2 k3 V hm hm2 hm3
  obtain ⟨W, hW⟩ : ∃ W, (w.alloc (.cells #[.slice A c.W.length k, .int .u64 c.seed, .int .i64 c.epoch, .int .i64 c.num, .int .i64 c.den] 25)).alloc (.cells #[.int .i64 x.frm, .int .i64 x.src.epoch, .int .u64 x.src.root.hi, .int .u64 x.src.root.lo, .int .i64 x.tgt.epoch, .int .u64 x.tgt.root.hi, .int .u64 x.tgt.root.lo] 33) = W := ⟨_, rfl⟩
  have hB : Below w.heap.size w W := by subst hW; exact ((Below.refl _ w).alloc (Nat.le_refl _) _).alloc (by simp) _
  have b0 : W.heap[w.heap.size]? = some (.cells #[.slice A c.W.length k, .int .u64 c.seed, .int .i64 c.epoch, .int .i64 c.num, .int .i64 c.den] 25 (0, 0)) := by subst hW; exact ha_lt (ha_at rfl)
  have x0 : W.heap[w.heap.size + 1]? = some (.cells #[.int .i64 x.frm, .int .i64 x.src.epoch, .int .u64 x.src.root.hi, .int .u64 x.src.root.lo, .int .i64 x.tgt.epoch, .int .u64 x.tgt.root.hi, .int .u64 x.tgt.root.lo] 33 (0, 0)) := by subst hW; exact ha_at (by simp)
  by_cases hsm : c.W.length ≤ 40 ∧ l.length ≤ 20 ∧ v.length ≤ 40
  · rw [decide_eq_true hsm] at hfew
    obtain ⟨_, hs2, hs3⟩ := hsm
    have hun := Try.underlying27
    have hsub : ∀ y ∈ v, y ∈ v ++ [x] := fun y hy => List.mem_append.2 (.inl hy)
    have hab := fun y => justL_sub (c := c) (l := l) hsub y
    have hfg := fun y => finalL_sub (c := c) (l := l) hsub y
    have hfa := fun y => finalL_justL (c := c) (l := l) (v := v) y
    have hml := more_lists c l v x
    clear hsub
    have hl1 : (v ++ [x]).length = v.length + 1 := by simp
    have hja := fun V (hV : Below w.heap.size w V) => fjust_any c l v A A2 A3 k k2 k3 V (hr.below hV) (hr2.below hV) (by omega) (hr3.below hV) (by omega)
    have hfa2 := fun V (hV : Below w.heap.size w V) => ffinal_any c l v A A2 A3 k k2 k3 V (hr.below hV) (hr2.below hV) (by omega) (hr3.below hV) (by omega)
    have hjb := fun A5 k5 V (hV : Below w.heap.size w V) h5 => fjust_any c l (v ++ [x]) A A2 A5 k k2 k5 V (hr.below hV) (hr2.below hV) (by omega) h5 (by omega)
    have hfb := fun A5 k5 V (hV : Below w.heap.size w V) h5 => ffinal_any c l (v ++ [x]) A A2 A5 k k2 k5 V (hr.below hV) (hr2.below hV) (by omega) h5 (by omega)
    simp only [hl1] at hjb hfb
    clear hl1
    have hbl := justL_len c l v
    have hfl := finalL_len c l v
    obtain ⟨a, ha⟩ : ∃ g, justL c l v = g := ⟨_, rfl⟩
    obtain ⟨b, hb⟩ : ∃ g, justL c l (v ++ [x]) = g := ⟨_, rfl⟩
    obtain ⟨f, hf⟩ : ∃ g, finalL c l v = g := ⟨_, rfl⟩
    obtain ⟨g, hg⟩ : ∃ g, finalL c l (v ++ [x]) = g := ⟨_, rfl⟩
    rw [ha] at hja hbl
    rw [hb] at hjb
    rw [hf] at hfa2 hfl
    rw [hg] at hfb
    simp only [ha, hb] at hab
    simp only [hf, hg] at hfg
    simp only [hf, ha] at hfa
    rw [ha, hb, hf, hg] at hml
    clear ha hb hf hg
    have hab' := Lib.hid hab
    have hfg' := Lib.hid hfg
    have hfa' := Lib.hid hfa
    have hml' := Lib.hid hml
    clear hab hfg hfa hml
    have hbn : (([] : List Lnk).length + v.length) * 56 ≤ 140737488355328 := by simp; omega
    have hln : ([] : List Lnk).length + v.length ≤ maxLen := by unfold maxLen; simp; omega
    have hb1 : (([] ++ v : List Lnk).length + 1) * 56 ≤ 140737488355328 := by simp; omega
    have hl1 : ([] ++ v : List Lnk).length + 1 ≤ maxLen := by unfold maxLen; simp; omega
    unfold cfgv lnkv at *
    go_enter Try.func4, Try.ntmps4
    go_wp2_with (first
      | (go_at_call 11; (with_reducible refine (haw _).mono ?_); clear haw; rintro e w1 ⟨rfl, hbb1⟩; have hB1 := below_call hB hB.size hbb1; have b1 := bl_own hbb1 b0; obtain ⟨c10, c11, c12, c13, c14⟩ := blk5 b1)
      | (go_at_call 12; (with_reducible refine (hfew _).mono ?_); clear hfew; rintro e w2 ⟨rfl, hbb2⟩; have hB2 := below_call hB1 hB1.size hbb2; have b2 := bl_own hbb2 b1; obtain ⟨c20, c21, c22, c23, c24⟩ := blk5 b2; have x2 := bl_own hbb2 (bl_own hbb1 x0); obtain ⟨x20, x21, x22, x23, x24, x25, x26⟩ := blkL x2)
      | (go_at_call 16; (with_reducible refine (hja _ hB2).mono ?_); clear hja; rintro e w3 ⟨u3, rfl, ho3, hbb3⟩; have hB3 := below_call hB2 hB2.size hbb3; have b3 := bl_own hbb3 b2; obtain ⟨c30, c31, c32, c33, c34⟩ := blk5 b3; have x3 := bl_own hbb3 x2; obtain ⟨x30, x31, x32, x33, x34, x35, x36⟩ := blkL x3; obtain ⟨Aa, ka, rfl, hRa⟩ := ho3.rd encChk_len))
    have kD : Below w3.heap.size w3 w3.drew := (Below.refl _ w3).drew
    obtain ⟨Y, hY⟩ : ∃ Y, w3.drew.alloc (.cells #[.int .i64 x.frm, .int .i64 x.src.epoch, .int .u64 x.src.root.hi, .int .u64 x.src.root.lo, .int .i64 x.tgt.epoch, .int .u64 x.tgt.root.hi, .int .u64 x.tgt.root.lo] 33) = Y := ⟨_, rfl⟩
    have hY2 : (w3.alloc (.cells #[.int .i64 x.frm, .int .i64 x.src.epoch, .int .u64 x.src.root.hi, .int .u64 x.src.root.lo, .int .i64 x.tgt.epoch, .int .u64 x.tgt.root.hi, .int .u64 x.tgt.root.lo] 33)).drew = Y := hY
    have kY : Below w3.heap.size w3 Y := by subst hY; exact kD.alloc kD.size _
    have hxY : Y.heap[w3.heap.size]? = some (.cells #[.int .i64 x.frm, .int .i64 x.src.epoch, .int .u64 x.src.root.hi, .int .u64 x.src.root.lo, .int .i64 x.tgt.epoch, .int .u64 x.tgt.root.hi, .int .u64 x.tgt.root.lo] 33 (0, 0)) := by subst hY; exact ha_at rfl
    have hrD := hr3.below (below_call hB3 hB3.size kD)
    have hrY := hr3.below (below_call hB3 hB3.size kY)
    have hnb : ∀ k, (Value.slice none 0 0).ownBlock = some k → w3.heap.size ≤ k := fun k e => by simp [Value.ownBlock] at e
    go_cut [12] from 36 to 43 (fun vq wx => ∃ Aq kq, vq = .slice Aq b.length kq ∧ Rd 3 encChk wx Aq b ∧ Below w3.heap.size w3 wx)
    case first =>
      go_region_held3 (fun W' => (W'.cell? ⟨w.heap.size, 0, none⟩ = some (.slice A c.W.length k) ∧ W'.cell? ⟨w.heap.size, 1, none⟩ = some (.int .u64 c.seed) ∧ W'.cell? ⟨w.heap.size, 2, none⟩ = some (.int .i64 c.epoch) ∧ W'.cell? ⟨w.heap.size, 3, none⟩ = some (.int .i64 c.num) ∧ W'.cell? ⟨w.heap.size, 4, none⟩ = some (.int .i64 c.den)) ∧ (W'.cell? ⟨w.heap.size + 1, 0, none⟩ = some (.int .i64 x.frm) ∧ W'.cell? ⟨w.heap.size + 1, 1, none⟩ = some (.int .i64 x.src.epoch) ∧ W'.cell? ⟨w.heap.size + 1, 2, none⟩ = some (.int .u64 x.src.root.hi) ∧ W'.cell? ⟨w.heap.size + 1, 3, none⟩ = some (.int .u64 x.src.root.lo) ∧ W'.cell? ⟨w.heap.size + 1, 4, none⟩ = some (.int .i64 x.tgt.epoch) ∧ W'.cell? ⟨w.heap.size + 1, 5, none⟩ = some (.int .u64 x.tgt.root.hi) ∧ W'.cell? ⟨w.heap.size + 1, 6, none⟩ = some (.int .u64 x.tgt.root.lo))) (first | exact ⟨blk5 (bl_own kD b3), blkL (bl_own kD x3)⟩ | exact ⟨blk5 (bl_own kY b3), blkL (bl_own kY x3)⟩ | exact ⟨blk5 (bl_own kA b3), blkL (bl_own kA x3)⟩ | exact ⟨blk5 (bl_own kZ b3), blkL (bl_own kZ x3)⟩ | exact ⟨blk5 (bl_own kB b3), blkL (bl_own kB x3)⟩ | exact ⟨blk5 (bl_own kC b3), blkL (bl_own kC x3)⟩ | exact ⟨blk5 b3, blkL x3⟩)
        ((first
          | (with_reducible refine step_append_all (w := w3.drew) (by with_unfolding_all rfl) (by with_unfolding_all rfl) hun infoL (by with_unfolding_all rfl) (by decide) encLnk_len encLnk_one (by with_unfolding_all rfl) (Own.nil _ w3.heap.size _ _ _) (by with_unfolding_all rfl) hN hrD hbn hln kD.size ?_; intro v4 wa ho4 hg4 hat4; have kA := below_step kD kD.size hg4 hnb; have hO4 : ∀ k, v4.ownBlock = some k → w3.heap.size ≤ k := fun k hk => (ho4.base k hk).1; obtain ⟨Z, hZ⟩ : ∃ Z, wa.alloc (.cells #[.int .i64 x.frm, .int .i64 x.src.epoch, .int .u64 x.src.root.hi, .int .u64 x.src.root.lo, .int .i64 x.tgt.epoch, .int .u64 x.tgt.root.hi, .int .u64 x.tgt.root.lo] 33) = Z := ⟨_, rfl⟩; have kZ : Below w3.heap.size w3 Z := (by subst hZ; exact kA.alloc kA.size _); have hoZ : Own Z w3.heap.size 33 7 encLnk v4 ([] ++ v) := (by subst hZ; exact ho4.below ((Below.refl _ wa).alloc (Nat.le_refl _) _)); have hxZ : Z.heap[wa.heap.size]? = some (.cells #[.int .i64 x.frm, .int .i64 x.src.epoch, .int .u64 x.src.root.hi, .int .u64 x.src.root.lo, .int .i64 x.tgt.epoch, .int .u64 x.tgt.root.hi, .int .u64 x.tgt.root.lo] 33 (0, 0)) := (by subst hZ; exact ha_at rfl))
          | (with_reducible refine step_append_all (w := Y) (by with_unfolding_all rfl) (by with_unfolding_all rfl) hun infoL (by with_unfolding_all rfl) (by decide) encLnk_len encLnk_one (by with_unfolding_all rfl) (Own.nil _ w3.heap.size _ _ _) (by with_unfolding_all rfl) hN hrY hbn hln kY.size ?_; intro v4 Z hoZ hgZ hatZ; have kZ := below_step kY kY.size hgZ hnb; have hO4 : ∀ k, v4.ownBlock = some k → w3.heap.size ≤ k := fun k hk => (hoZ.base k hk).1; have hxZ := grown_own hgZ hxY (by simp [Value.ownBlock]))
          | (with_reducible refine step_append1 (w := Z) (by with_unfolding_all rfl) (by with_unfolding_all rfl) hun infoL (by with_unfolding_all rfl) (by decide) encLnk_len encLnk_one (by with_unfolding_all rfl) hoZ (c := 1) (by with_unfolding_all rfl) (y := x) hxZ (by with_unfolding_all rfl) hb1 hl1 kZ.size ?_; intro v6 wb ho6 hg6 hat6; have kB := below_step kZ kZ.size hg6 hO4; obtain ⟨A6, k6, hv6, hc6, hm6, hR6⟩ := ho6.rdm encLnk_len; rw [List.nil_append] at hv6 hR6 hc6; subst hv6; have hcon := hjb A6 k6 wb (below_call hB3 hB3.size kB) hR6)
          | (go_at_call 16; (with_reducible refine hcon.mono ?_); clear hcon; rintro e wc ⟨u, rfl, hou, hbc⟩; have kC := below_call kB kB.size hbc; obtain ⟨Au, ku, rfl, hRu⟩ := hou.rd encChk_len)))
      all_goals go_wp2
      all_goals go_meet
      all_goals exact ⟨_, _, rfl, hRu, kC⟩
    case rest =>
      clear kD hY hY2 kY hxY hrD hrY hnb
      obtain ⟨Aq12, kq12, rfl, hR12, hbx⟩ := hcut
      rename World => w4
      have hB4 := below_call hB3 hB3.size hbx
      have b4 := bl_own hbx b3
      have x4 := bl_own hbx x3
      have hRa := hRa.below hbx
      clear hbx
      obtain ⟨c40, c41, c42, c43, c44⟩ := blk5 b4
      go_wp2_with (first
        | (go_at_call 18; (with_reducible refine (hfa2 _ hB4).mono ?_); clear hfa2; rintro e w5 ⟨u5, rfl, ho5, hbb5⟩; have hB5 := below_call hB4 hB4.size hbb5; have b5 := bl_own hbb5 b4; obtain ⟨c50, c51, c52, c53, c54⟩ := blk5 b5; have x5 := bl_own hbb5 x4; obtain ⟨x50, x51, x52, x53, x54, x55, x56⟩ := blkL x5; obtain ⟨Af, kf, rfl, hRf⟩ := ho5.rd encChk_len)
        | fail)
      have hRa := hRa.below hbb5
      have hR12 := hR12.below hbb5
      have kD : Below w5.heap.size w5 w5.drew := (Below.refl _ w5).drew
      obtain ⟨Y, hY⟩ : ∃ Y, w5.drew.alloc (.cells #[.int .i64 x.frm, .int .i64 x.src.epoch, .int .u64 x.src.root.hi, .int .u64 x.src.root.lo, .int .i64 x.tgt.epoch, .int .u64 x.tgt.root.hi, .int .u64 x.tgt.root.lo] 33) = Y := ⟨_, rfl⟩
      have hY2 : (w5.alloc (.cells #[.int .i64 x.frm, .int .i64 x.src.epoch, .int .u64 x.src.root.hi, .int .u64 x.src.root.lo, .int .i64 x.tgt.epoch, .int .u64 x.tgt.root.hi, .int .u64 x.tgt.root.lo] 33)).drew = Y := hY
      have kY : Below w5.heap.size w5 Y := by subst hY; exact kD.alloc kD.size _
      have hxY : Y.heap[w5.heap.size]? = some (.cells #[.int .i64 x.frm, .int .i64 x.src.epoch, .int .u64 x.src.root.hi, .int .u64 x.src.root.lo, .int .i64 x.tgt.epoch, .int .u64 x.tgt.root.hi, .int .u64 x.tgt.root.lo] 33 (0, 0)) := by subst hY; exact ha_at rfl
      have hrD := hr3.below (below_call hB5 hB5.size kD)
      have hrY := hr3.below (below_call hB5 hB5.size kY)
      have hnb : ∀ k, (Value.slice none 0 0).ownBlock = some k → w5.heap.size ≤ k := fun k e => by simp [Value.ownBlock] at e
      go_cut [14] from 48 to 55 (fun vq wx => ∃ Aq kq, vq = .slice Aq g.length kq ∧ Rd 3 encChk wx Aq g ∧ Below w5.heap.size w5 wx)
      case first =>
        go_region_held3 (fun W' => (W'.cell? ⟨w.heap.size, 0, none⟩ = some (.slice A c.W.length k) ∧ W'.cell? ⟨w.heap.size, 1, none⟩ = some (.int .u64 c.seed) ∧ W'.cell? ⟨w.heap.size, 2, none⟩ = some (.int .i64 c.epoch) ∧ W'.cell? ⟨w.heap.size, 3, none⟩ = some (.int .i64 c.num) ∧ W'.cell? ⟨w.heap.size, 4, none⟩ = some (.int .i64 c.den)) ∧ (W'.cell? ⟨w.heap.size + 1, 0, none⟩ = some (.int .i64 x.frm) ∧ W'.cell? ⟨w.heap.size + 1, 1, none⟩ = some (.int .i64 x.src.epoch) ∧ W'.cell? ⟨w.heap.size + 1, 2, none⟩ = some (.int .u64 x.src.root.hi) ∧ W'.cell? ⟨w.heap.size + 1, 3, none⟩ = some (.int .u64 x.src.root.lo) ∧ W'.cell? ⟨w.heap.size + 1, 4, none⟩ = some (.int .i64 x.tgt.epoch) ∧ W'.cell? ⟨w.heap.size + 1, 5, none⟩ = some (.int .u64 x.tgt.root.hi) ∧ W'.cell? ⟨w.heap.size + 1, 6, none⟩ = some (.int .u64 x.tgt.root.lo))) (first | exact ⟨blk5 (bl_own kD b5), blkL (bl_own kD x5)⟩ | exact ⟨blk5 (bl_own kY b5), blkL (bl_own kY x5)⟩ | exact ⟨blk5 (bl_own kA b5), blkL (bl_own kA x5)⟩ | exact ⟨blk5 (bl_own kZ b5), blkL (bl_own kZ x5)⟩ | exact ⟨blk5 (bl_own kB b5), blkL (bl_own kB x5)⟩ | exact ⟨blk5 (bl_own kC b5), blkL (bl_own kC x5)⟩ | exact ⟨blk5 b5, blkL x5⟩)
          ((first
            | (with_reducible refine step_append_all (w := w5.drew) (by with_unfolding_all rfl) (by with_unfolding_all rfl) hun infoL (by with_unfolding_all rfl) (by decide) encLnk_len encLnk_one (by with_unfolding_all rfl) (Own.nil _ w5.heap.size _ _ _) (by with_unfolding_all rfl) hN hrD hbn hln kD.size ?_; intro v4 wa ho4 hg4 hat4; have kA := below_step kD kD.size hg4 hnb; have hO4 : ∀ k, v4.ownBlock = some k → w5.heap.size ≤ k := fun k hk => (ho4.base k hk).1; obtain ⟨Z, hZ⟩ : ∃ Z, wa.alloc (.cells #[.int .i64 x.frm, .int .i64 x.src.epoch, .int .u64 x.src.root.hi, .int .u64 x.src.root.lo, .int .i64 x.tgt.epoch, .int .u64 x.tgt.root.hi, .int .u64 x.tgt.root.lo] 33) = Z := ⟨_, rfl⟩; have kZ : Below w5.heap.size w5 Z := (by subst hZ; exact kA.alloc kA.size _); have hoZ : Own Z w5.heap.size 33 7 encLnk v4 ([] ++ v) := (by subst hZ; exact ho4.below ((Below.refl _ wa).alloc (Nat.le_refl _) _)); have hxZ : Z.heap[wa.heap.size]? = some (.cells #[.int .i64 x.frm, .int .i64 x.src.epoch, .int .u64 x.src.root.hi, .int .u64 x.src.root.lo, .int .i64 x.tgt.epoch, .int .u64 x.tgt.root.hi, .int .u64 x.tgt.root.lo] 33 (0, 0)) := (by subst hZ; exact ha_at rfl))
            | (with_reducible refine step_append_all (w := Y) (by with_unfolding_all rfl) (by with_unfolding_all rfl) hun infoL (by with_unfolding_all rfl) (by decide) encLnk_len encLnk_one (by with_unfolding_all rfl) (Own.nil _ w5.heap.size _ _ _) (by with_unfolding_all rfl) hN hrY hbn hln kY.size ?_; intro v4 Z hoZ hgZ hatZ; have kZ := below_step kY kY.size hgZ hnb; have hO4 : ∀ k, v4.ownBlock = some k → w5.heap.size ≤ k := fun k hk => (hoZ.base k hk).1; have hxZ := grown_own hgZ hxY (by simp [Value.ownBlock]))
            | (with_reducible refine step_append1 (w := Z) (by with_unfolding_all rfl) (by with_unfolding_all rfl) hun infoL (by with_unfolding_all rfl) (by decide) encLnk_len encLnk_one (by with_unfolding_all rfl) hoZ (c := 1) (by with_unfolding_all rfl) (y := x) hxZ (by with_unfolding_all rfl) hb1 hl1 kZ.size ?_; intro v6 wb ho6 hg6 hat6; have kB := below_step kZ kZ.size hg6 hO4; obtain ⟨A6, k6, hv6, hc6, hm6, hR6⟩ := ho6.rdm encLnk_len; rw [List.nil_append] at hv6 hR6 hc6; subst hv6; have hcon := hfb A6 k6 wb (below_call hB5 hB5.size kB) hR6)
            | (go_at_call 18; (with_reducible refine hcon.mono ?_); clear hcon; rintro e wc ⟨u, rfl, hou, hbc⟩; have kC := below_call kB kB.size hbc; obtain ⟨Au, ku, rfl, hRu⟩ := hou.rd encChk_len)))
        all_goals go_wp2
        all_goals go_meet
        all_goals exact ⟨_, _, rfl, hRu, kC⟩
      case rest =>
        clear kD hY hY2 kY hxY hrD hrY hnb
        obtain ⟨Aq14, kq14, rfl, hR14, hbx⟩ := hcut
        rename World => w6
        have hB6 := below_call hB5 hB5.size hbx
        have hRa := hRa.below hbx
        have hR12 := hR12.below hbx
        have hRf := hRf.below hbx
        clear hbx hbn hln hb1 hl1
        go_wp2_with fail
        go_loopw [15, 16] (fun u15 _ wr => ∃ j : Nat, j ≤ a.length ∧ u15 = .int .i64 j ∧ Below w6.heap.size w6 wr) (fun u15 _ _ => a.length - (intOf u15).toNat)
        case atStart => exact ⟨0, Nat.zero_le _, rfl, Below.refl _ _⟩
        case round =>
          obtain ⟨j, hj, rfl, hBW⟩ := hrel
          have hBr := below_call hB6 hB6.size hBW
          by_cases hlt : j < a.length
          · obtain ⟨e, oe, rfl, _, m0, m1, m2⟩ := (hRa.below hBW).atChk hlt
            have hhas := rHasC_any b a[j] Aq12 kq12 wr (hR12.below hBW)
            rw [hasC_iff.2 (hab'.out _ (getC_mem hlt))] at hhas
            unfold chkv at hhas
            obtain ⟨y, hy⟩ : ∃ y, a[j] = y := ⟨_, rfl⟩
            rw [hy] at m0 m1 m2 hhas
            clear hy
            go_wp2_with (go_at_call 22; (with_reducible refine hhas.mono ?_); clear hhas; rintro e w7 ⟨rfl, hb7⟩)
            go_roundw
            case rel => exact ⟨j + 1, hlt, by go_num, below_call hBW hBW.size hb7⟩
            case measure => simp [intOf]; omega
          · obtain rfl : j = a.length := by omega
            rename World => wo
            have hRa := hRa.below hBW
            have hR12 := hR12.below hBW
            have hRf := hRf.below hBW
            have hR14 := hR14.below hBW
            go_wp2_with fail
            go_loopw [17, 18, 19] (fun u17 _ _ wr => ∃ j : Nat, j ≤ f.length ∧ u17 = .int .i64 j ∧ Below wo.heap.size wo wr) (fun u17 _ _ _ => f.length - (intOf u17).toNat)
            case atStart => exact ⟨0, Nat.zero_le _, rfl, Below.refl _ _⟩
            case round =>
              obtain ⟨i, hi, rfl, hBX⟩ := hrel
              have hBx := below_call hBr hBr.size hBX
              by_cases hlt : i < f.length
              · have hC := Lib.hid (fun V (hV : Below wo.heap.size wo V) => (hRf.below hV).atChk hlt)
                have hh1 := rHasC_any g f[i] Aq14 kq14 wr (hR14.below hBX)
                rw [hasC_iff.2 (hfg'.out _ (getC_mem hlt))] at hh1
                have hh2 := fun V (hV : Below wo.heap.size wo V) => rHasC_any a f[i] Aa ka V (hRa.below hV)
                rw [hasC_iff.2 (hfa'.out _ (getC_mem hlt))] at hh2
                unfold chkv at hh1 hh2
                obtain ⟨y, hy⟩ : ∃ y, f[i] = y := ⟨_, rfl⟩
                rw [hy] at hh1 hh2
                simp only [hy] at hC
                clear hy
                obtain ⟨e, oe, rfl, _, m0, m1, m2⟩ := hC.out wr hBX
                go_wp2_with (first
                  | (go_at_call 22; (with_reducible refine hh1.mono ?_); clear hh1; rintro e' w7 ⟨rfl, hb7⟩; have hB7 := below_call hBX hBX.size hb7; obtain ⟨e1, oe1, he1, _, n0, n1, n2⟩ := hC.out w7 hB7; cases he1)
                  | (go_at_call 22; (with_reducible refine (hh2 w7 hB7).mono ?_); clear hh2; rintro e' w8 ⟨rfl, hb8⟩; have hB8 := below_call hB7 hB7.size hb8))
                go_roundw
                case rel => exact ⟨i + 1, hlt, by go_num, hB8⟩
                case measure => simp [intOf]; omega
              · obtain rfl : i = f.length := by omega
                rcases hml'.out with ⟨h1, h2, h3, h4⟩ | ⟨r, r', h1, h2⟩
                · subst h1 h2 h3 h4
                  go_wp2_with fail
                  go_ret
                  exact ⟨rfl, hBx⟩
                · subst h1 h2
                  obtain ⟨e, oe, rfl, _, m0, m1, m2⟩ := (hRa.below hBX).atChk (i := 0) (by simp)
                  obtain ⟨e2, oe2, rfl, _, n0, n1, n2⟩ := (hRf.below hBX).atChk (i := 0) (by simp)
                  have hq := eql_chk zchk zchk
                  rw [decide_eq_true rfl] at hq
                  unfold zchk at hq
                  dsimp only at hq
                  dsimp only [List.getElem_cons_zero] at m0 m1 m2 n0 n1 n2
                  unfold zchk at m0 m1 m2 n0 n1 n2
                  simp only [Nat.zero_mul, Nat.add_zero] at m0 m1 m2 n0 n1 n2
                  have f1 : (0 : Int) < (r.length : Int) + 1 := by omega
                  have f2 : (0 : Int) < (r'.length : Int) + 1 := by omega
                  have f3 : ((r.length : Int) + 1 == 0) = false := by simp; omega
                  have f4 : decide ((r'.length : Int) + 1 > 0) = true := decide_eq_true (by omega)
                  go_wp2_with fail
                  all_goals go_ret
                  all_goals exact ⟨rfl, hBx⟩
  · rw [decide_eq_false hsm] at hfew
    clear hsm
    unfold cfgv lnkv at *
    go_enter Try.func4, Try.ntmps4
    go_wp2_with (first
      | (go_at_call 11; (with_reducible refine (haw _).mono ?_); clear haw; rintro e w1 ⟨rfl, hb1⟩; have hB1 := below_call hB hB.size hb1; have b1 := bl_own hb1 b0; obtain ⟨c10, c11, c12, c13, c14⟩ := blk5 b1)
      | (go_at_call 12; (with_reducible refine (hfew _).mono ?_); clear hfew; rintro e w2 ⟨rfl, hb2⟩; have hB2 := below_call hB1 hB1.size hb2; have b2 := bl_own hb2 b1; obtain ⟨c20, c21, c22, c23, c24⟩ := blk5 b2))
    go_ret
    exact ⟨rfl, hB2⟩
theorem more11_walk (A : Option Addr) (c : Cfg) (k : Nat) (A2 : Option Addr) (l : List Blk) (k2 : Nat) (A3 : Option Addr) (v : List Lnk) (k3 : Nat) (x : Lnk) (w : World) (_ : c.W.length ≤ k) (_ : k ≤ maxLen) (hr : Rd 1 encI w A c.W) (_ : c.Ok) (_ : l.length ≤ k2) (_ : k2 ≤ maxLen) (hr2 : Rd 5 encBlk w A2 l) (hok : ∀ b ∈ l, b.Ok) (hk3 : v.length ≤ k3) (hk3m : k3 ≤ maxLen) (hr3 : Rd 7 encLnk w A3 v) (_ : ∀ b ∈ v, b.Ok) (hN : A3 = none → k3 = 0) (_ : x.Ok) :
    Calls Try.prog 4 #[cfgv A k c, .slice A2 l.length k2, .slice A3 v.length k3, lnkv x] w fun e w' => e = .returned (.bool true) ∧ Below w.heap.size w w' :=
  more11_any c l v x A A2 A3 k k2 k3 w hr hr2 hok hr3 hk3 hk3m hN
end Go.Proofs.Ytdocgemfedohdaa
