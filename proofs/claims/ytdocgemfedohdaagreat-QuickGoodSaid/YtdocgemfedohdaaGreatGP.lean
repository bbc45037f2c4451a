/- GP: several texts in one. -/
import Derived.Test.YtdocgemfedohdaaGreatGO
import Derived.Test.YtdocgemfedohdaaGreatGG
import Derived.Test.YtdocgemfedohdaaGreatGH
import Derived.Test.YtdocgemfedohdaaGreatGM
import Derived.Test.YtdocgemfedohdaaGreatGE
import Derived.Test.YtdocgemfedohdaaGreatGA
import Derived.Test.YtdocgemfedohdaaGreatGC
/-! The walks of marigoldref06.Chain and Under. -/
namespace Go.Proofs.YtdocgemfedohdaaGreat
open Go.RowKit
/-- What holds at the loop's head: where one is, and what is told already. -/
def ChAt (l : List Blk) (id x : ID) (j : Int) (acc : List ID) : Prop := idxI (names l) x = j ∧ (x = zid ∨ ∃ b ∈ l, nameOf b = x) ∧ acc ++ (chain l x).tail = chain l id
theorem ChAt.start {l : List Blk} {id : ID} {j : Int} (ht : Tree l) (hj : idxI (names l) id = j) (h : ¬ (j < 0 ∧ id ≠ zid)) : ChAt l id id j [id] := by
  have hk : id = zid ∨ ∃ b ∈ l, nameOf b = id := by
    rcases idx_names (l := l) (x := id) with ⟨h1, _⟩ | ⟨m, _, hml, hmn⟩
    · left
      exact Classical.byContradiction fun hne => h ⟨by omega, hne⟩
    · exact .inr ⟨_, List.getElem_mem hml, hmn⟩
  obtain ⟨r, hr⟩ := chain_head ht hk
  exact ⟨hj, hk, by rw [hr]; rfl⟩
theorem ChAt.done {l : List Blk} {id x : ID} {j : Int} {acc : List ID} (ht : Tree l) (h : ChAt l id x j acc) (hj : j < 0) : acc = chain l id := by
  obtain ⟨h1, h2, h3⟩ := h
  have hx : x = zid := by
    rcases h2 with e | ⟨b, hb, e⟩
    · exact e
    · rcases idx_names (l := l) (x := x) with ⟨_, hno⟩ | ⟨n, hn, _⟩
      · exact absurd e (hno b hb)
      · omega
  subst hx
  rw [chain_zid ht] at h3
  simpa using h3
theorem ChAt.step {l : List Blk} {id x : ID} {n : Nat} {acc : List ID} (ht : Tree l) (h : ChAt l id x n acc) : ∃ hn : n < l.length, ChAt l id l[n].par (idxI (names l) l[n].par) (acc ++ [l[n].par]) := by
  obtain ⟨h1, _, h3⟩ := h
  rcases idx_names (l := l) (x := x) with ⟨hi, _⟩ | ⟨m, hm, hml, hnm⟩
  · omega
  · have : m = n := by omega
    subst this
    refine ⟨hml, rfl, par_mem ht hml, ?_⟩
    rw [← h3, ← hnm, chain_cons ht hml]
    obtain ⟨r, hr⟩ := chain_head ht (par_mem ht hml)
    rw [hr]
    simp
theorem ChAt.len {l : List Blk} {id x : ID} {j : Int} {acc : List ID} (h : ChAt l id x j acc) : acc.length ≤ l.length + 1 := by
  have h1 := congrArg List.length h.2.2
  have h2 := chain_bound (l := l) id
  simp only [List.length_append] at h1
  omega
theorem chain_bad {l : List Blk} {id : ID} {j : Int} (hj : idxI (names l) id = j) (h : j < 0 ∧ id ≠ zid) : chain l id = [] :=
  chain_unknown h.2 (by
    rcases idx_names (l := l) (x := id) with ⟨_, h'⟩ | ⟨m, h', _⟩
    · exact h'
    · omega)
end Go.Proofs.YtdocgemfedohdaaGreat
/-! The document's answer on what is sure, walked. -/
namespace Go.Proofs.YtdocgemfedohdaaGreat
open Go.RowKit
end Go.Proofs.YtdocgemfedohdaaGreat
/-! marigoldlaw15.awake: the chapter's example, walked. -/
namespace Go.Proofs.YtdocgemfedohdaaGreat
open Go.RowKit
def a15 : Blk := ⟨1, 0, zid, 0⟩
def c15 : Cfg := ⟨[1, 1, 1, 1], 0, 1, 1, 4⟩
def v15 : List Vote := [⟨0, 1, nameOf a15⟩, ⟨1, 1, nameOf a15⟩, ⟨2, 1, nameOf a15⟩, ⟨3, 1, nameOf a15⟩]
def x15 : List Vote := [⟨0, 1, nameOf a15⟩, ⟨1, 1, nameOf a15⟩, ⟨2, 1, nameOf a15⟩]
theorem q15_s : quickSure c15 [a15] v15 1 (nameOf a15) = true := by kernel_rfl
theorem q15_n : quickSure c15 [a15] x15 1 (nameOf a15) = false := by kernel_rfl
theorem q15_f : quickFor c15 [a15] x15 1 (nameOf a15) = 3 := by kernel_rfl
theorem q15_t : quickTop c15 [a15] v15 1 (nameOf a15) = (true, nameOf a15) := by kernel_rfl
/-- What the example's blocks hold when its slices lie. -/
structure Aw15At (w V : World) (na : ID) (I Bv Bl : Nat) : Prop where
  hB : Below w.heap.size w V
  hw : V.heap[w.heap.size]? = some (.cells #[.int .i64 1, .int .i64 1, .int .i64 1, .int .i64 1] 3 (0, 0))
  hc : V.heap[w.heap.size + 1]? = some (.cells #[.slice (some ⟨w.heap.size, 0, none⟩) 4 4, .int .u64 0, .int .i64 1, .int .i64 1, .int .i64 4] 25 (0, 0))
  ha : V.heap[w.heap.size + 1 + 1]? = some (.cells #[.int .i64 1, .int .i64 0, .int .u64 0, .int .u64 0, .int .u64 0] 51 (0, 0))
  hi : V.heap[I]? = some (.cells #[.int .u64 na.hi, .int .u64 na.lo] 28 (0, 0))
  hv : V.heap[Bv]? = some (.cells #[.int .i64 0, .int .i64 1, .int .u64 na.hi, .int .u64 na.lo, .int .i64 1, .int .i64 1, .int .u64 na.hi, .int .u64 na.lo, .int .i64 2, .int .i64 1, .int .u64 na.hi, .int .u64 na.lo, .int .i64 3, .int .i64 1, .int .u64 na.hi, .int .u64 na.lo] 37 (0, 0))
  hl : V.heap[Bl]? = some (.cells #[.int .i64 1, .int .i64 0, .int .u64 0, .int .u64 0, .int .u64 0] 51 (0, 0))
theorem Aw15At.own {w V V' : World} {na : ID} {I Bv Bl : Nat} (h : Aw15At w V na I Bv Bl) (hV : Below V.heap.size V V') : Aw15At w V' na I Bv Bl :=
  ⟨below_call h.hB h.hB.size hV, bl_own hV h.hw, bl_own hV h.hc, bl_own hV h.ha, bl_own hV h.hi, bl_own hV h.hv, bl_own hV h.hl⟩
theorem Aw15At.r1 {w V : World} {na : ID} {I Bv Bl : Nat} (h : Aw15At w V na I Bv Bl) : Rd 1 encI V (some ⟨w.heap.size, 0, none⟩) [1, 1, 1, 1] := Rd_flat encI_len (by simp) h.hw rfl
theorem Aw15At.r2 {w V : World} {na : ID} {I Bv Bl : Nat} (h : Aw15At w V na I Bv Bl) : Rd 5 encBlk V (some ⟨Bl, 0, none⟩) [⟨1, 0, ⟨0, 0⟩, 0⟩] := Rd_flat encBlk_len (by simp) h.hl rfl
theorem Aw15At.r3 {w V : World} {na : ID} {I Bv Bl : Nat} (h : Aw15At w V na I Bv Bl) : Rd 4 encVote V (some ⟨Bv, 0, none⟩) [⟨0, 1, na⟩, ⟨1, 1, na⟩, ⟨2, 1, na⟩, ⟨3, 1, na⟩] := Rd_flat encVote_len (by simp) h.hv rfl
theorem Aw15At.r4 {w V : World} {na : ID} {I Bv Bl : Nat} (h : Aw15At w V na I Bv Bl) : Rd 4 encVote V (some ⟨Bv, 0, none⟩) [⟨0, 1, na⟩, ⟨1, 1, na⟩, ⟨2, 1, na⟩] := h.r3.take 3
theorem few15 : NumFew ⟨[1, 1, 1, 1], 0, 1, 1, 4⟩ := by unfold NumFew; simp only; omega
set_option maxRecDepth 100000 in
set_option maxHeartbeats 8000000 in
theorem awake15_any (w : World) : Calls Tryz.prog 5 #[] w fun e w' => e = .returned (.bool true) ∧ Below w.heap.size w w' := by
  have q1 := q15_s
  have q2 := q15_n
  have q3 := q15_f
  have q4 := q15_t
  have hna := fun V => name_any a15 V
  unfold v15 at q1 q4
  unfold x15 at q2 q3
  obtain ⟨na, hnae⟩ : ∃ na, nameOf a15 = na := ⟨_, rfl⟩
  rw [hnae] at hna q1 q2 q3 q4
  clear hnae
  unfold a15 c15 zid at *
  unfold idv at hna
  dsimp only at hna
  have hea := eql_idw na na
  rw [decide_eq_true (rfl : na = na)] at hea
  have q1' := Lib.hid q1
  have q2' := Lib.hid q2
  have q3' := Lib.hid q3
  have q4' := Lib.hid q4
  clear q1 q2 q3 q4
  go_enter Tryz.func5, Tryz.ntmps5
  have hW : ∃ W, (((w.alloc (.cells #[.int .i64 1, .int .i64 1, .int .i64 1, .int .i64 1] 3)).alloc (.cells #[.slice (some ⟨w.heap.size, 0, none⟩) 4 4, .int .u64 0, .int .i64 1, .int .i64 1, .int .i64 4] 25)).alloc (.cells #[.int .i64 1, .int .i64 0, .int .u64 0, .int .u64 0, .int .u64 0] 51)) = W := ⟨_, rfl⟩
  obtain ⟨W, hW⟩ := hW
  have hB : Below w.heap.size w W := by subst hW; exact (((Below.refl _ w).alloc (Nat.le_refl _) _).alloc (by simp) _).alloc (by simp <;> omega) _
  have b0 : W.heap[w.heap.size]? = some (.cells #[.int .i64 1, .int .i64 1, .int .i64 1, .int .i64 1] 3 (0, 0)) := by subst hW; exact ha_lt (ha_lt (ha_at rfl))
  have b1 : W.heap[w.heap.size + 1]? = some (.cells #[.slice (some ⟨w.heap.size, 0, none⟩) 4 4, .int .u64 0, .int .i64 1, .int .i64 1, .int .i64 4] 25 (0, 0)) := by subst hW; exact ha_lt (ha_at (by simp))
  have b2 : W.heap[w.heap.size + 1 + 1]? = some (.cells #[.int .i64 1, .int .i64 0, .int .u64 0, .int .u64 0, .int .u64 0] 51 (0, 0)) := by subst hW; exact ha_at (by simp)
  have hWn := Lib.hid hW
  clear hW
  go_wp2_with fail
  rw [hWn.out]
  refine (hna _).mono ?_
  rintro e w1 ⟨rfl, hb1⟩
  have hz1 : w.heap.size + 1 + 1 < w1.heap.size := lt_of_block (bl_own hb1 b2)
  obtain ⟨x0, x1, _, _⟩ := blk2 (ha_at (w := w1) (o := .cells #[.int .u64 na.hi, .int .u64 na.lo] 28) (k := w1.heap.size) rfl)
  obtain ⟨a0, a1, a2, a3, a4⟩ := blk5 (ha_lt (o := .cells #[.int .i64 0, .int .i64 1, .int .u64 na.hi, .int .u64 na.lo, .int .i64 1, .int .i64 1, .int .u64 na.hi, .int .u64 na.lo, .int .i64 2, .int .i64 1, .int .u64 na.hi, .int .u64 na.lo, .int .i64 3, .int .i64 1, .int .u64 na.hi, .int .u64 na.lo] 37) (ha_lt (o := .cells #[.int .u64 na.hi, .int .u64 na.lo] 28) (bl_own hb1 b2)))
  go_wp2_with fail
  obtain ⟨V, hV⟩ : ∃ V, ((((w1.alloc (.cells #[.int .u64 na.hi, .int .u64 na.lo] 28)).alloc (.cells #[.int .i64 0, .int .i64 1, .int .u64 na.hi, .int .u64 na.lo, .int .i64 1, .int .i64 1, .int .u64 na.hi, .int .u64 na.lo, .int .i64 2, .int .i64 1, .int .u64 na.hi, .int .u64 na.lo, .int .i64 3, .int .i64 1, .int .u64 na.hi, .int .u64 na.lo] 37)).alloc (.cells #[.int .i64 1, .int .i64 0, .int .u64 0, .int .u64 0, .int .u64 0] 51)).alloc (.cells #[.slice (some ⟨w1.heap.size + 1 + 1, 0, none⟩) 1 1, .slice (some ⟨w1.heap.size + 1, 0, none⟩) 4 4] 40)) = V := ⟨_, rfl⟩
  have hbV : Below w1.heap.size w1 V := by subst hV; exact ((((Below.refl _ w1).alloc (Nat.le_refl _) _).alloc (by simp) _).alloc (by simp <;> omega) _).alloc (by simp <;> omega) _
  have hAw : Aw15At w V na w1.heap.size (w1.heap.size + 1) (w1.heap.size + 1 + 1) := by
    refine ⟨below_call (below_call hB hB.size hb1) (below_call hB hB.size hb1).size hbV, bl_own hbV (bl_own hb1 b0), bl_own hbV (bl_own hb1 b1), bl_own hbV (bl_own hb1 b2), ?_, ?_, ?_⟩
    · subst hV; exact ha_lt (ha_lt (ha_lt (ha_at rfl)))
    · subst hV; exact ha_lt (ha_lt (ha_at (by simp)))
    · subst hV; exact ha_lt (ha_at (by simp))
  have hvw : V.heap[w1.heap.size + 1 + 1 + 1]? = some (.cells #[.slice (some ⟨w1.heap.size + 1 + 1, 0, none⟩) 1 1, .slice (some ⟨w1.heap.size + 1, 0, none⟩) 4 4] 40 (0, 0)) := by subst hV; exact ha_at (by simp)
  rw [hV]
  clear hV hbV hWn b0 b1 b2 hB hb1 x0 x1 a0 a1 a2 a3 a4
  obtain ⟨I, hI⟩ : ∃ I, w1.heap.size = I := ⟨_, rfl⟩
  rw [hI] at hAw hvw hz1 ⊢
  clear hI
  go_cut [6] from 27 to 31 (fun v6 wx => ∃ (g B : Nat), v6 = .pointer (some ⟨g, 0, none⟩) ∧ wx.heap[g]? = some (.cells #[.slice (some ⟨B, 0, none⟩) 1 1, .slice (some ⟨I + 1, 0, none⟩) 3 4] 40 (0, 0)) ∧ wx.heap[B]? = some (.cells #[.int .i64 1, .int .i64 0, .int .u64 0, .int .u64 0, .int .u64 0] 51 (0, 0)) ∧ Below V.heap.size V wx)
  case first =>
    have ha := hAw.ha
    obtain ⟨Wb, hWb⟩ : ∃ Z, (V.alloc (.cells #[.int .i64 1, .int .i64 0, .int .u64 0, .int .u64 0, .int .u64 0] 51)).drew = Z := ⟨_, rfl⟩
    have hKb : Below V.heap.size V Wb := by subst hWb; exact ((Below.refl _ V).alloc (Nat.le_refl _) _).drew
    have hbb : Wb.heap[V.heap.size]? = some (.cells #[.int .i64 1, .int .i64 0, .int .u64 0, .int .u64 0, .int .u64 0] 51 (0, 0)) := by subst hWb; exact ha_at rfl
    obtain ⟨Wv, hWv⟩ : ∃ Z, (V.alloc (.cells #[.slice none 0 0, .slice none 0 0] 40)).drew = Z := ⟨_, rfl⟩
    have hKv : Below V.heap.size V Wv := by subst hWv; exact ((Below.refl _ V).alloc (Nat.le_refl _) _).drew
    have hvv : Wv.heap[V.heap.size]? = some (.cells #[.slice none 0 0, .slice none 0 0] 40 (0, 0)) := by subst hWv; exact ha_at rfl
    obtain ⟨Wvb, hWvb⟩ : ∃ Z, Wv.alloc (.cells #[.int .i64 1, .int .i64 0, .int .u64 0, .int .u64 0, .int .u64 0] 51) = Z := ⟨_, rfl⟩
    have hKvb : Below Wv.heap.size Wv Wvb := by subst hWvb; exact (Below.refl _ Wv).alloc (Nat.le_refl _) _
    have hvb : Wvb.heap[Wv.heap.size]? = some (.cells #[.int .i64 1, .int .i64 0, .int .u64 0, .int .u64 0, .int .u64 0] 51 (0, 0)) := by subst hWvb; exact ha_at rfl
    have hvv2 := bl_own hKvb hvv
    have ab := bl_own hKb ha
    have av := bl_own hKv ha
    have avb := bl_own hKvb av
    obtain ⟨m0, m1, m2, m3⟩ := blk2 hvv2
    have lt1 := lt_of_block hvw
    have lt2 := lt_of_block ha
    have lt3 := lt_of_block hvv
    obtain ⟨p1, p2⟩ := set2 hvv2 (.slice (some ⟨Wv.heap.size, 0, none⟩) 1 1) (.slice (some ⟨I + 1, 0, none⟩) 3 4)
    have avs := grown_own p2 avb (fun e => by have := Option.some.inj e; omega)
    have bvs := grown_own p2 hvb (fun e => by have := Option.some.inj e; omega)
    go_region_held3 (fun W' => W'.cell? ⟨w.heap.size + 1 + 1, 0, none⟩ = some (.int .i64 1) ∧ W'.cell? ⟨w.heap.size + 1 + 1, 1, none⟩ = some (.int .i64 0) ∧ W'.cell? ⟨w.heap.size + 1 + 1, 2, none⟩ = some (.int .u64 0) ∧ W'.cell? ⟨w.heap.size + 1 + 1, 3, none⟩ = some (.int .u64 0) ∧ W'.cell? ⟨w.heap.size + 1 + 1, 4, none⟩ = some (.int .u64 0))
      (first | exact blk5 ha | exact blk5 ab | exact blk5 av | exact blk5 avb | exact blk5 avs | exact blk5 (ha_lt ab)) (fail)
    all_goals go_wp2
    all_goals go_meet
    · exact ⟨_, _, rfl, ha_at rfl, ha_lt hbb, hKb.alloc hKb.size _⟩
    · exact ⟨_, _, rfl, p1, bvs, below_step (below_call hKv hKv.size hKvb) (below_call hKv hKv.size hKvb).size p2 (fun k e => by cases e; exact Nat.le_refl _)⟩
  case rest =>
    obtain ⟨g, B, rfl, hg, hgb, hK⟩ := hcut
    have hA2 := hAw.own hK
    have hvw2 := bl_own hK hvw
    clear hAw hvw hK hz1
    have hRx : ∀ X, Below wc.heap.size wc X → Rd 5 encBlk X (some ⟨B, 0, none⟩) [⟨1, 0, ⟨0, 0⟩, 0⟩] := fun X hX => (Rd_flat (w := wc) encBlk_len (by simp) hgb rfl).below hX
    have ht := fun X (hX : Below wc.heap.size wc X) => qtop_any ⟨[1, 1, 1, 1], 0, 1, 1, 4⟩ [⟨1, 0, ⟨0, 0⟩, 0⟩] [⟨0, 1, na⟩, ⟨1, 1, na⟩, ⟨2, 1, na⟩, ⟨3, 1, na⟩] 1 na (some ⟨w.heap.size, 0, none⟩) (some ⟨I + 1 + 1, 0, none⟩) (some ⟨I + 1, 0, none⟩) 4 1 4 X (hA2.own hX).r1 (hA2.own hX).r2 (hA2.own hX).r3 (by simp) (by simp) few15
    have hs := fun X (hX : Below wc.heap.size wc X) => qsure_any ⟨[1, 1, 1, 1], 0, 1, 1, 4⟩ [⟨1, 0, ⟨0, 0⟩, 0⟩] [⟨0, 1, na⟩, ⟨1, 1, na⟩, ⟨2, 1, na⟩, ⟨3, 1, na⟩] 1 na (some ⟨w.heap.size, 0, none⟩) (some ⟨I + 1 + 1, 0, none⟩) (some ⟨I + 1, 0, none⟩) 4 1 4 X (hA2.own hX).r1 (hA2.own hX).r2 (hA2.own hX).r3 (by simp) (by simp) few15
    have hn := fun X (hX : Below wc.heap.size wc X) => qsure_any ⟨[1, 1, 1, 1], 0, 1, 1, 4⟩ [⟨1, 0, ⟨0, 0⟩, 0⟩] [⟨0, 1, na⟩, ⟨1, 1, na⟩, ⟨2, 1, na⟩] 1 na (some ⟨w.heap.size, 0, none⟩) (some ⟨B, 0, none⟩) (some ⟨I + 1, 0, none⟩) 4 1 4 X (hA2.own hX).r1 (hRx X hX) (hA2.own hX).r4 (by simp) (by simp) few15
    have hf := fun X (hX : Below wc.heap.size wc X) => qfor_any ⟨[1, 1, 1, 1], 0, 1, 1, 4⟩ [⟨1, 0, ⟨0, 0⟩, 0⟩] [⟨0, 1, na⟩, ⟨1, 1, na⟩, ⟨2, 1, na⟩] 1 na (some ⟨w.heap.size, 0, none⟩) (some ⟨B, 0, none⟩) (some ⟨I + 1, 0, none⟩) 4 1 4 X (hA2.own hX).r1 (hRx X hX) (hA2.own hX).r4 (by simp) (by simp)
    simp only [q4'.out] at ht
    simp only [q1'.out] at hs
    simp only [q2'.out] at hn
    simp only [q3'.out] at hf
    unfold cfgv idv at ht hs hn hf
    dsimp only [List.length_cons, List.length_nil] at ht hs hn hf
    have ht := Lib.hid ht
    have hs := Lib.hid hs
    have hn := Lib.hid hn
    have hf := Lib.hid hf
    clear hRx q1' q2' q3' q4'
    obtain ⟨c0, c1, c2, c3, c4⟩ := blk5 hA2.hc; obtain ⟨c5, c6, _, _⟩ := blk2 hA2.hi
    obtain ⟨v0, v1, _, _⟩ := blk2 hvw2
    obtain ⟨g0, g1, _, _⟩ := blk2 hg
    go_wp2_with (first
      | (go_at_call 11; (with_reducible refine (ht.out _ (Below.refl _ _)).mono ?_); clear ht; rintro e w5 ⟨rfl, hb5⟩; have hl6 : Below w5.heap.size w5 (w5.alloc (.cells #[.int .u64 na.hi, .int .u64 na.lo] 28)) := (Below.refl _ w5).alloc (Nat.le_refl _) _; have hb6 := below_call hb5 hb5.size hl6; have hA6 := hA2.own hb6; have f6 := ha_at (w := w5) (o := .cells #[.int .u64 na.hi, .int .u64 na.lo] 28) (k := w5.heap.size) rfl; obtain ⟨d0, d1, d2, d3, d4⟩ := blk5 hA6.hc; obtain ⟨d5, d6, _, _⟩ := blk2 hA6.hi; obtain ⟨v2, v3, _, _⟩ := blk2 (bl_own hb6 hvw2); obtain ⟨g2, g3, _, _⟩ := blk2 (bl_own hb6 hg); obtain ⟨t2, t3, _, _⟩ := blk2 f6)
      | (go_at_call 13; (with_reducible refine (hs.out _ hb6).mono ?_); clear hs; rintro e w7 ⟨rfl, hb7⟩; have hb67 := below_call hb6 hb6.size hb7; have hA7 := hA2.own hb67; obtain ⟨e0, e1, e2, e3, e4⟩ := blk5 hA7.hc; obtain ⟨e5, e6, _, _⟩ := blk2 hA7.hi; obtain ⟨g4, g5, _, _⟩ := blk2 (bl_own hb67 hg); obtain ⟨t4, t5, _, _⟩ := blk2 (bl_own hb7 f6))
      | (go_at_call 13; (with_reducible refine (hn.out _ hb67).mono ?_); clear hn; rintro e w8 ⟨rfl, hb8⟩; have hb68 := below_call hb67 hb67.size hb8; have hA8 := hA2.own hb68; obtain ⟨p0, p1, p2, p3, p4⟩ := blk5 hA8.hc; obtain ⟨p5, p6, _, _⟩ := blk2 hA8.hi; obtain ⟨g6, g7, _, _⟩ := blk2 (bl_own hb68 hg); obtain ⟨t6, t7, _, _⟩ := blk2 (bl_own hb8 (bl_own hb7 f6)))
      | (go_at_call 12; (with_reducible refine (hf.out _ hb68).mono ?_); clear hf; rintro e w9 ⟨rfl, hb9⟩; have hb69 := below_call hb68 hb68.size hb9; have hA9 := hA2.own hb69))
    go_ret
    exact ⟨rfl, hA9.hB⟩
end Go.Proofs.YtdocgemfedohdaaGreat
/-! marigoldlaw09.Few, walked. -/
namespace Go.Proofs.YtdocgemfedohdaaGreat
open Go.RowKit
set_option maxRecDepth 100000 in
set_option maxHeartbeats 1000000 in
theorem fewN_any (c : Cfg) (nl nv : Nat) (A A2 A3 : Option Addr) (k k2 k3 : Nat) (w : World) (h1 : c.W.length ≤ 9223372036854775807) (h2 : nl ≤ 9223372036854775807) (h3 : nv ≤ 9223372036854775807) :
    Calls Tryz.prog 6 #[cfgv A k c, .slice A2 nl k2, .slice A3 nv k3] w fun e w' => e = .returned (.bool (decide (c.W.length ≤ 40 ∧ nl ≤ 20 ∧ nv ≤ 30))) ∧ Below w.heap.size w w' := by
  unfold cfgv
  have hW : ∃ W, w.alloc (.cells #[.slice A c.W.length k, .int .u64 c.seed, .int .i64 c.epoch, .int .i64 c.num, .int .i64 c.den] 25) = W := ⟨_, rfl⟩
  obtain ⟨W, hW⟩ := hW
  have hB : Below w.heap.size w W := by subst hW; exact (Below.refl _ w).alloc (Nat.le_refl _) _
  have hb : W.heap[w.heap.size]? = some (.cells #[.slice A c.W.length k, .int .u64 c.seed, .int .i64 c.epoch, .int .i64 c.num, .int .i64 c.den] 25 (0, 0)) := by subst hW; exact ha_at rfl
  have c0 := blk_cell hb 0
  obtain ⟨n, hn⟩ : ∃ n, c.W.length = n := ⟨_, rfl⟩
  rw [hn] at c0 h1 ⊢
  rw [hn] at hW
  clear hn hb
  go_enter Tryz.func6, Tryz.ntmps6
  go_wp2_with fail
  all_goals
    go_ret
    refine ⟨ret_bool ?_, hB⟩
    rw [Bool.eq_iff_iff]
    simp only [Bool.and_eq_true, decide_eq_true_eq, Bool.false_eq_true, false_iff]
    omega
end Go.Proofs.YtdocgemfedohdaaGreat
/-! What is sure: the laws. -/
namespace Go.Proofs.YtdocgemfedohdaaGreat
/-- No more is for any block than the committee weighs. -/
theorem quickFor_all (c : Cfg) (l : List Blk) (v : List Vote) (s : Int) (y : ID) : quickFor c l v s y ≤ quickAll c s := by
  unfold quickFor quickAll onC
  refine weightC_mono c fun x hx => ?_
  obtain ⟨z, hz, _, rfl⟩ := mem_whoOn.1 hx
  exact (mem_gold.1 hz).2
theorem quickSure_iff {c : Cfg} (h : MayC c) (l : List Blk) (v : List Vote) (s : Int) (y : ID) : quickSure c l v s y = true ↔ quickAll c s * (c.den + 2 * c.num) < 2 * quickFor c l v s y * c.den :=
  sureN_iff h (quickAll_bd c s) (quickFor_bd c l v s y)
theorem mul_le {a b d : Int} (h : a ≤ b) (hd : 0 ≤ d) : a * d ≤ b * d := Int.mul_le_mul_of_nonneg_right h hd
/-- What is sure is more than a half. -/
theorem sure_half {c : Cfg} (h : MayC c) {l : List Blk} {v : List Vote} {s : Int} {y : ID} (hs : quickSure c l v s y = true) : quickAll c s < 2 * quickFor c l v s y := by
  have h1 := (quickSure_iff h l v s y).1 hs
  have ha := (quickAll_bd c s).1
  obtain ⟨_, _, _, h2, h3, h4, h5⟩ := h
  have h6 : quickAll c s * c.den ≤ quickAll c s * (c.den + 2 * c.num) := by
    rw [Int.mul_comm, Int.mul_comm _ (c.den + 2 * c.num)]
    exact mul_le (by omega) ha
  refine Classical.byContradiction fun h7 => ?_
  have h8 : 2 * quickFor c l v s y * c.den ≤ quickAll c s * c.den := mul_le (by omega) (by omega)
  omega
/-- QuickChain: a sure block is under the slot's head. -/
theorem sure_head {c : Cfg} (h : MayC c) {l : List Blk} {v : List Vote} {s : Int} {y : ID} (hs : quickSure c l v s y = true) : y ∈ chain l (goldHead c l v s) := by
  refine gold_half c ?_
  have h1 := sure_half h hs
  have h2 := quickFor_all c l v s zid
  unfold quickFor at h1 h2
  omega
/-- What is under a sure block is sure. -/
theorem sure_low {c : Cfg} (h : MayC c) {l : List Blk} {v : List Vote} {s : Int} {a b : ID} (hs : quickSure c l v s a = true) (hb : b ∈ chain l a) : quickSure c l v s b = true := by
  rw [quickSure_iff h] at hs ⊢
  have h1 : quickFor c l v s a ≤ quickFor c l v s b := onC_low c l _ hb
  have h2 : 2 * quickFor c l v s a * c.den ≤ 2 * quickFor c l v s b * c.den := mul_le (by omega) (by have := h.2.2.2.2.2.1; omega)
  omega
theorem sure_two {c : Cfg} (h : MayC c) {l : List Blk} {v : List Vote} {s : Int} {a b : ID} (ha : quickSure c l v s a = true) (hb : quickSure c l v s b = true) : a ∈ chain l b ∨ b ∈ chain l a :=
  chain_lin (sure_head h ha) (sure_head h hb)
/-- QuickBeta: by one of a half, or more, nothing is. -/
theorem sure_beta {c : Cfg} (h : MayC c) {l : List Blk} {v : List Vote} {s : Int} {y : ID} (hs : quickSure c l v s y = true) : 2 * c.num < c.den := by
  have h1 := (quickSure_iff h l v s y).1 hs
  have h2 := quickFor_all c l v s y
  have ha := (quickAll_bd c s).1
  obtain ⟨_, _, _, h3, h4, h5, h6⟩ := h
  refine Classical.byContradiction fun h7 => ?_
  have h8 : 2 * quickFor c l v s y * c.den ≤ 2 * quickAll c s * c.den := mul_le (by omega) (by omega)
  have h9 : quickAll c s * (2 * c.den) ≤ quickAll c s * (c.den + 2 * c.num) := by
    rw [Int.mul_comm, Int.mul_comm _ (c.den + 2 * c.num)]
    exact mul_le (by omega) ha
  have h10 : 2 * quickAll c s * c.den = quickAll c s * (2 * c.den) := by rw [Int.mul_comm 2, Int.mul_assoc]
  omega
/-- A conf with another Num. -/
def withNum (c : Cfg) (n : Int) : Cfg := ⟨c.W, c.seed, c.epoch, n, c.den⟩
theorem may_num {c : Cfg} (h : MayC c) {n : Int} (h0 : 0 ≤ n) (h1 : n ≤ c.num) : MayC (withNum c n) := by
  obtain ⟨a, b, d, e, f, g, i⟩ := h
  exact ⟨a, b, d, h0, by show n ≤ c.den; omega, g, i⟩
theorem com_num {c : Cfg} (h : MayC c) {n : Int} (h0 : 0 ≤ n) (h1 : n ≤ c.num) (s : Int) : comC (withNum c n) s = comC c s := by
  unfold comC
  have h2 := may_num h h0 h1
  by_cases hs : SlotOk s
  · rw [if_pos ⟨h2, hs⟩, if_pos ⟨h, hs⟩]; rfl
  · rw [if_neg fun e => hs e.2, if_neg fun e => hs e.2]
theorem weight_num {c : Cfg} (h : MayC c) {n : Int} (h0 : 0 ≤ n) (h1 : n ≤ c.num) (w : List Int) : weightC (withNum c n) w = weightC c w := by
  unfold weightC
  rw [if_pos h, if_pos (may_num h h0 h1)]
  rfl
/-- What is sure by a greater beta is by a lesser one. -/
theorem sure_less {c : Cfg} (h : MayC c) {n : Int} (h0 : 0 ≤ n) (h1 : n ≤ c.num) {l : List Blk} {v : List Vote} {s : Int} {y : ID} (hs : quickSure c l v s y = true) : quickSure (withNum c n) l v s y = true := by
  rw [quickSure_iff (may_num h h0 h1)]
  have h2 := (quickSure_iff h l v s y).1 hs
  have e1 : quickAll (withNum c n) s = quickAll c s := by
    unfold quickAll
    rw [com_num h h0 h1, weight_num h h0 h1]
  have e2 : quickFor (withNum c n) l v s y = quickFor c l v s y := by
    unfold quickFor onC goldOf
    rw [com_num h h0 h1, weight_num h h0 h1]
  rw [e1, e2]
  show quickAll c s * (c.den + 2 * n) < 2 * quickFor c l v s y * c.den
  have ha := (quickAll_bd c s).1
  have h9 : quickAll c s * (c.den + 2 * n) ≤ quickAll c s * (c.den + 2 * c.num) := by
    rw [Int.mul_comm, Int.mul_comm _ (c.den + 2 * c.num)]
    exact mul_le (by omega) ha
  omega
/-- QuickNone. -/
theorem sure_zero {c : Cfg} (h : MayC c) {l : List Blk} {v : List Vote} {s : Int} {y : ID} (hn : quickFor c l v s y ≤ 0) : quickSure c l v s y = false := by
  cases hs : quickSure c l v s y with
  | false => rfl
  | true =>
    have h1 := sure_half h hs
    have := (quickAll_bd c s).1
    omega
theorem sure_novotes {c : Cfg} (h : MayC c) (l : List Blk) (s : Int) (y : ID) : quickSure c l [] s y = false := by
  refine sure_zero h ?_
  have : goldOf c [] s = [] := List.eq_nil_of_length_eq_zero (by have := goldOf_len c [] s; simpa using this)
  unfold quickFor
  rw [this]
  show weightC c [] ≤ 0
  rw [weightC_nil]
  exact Int.le_refl _
theorem topOf_none {su : ID → Bool} (h : ∀ y, su y = false) : ∀ r, topOf su r = (false, zid)
  | [] => rfl
  | [_] => rfl
  | x :: y :: r => by
    show (if su x then (true, x) else topOf su (y :: r)) = _
    rw [h x]
    exact topOf_none h (y :: r)
theorem sure_nothing {c : Cfg} (h : MayC c) {l : List Blk} {v : List Vote} {s : Int} {y : ID} (ha : ¬ 0 < quickAll c s) : quickSure c l v s y = false :=
  sure_zero h (by have := quickFor_all c l v s y; omega)
theorem topOf_sure {su : ID → Bool} {t : ID} : ∀ {r : List ID}, topOf su r = (true, t) → su t = true
  | [], h => by cases h
  | [_], h => by cases h
  | x :: y :: r, h => by
    have h' : (if su x then (true, x) else topOf su (y :: r)) = (true, t) := h
    by_cases e : su x = true
    · rw [if_pos e] at h'
      injection h' with _ h2
      rw [← h2]; exact e
    · rw [if_neg e] at h'
      exact topOf_sure h'
end Go.Proofs.YtdocgemfedohdaaGreat
/-! All of a committee for one block: the plain law. -/
namespace Go.Proofs.YtdocgemfedohdaaGreat
/-- The votes of all of a committee for one block. -/
def votesAll (cm : List Int) (s : Int) (x : ID) : List Vote := cm.map fun i => ⟨i, s, x⟩
theorem mem_votesAll {cm : List Int} {s : Int} {x : ID} {v : Vote} : v ∈ votesAll cm s x ↔ v.frm ∈ cm ∧ v.slot = s ∧ v.head = x := by
  unfold votesAll
  rw [List.mem_map]
  constructor
  · rintro ⟨i, hi, rfl⟩
    exact ⟨hi, rfl, rfl⟩
  · rintro ⟨h1, h2, h3⟩
    refine ⟨v.frm, h1, ?_⟩
    cases v
    subst h2 h3
    rfl
theorem for_all (c : Cfg) (l : List Blk) (s : Int) {x y : ID} (hy : y ∈ chain l x) : quickFor c l (votesAll (comC c s) s x) s y = quickAll c s := by
  refine Int.le_antisymm (quickFor_all c l _ s y) ?_
  unfold quickFor quickAll onC
  refine weightC_mono c fun i hi => ?_
  refine mem_whoOn.2 ⟨⟨i, s, x⟩, mem_gold.2 ⟨⟨mem_votesAll.2 ⟨hi, rfl, rfl⟩, rfl, ?_⟩, hi⟩, hy, rfl⟩
  rintro ⟨a, ha, b, hb, _, _, _, _, hn⟩
  exact hn ((mem_votesAll.1 ha).2.2.trans (mem_votesAll.1 hb).2.2.symm)
theorem sureN_self {c : Cfg} (h : MayC c) {n : Int} (hn : 0 ≤ n ∧ n ≤ 13194139533312) : sureN c n n = decide (0 < n ∧ 2 * c.num < c.den) := by
  rw [Bool.eq_iff_iff, sureN_iff h hn hn, decide_eq_true_eq]
  obtain ⟨_, _, _, h3, h4, h5, h6⟩ := h
  have e1 : 2 * n * c.den = n * (2 * c.den) := by rw [Int.mul_comm 2, Int.mul_assoc]
  rw [e1]
  constructor
  · intro h7
    have h8 : 0 < n := Classical.byContradiction fun h9 => by
      have : n = 0 := by omega
      subst this
      omega
    refine ⟨h8, Classical.byContradiction fun h9 => ?_⟩
    have h10 : n * (2 * c.den) ≤ n * (c.den + 2 * c.num) := Int.mul_le_mul_of_nonneg_left (by omega) hn.1
    omega
  · rintro ⟨h8, h9⟩
    exact Int.mul_lt_mul_of_pos_left (by omega) h8
theorem sure_all {c : Cfg} (h : MayC c) (l : List Blk) (s : Int) {x y : ID} (hy : y ∈ chain l x) : quickSure c l (votesAll (comC c s) s x) s y = decide (0 < quickAll c s ∧ 2 * c.num < c.den) := by
  unfold quickSure
  rw [for_all c l s hy]
  exact sureN_self h (quickAll_bd c s)
theorem topOf_no {su : ID → Bool} : ∀ {r : List ID}, (∀ y ∈ r, su y = false) → topOf su r = (false, zid)
  | [], _ => rfl
  | [_], _ => rfl
  | x :: y :: r, h => by
    show (if su x then (true, x) else topOf su (y :: r)) = _
    rw [h x (by simp)]
    exact topOf_no fun z hz => h z (by simp only [List.mem_cons] at hz ⊢; exact .inr hz)
/-- What Top answers where all are for one block. -/
theorem top_all {c : Cfg} (h : MayC c) {l : List Blk} {s : Int} {x : ID} (hx : chain l x ≠ []) :
    quickTop c l (votesAll (comC c s) s x) s x = (if decide (0 < quickAll c s ∧ 2 * c.num < c.den) && decide (x ≠ zid) then (true, x) else (false, zid)) := by
  unfold quickTop
  have hs := fun y (hy : y ∈ chain l x) => sure_all h l s hy
  cases hb : decide (0 < quickAll c s ∧ 2 * c.num < c.den) with
  | false =>
    rw [hb] at hs
    exact topOf_no hs
  | true =>
    rw [hb] at hs
    have ht : Tree l := Classical.byContradiction fun hn => hx (chain_notree hn x)
    rcases known_or (l := l) x with rfl | ⟨n, hlt, rfl⟩ | ⟨h', _⟩
    · rw [chain_zid ht]
      simp [topOf]
    · have h1 := chain_cons ht hlt
      have h4 := hs (nameOf l[n]) (by rw [h1]; simp)
      have h3 : nameOf l[n] ≠ zid := (ht n hlt).1
      obtain ⟨r, h5⟩ := chain_head ht (par_mem ht hlt)
      rw [h1, h5]
      show (if quickSure c l (votesAll (comC c s) s (nameOf l[n])) s (nameOf l[n]) then _ else _) = _
      rw [h4, decide_eq_true h3]
      rfl
    · exact absurd h' hx
end Go.Proofs.YtdocgemfedohdaaGreat
