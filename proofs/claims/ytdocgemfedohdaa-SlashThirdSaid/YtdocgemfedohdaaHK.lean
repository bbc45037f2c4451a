/- HK: several texts in one. -/
import Derived.Test.YtdocgemfedohdaaHI
import Derived.Test.YtdocgemfedohdaaHJ
import Derived.Test.YtdocgemfedohdaaHG
import Derived.Test.YtdocgemfedohdaaHA
/-! The walks of marigoldref06.Chain and Under. -/
namespace Go.Proofs.Ytdocgemfedohdaa
open Go.RowKit
/-- What holds at the loop's head: where one is, and what is told already. -/
def ChAt (l : List Blk) (id x : ID) (j : Int) (acc : List ID) : Prop := idxI (names l) x = j ∧ (x = zid ∨ ∃ b ∈ l, nameOf b = x) ∧ acc ++ (chain l x).tail = chain l id
theorem ChAt.start {l : List Blk} {id : ID} {j : Int} (ht : Tree l) (hj : idxI (names l) id = j) (h : ¬ (j < 0 ∧ id ≠ zid)) : ChAt l id id j [id] := by
  have hk : id = zid ∨ ∃ b ∈ l, nameOf b = id := by
    rcases idx_names (l := l) (x := id) with ⟨h1, _⟩ | ⟨m, _, hml, hmn⟩
    · left
      exact Classical.byContradiction fun hne => h ⟨by omega, hne⟩
    · exact .inr ⟨_, List.getElem_mem hml, hmn⟩
  obtain ⟨r, hr⟩ := chain_head ht hk
  exact ⟨hj, hk, by rw [hr]; rfl⟩
theorem ChAt.done {l : List Blk} {id x : ID} {j : Int} {acc : List ID} (ht : Tree l) (h : ChAt l id x j acc) (hj : j < 0) : acc = chain l id := by
  obtain ⟨h1, h2, h3⟩ := h
  have hx : x = zid := by
    rcases h2 with e | ⟨b, hb, e⟩
    · exact e
    · rcases idx_names (l := l) (x := x) with ⟨_, hno⟩ | ⟨n, hn, _⟩
      · exact absurd e (hno b hb)
      · omega
  subst hx
  rw [chain_zid ht] at h3
  simpa using h3
theorem ChAt.step {l : List Blk} {id x : ID} {n : Nat} {acc : List ID} (ht : Tree l) (h : ChAt l id x n acc) : ∃ hn : n < l.length, ChAt l id l[n].par (idxI (names l) l[n].par) (acc ++ [l[n].par]) := by
  obtain ⟨h1, _, h3⟩ := h
  rcases idx_names (l := l) (x := x) with ⟨hi, _⟩ | ⟨m, hm, hml, hnm⟩
  · omega
  · have : m = n := by omega
    subst this
    refine ⟨hml, rfl, par_mem ht hml, ?_⟩
    rw [← h3, ← hnm, chain_cons ht hml]
    obtain ⟨r, hr⟩ := chain_head ht (par_mem ht hml)
    rw [hr]
    simp
theorem ChAt.len {l : List Blk} {id x : ID} {j : Int} {acc : List ID} (h : ChAt l id x j acc) : acc.length ≤ l.length + 1 := by
  have h1 := congrArg List.length h.2.2
  have h2 := chain_bound (l := l) id
  simp only [List.length_append] at h1
  omega
theorem chain_bad {l : List Blk} {id : ID} {j : Int} (hj : idxI (names l) id = j) (h : j < 0 ∧ id ≠ zid) : chain l id = [] :=
  chain_unknown h.2 (by
    rcases idx_names (l := l) (x := id) with ⟨_, h'⟩ | ⟨m, h', _⟩
    · exact h'
    · omega)
set_option maxRecDepth 100000 in
set_option maxHeartbeats 4000000 in
theorem rchain_any (l : List Blk) (id : ID) (A : Option Addr) (c : Nat) (w : World) (hr : Rd 5 encBlk w A l) (hok : ∀ b ∈ l, b.Ok) (hl : l.length ≤ 100000) :
    Calls Try.prog 58 #[.slice A l.length c, idv id] w fun e w' => ∃ v, e = .returned v ∧ Own w' w.heap.size 29 2 encID v (chain l id) ∧ Below w.heap.size w w' := by
  have hm := hr.1
  have hun := Try.underlying67
  have hnames := fun V (hV : Below w.heap.size w V) => rnames_any l A c V (hr.below hV) hok hl
  have hmay := fun V (hV : Below w.heap.size w V) N d hn hd => rmay_any l A N c d V (hr.below hV) hn hd hl
  have hnl : (names l).length = l.length := by simp [names]
  have hat := fun (x : ID) N d (V : World) (hn : Rd 2 encID V N (names l)) => rat_any x (names l) N d V hn
  rw [hnl] at hat
  unfold idv at *
  have hW : ∃ W, w.alloc (.cells #[.int .u64 id.hi, .int .u64 id.lo] 29) = W := ⟨_, rfl⟩
  obtain ⟨W, hW⟩ := hW
  have hB : Below w.heap.size w W := by subst hW; exact (Below.refl _ w).alloc (Nat.le_refl _) _
  have b0 : W.heap[w.heap.size]? = some (.cells #[.int .u64 id.hi, .int .u64 id.lo] 29 (0, 0)) := by subst hW; exact ha_at rfl
  have nz := neq_idz id
  have hat0 := hat id
  obtain ⟨j, hj⟩ : ∃ j, idxI (names l) id = j := ⟨_, rfl⟩
  rw [hj] at hat0
  have hlow := idx_low (names l) id
  have hup := idx_up (l := l) (x := id)
  rw [hj] at hlow hup
  by_cases ht : Tree l
  · have hmb : mayB l = true := by simp [mayB, ht]
    rw [hmb] at hmay
    by_cases hbad : j < 0 ∧ id ≠ zid
    · have hres := Lib.hid (chain_bad hj hbad)
      have hz : decide (id = zid) = false := by simpa using hbad.2
      have hz1 : decide (j < 0) = true := by simpa using hbad.1
      rw [hz] at nz
      clear hbad hz hmb ht hj hat
      go_enter Try.func58, Try.ntmps58
      go_wp2_with (first
        | (go_at_call 56; refine (hnames _ hB).mono ?_; clear hnames; rintro e w1 ⟨v, rfl, ho, hb1⟩; have hB1 := below_call hB hB.size hb1; have b1 := bl_own hb1 b0; obtain ⟨N, d, hv, hd, hR⟩ := ho.rdc encID_len; rw [hnl] at hv hd; subst hv)
        | (go_at_call 55; refine (hmay _ hB1 N d hR hd).mono ?_; clear hmay; rintro e w2 ⟨rfl, hb2⟩; have hB2 := below_call hB1 hB1.size hb2; have b2 := bl_own hb2 b1; have hR2 := hR.below hb2; obtain ⟨p0, p1, _, _⟩ := blk2 b2)
        | (go_at_call 57; refine (hat0 N d _ hR2).mono ?_; clear hat0; rintro e w3 ⟨rfl, hb3⟩; have hB3 := below_call hB2 hB2.size hb3; have b3 := bl_own hb3 b2; obtain ⟨q0, q1, _, _⟩ := blk2 b3))
      go_ret
      exact ⟨_, rfl, by rw [hres.out]; exact Own.nil _ _ _ _ _, hB3⟩
    · have hU' := Lib.hid (ChAt.start ht hj hbad)
      have hcases : (decide (j < 0) = true ∧ decide (id = zid) = true) ∨ decide (j < 0) = false := by
        by_cases h : j < 0
        · exact .inl ⟨by simpa using h, by simpa using Classical.byContradiction fun hne => hbad ⟨h, hne⟩⟩
        · exact .inr (by simpa using h)
      clear hbad hmb hj
      rcases hcases with ⟨hz1, hz⟩ | hz1
      all_goals
        try rw [hz] at nz
        go_enter Try.func58, Try.ntmps58
        go_wp2_with (first
          | (go_at_call 56; refine (hnames _ hB).mono ?_; clear hnames; rintro e w1 ⟨v, rfl, ho, hb1⟩; have hB1 := below_call hB hB.size hb1; have b1 := bl_own hb1 b0; obtain ⟨N, d, hv, hd, hR⟩ := ho.rdc encID_len; rw [hnl] at hv hd; subst hv; have hNb : ∀ a, N = some a → W.heap.size ≤ a.block ∧ a.block < w1.heap.size := fun a e => ho.base a.block (by subst e; rfl))
          | (go_at_call 55; refine (hmay _ hB1 N d hR hd).mono ?_; clear hmay; rintro e w2 ⟨rfl, hb2⟩; have hB2 := below_call hB1 hB1.size hb2; have b2 := bl_own hb2 b1; have hR2 := hR.below hb2; obtain ⟨p0, p1, _, _⟩ := blk2 b2)
          | (go_at_call 57; refine (hat0 N d _ hR2).mono ?_; clear hat0; rintro e w3 ⟨rfl, hb3⟩; have hB3 := below_call hB2 hB2.size hb3; have b3 := bl_own hb3 b2; obtain ⟨q0, q1, _, _⟩ := blk2 b3; have hR3 := hR2.below hb3))
        have hNb3 : ∀ a, N = some a → w.heap.size < a.block ∧ a.block < w3.heap.size := fun a e => by have := hNb a e; have := hb2.size; have := hb3.size; have := lt_of_block b0; omega
        clear hNb
        have hlay : Below w3.heap.size w3 (w3.alloc (.cells #[.int .u64 id.hi, .int .u64 id.lo] 29)) := (Below.refl _ w3).alloc (Nat.le_refl _) _
        have ho4 : Own (w3.alloc (.cells #[.int .u64 id.hi, .int .u64 id.lo] 29)) w3.heap.size 29 2 encID (.slice (some ⟨w3.heap.size, 0, none⟩) 1 1) [id] := own_new1 (ha_at rfl) encID_len rfl (Nat.le_refl _)
        have hB4 := below_call hB3 hB3.size hlay
        have b4 := bl_own hlay b3
        have hR4 := hR3.below hlay
        have hlt3 := lt_of_block b3
        have hs4 : w3.heap.size ≤ (w3.alloc (.cells #[.int .u64 id.hi, .int .u64 id.lo] 29)).heap.size := hlay.size
        generalize w3.alloc (.cells #[.int .u64 id.hi, .int .u64 id.lo] 29) = w4 at ho4 hB4 b4 hR4 hs4 ⊢
        clear hlay hb1 hb2 hb3 hB1 hB2 b1 b2 b3 p0 p1 q0 q1 hR hR2 hR3 ho nz hz1 b0 hB hB3
        go_loopw [7, 8] (fun i v wr => ∃ (x : ID) (j : Int) (acc : List ID), i = .int .i64 j ∧ -1 ≤ j ∧ j < (l.length : Int) + 1 ∧ Hid (ChAt l id x j acc) ∧ acc.length ≤ l.length + 1 ∧ Own wr w3.heap.size 29 2 encID v acc ∧ wr.heap[w.heap.size]? = some (.cells #[.int .u64 x.hi, .int .u64 x.lo] 29 (0, 0)) ∧ Rd 2 encID wr N (names l) ∧ w3.heap.size ≤ wr.heap.size ∧ Below w.heap.size w wr) (fun i _ _ => (intOf i + 1).toNat)
        case atStart => exact ⟨id, j, [id], rfl, hlow, hup, hU', by simp, ho4, b4, hR4, hs4, hB4⟩
        case round =>
          obtain ⟨x, j', acc, rfl, hlo', hup', hUx, hlen, hown, hbx, hRN, hsr, hBr⟩ := hrel
          obtain ⟨x0, x1, fx0, fx1⟩ := blk2 hbx
          have hvb : ∀ k, u8.ownBlock = some k → w3.heap.size ≤ k := fun k hk => (hown.base k hk).1
          clear hlow hup hU' b4 hR4 hB4 ho4
          by_cases hj0 : j' < 0
          · have hd := Lib.hid (hUx.out.done ht hj0)
            have hz2 : decide (0 ≤ j') = false := by simpa using hj0
            clear hj0
            go_wp2_with fail
            go_ret
            exact ⟨_, rfl, by rw [← hd.out]; exact hown.mono (by omega), hBr⟩
          · have hz2 : decide (0 ≤ j') = true := by simpa using hj0
            obtain ⟨n, rfl⟩ : ∃ n : Nat, j' = n := ⟨j'.toNat, by omega⟩
            obtain ⟨hnl', hst⟩ := hUx.out.step ht
            have hpi := par_idx ht hnl'
            have hlo2 := idx_low (names l) l[n].par
            have hup2 := idx_up (l := l) (x := l[n].par)
            have hlen2 := hst.len
            have hat2 := hat l[n].par
            obtain ⟨j2, hj2⟩ : ∃ j, idxI (names l) l[n].par = j := ⟨_, rfl⟩
            rw [hj2] at hst hpi hlo2 hup2 hat2
            have hst' := Lib.hid hst
            obtain ⟨b', o, rfl, hbo, d0, d1, d2, d3, d4⟩ := (hr.below hBr).atBlk hnl'
            obtain ⟨p, hp⟩ : ∃ p, l[n].par = p := ⟨_, rfl⟩
            rw [hp] at hst' hat2 d2 d3
            obtain ⟨hs1, hs2⟩ := set2 hbx (.int .u64 p.hi) (.int .u64 p.lo)
            clear hst hj2 hp hUx hj0
            have hlt0 := lt_of_block hbx
            obtain ⟨W2, hW2⟩ : ∃ W2, (wr.setCell ⟨w.heap.size, 0, none⟩ (.int .u64 p.hi)).setCell ⟨w.heap.size, 1, none⟩ (.int .u64 p.lo) = W2 := ⟨_, rfl⟩
            rw [hW2] at hs1 hs2
            have hB2 := below_step hBr hBr.size hs2 (by simp)
            have hR2 := hRN.grown hs2 (fun a e => by have := hNb3 a e; simp; omega)
            have ho2 := hown.grown hs2 (.inr (fun e => by have := hvb _ e; omega))
            obtain ⟨y0, y1, _, _⟩ := blk2 hs1
            have hlay2 : Below W2.heap.size W2 (W2.alloc (.cells #[.int .u64 p.hi, .int .u64 p.lo] 29)) := (Below.refl _ W2).alloc (Nat.le_refl _) _
            have ho3 := ho2.below hlay2
            have hB3 := below_call hB2 hB2.size hlay2
            have hR3 := hR2.below hlay2
            have hx3 := bl_own hlay2 hs1
            have hs2s := hs2.size
            have hsl2 := hlay2.size
            have hvb2 := lt_of_block hx3
            go_wp2_with (first
              | (rw [hW2]; fail)
              | (at_builtin; refine wp_append1 rfl rfl hun infoID rfl (by decide) encID_len encID_one rfl ho3 (g := W2.heap.size) (c := 1) rfl (y := p) (ha_at rfl) rfl (by omega) (by unfold maxLen; omega) (by omega) ?_; intro v' w8 ho8 hg8 hat8; have hx8 := grown_own hg8 hx3 (fun e => by have := hvb _ e.symm; omega); obtain ⟨z0, z1, _, _⟩ := blk2 hx8; have hR8 := hR3.grown hg8 (fun a e e2 => by have := hNb3 a e; have := hvb _ e2.symm; omega); have hB8 := below_step hB3 hB3.size hg8 (fun k hk => by have := hvb k hk; omega))
              | (go_at_call 57; refine (hat2 N d _ hR8).mono ?_; clear hat2; rintro e w9 ⟨rfl, hb9⟩; have hB9 := below_call hB8 hB8.size hb9))
            go_roundw
            case rel => exact ⟨p, j2, acc ++ [p], rfl, hlo2, hup2, hst', by simpa using hlen2, ho8.below hb9, bl_own hb9 hx8, hR8.below hb9, by have := hg8.size; have := hb9.size; omega, hB9⟩
            case measure => simp [intOf]; omega
  · have hmb : mayB l = false := by simp [mayB, ht]
    rw [hmb] at hmay
    have hk := Lib.hid (chain_notree ht id)
    clear hmb ht
    go_enter Try.func58, Try.ntmps58
    go_wp2_with (first
      | (go_at_call 56; refine (hnames _ hB).mono ?_; clear hnames; rintro e w1 ⟨v, rfl, ho, hb1⟩; have hB1 := below_call hB hB.size hb1; have b1 := bl_own hb1 b0; obtain ⟨N, d, hv, hd, hR⟩ := ho.rdc encID_len; rw [hnl] at hv hd; subst hv)
      | (go_at_call 55; refine (hmay _ hB1 N d hR hd).mono ?_; clear hmay; rintro e w2 ⟨rfl, hb2⟩; have hB2 := below_call hB1 hB1.size hb2; have b2 := bl_own hb2 b1; have hR2 := hR.below hb2; obtain ⟨p0, p1, _, _⟩ := blk2 b2)
      | (go_at_call 57; refine (hat0 N d _ hR2).mono ?_; clear hat0; rintro e w3 ⟨rfl, hb3⟩; have hB3 := below_call hB2 hB2.size hb3; have b3 := bl_own hb3 b2))
    go_ret
    exact ⟨_, rfl, by rw [hk.out]; exact Own.nil _ _ _ _ _, hB3⟩
set_option maxRecDepth 100000 in
set_option maxHeartbeats 1000000 in
theorem runder_any (l : List Blk) (low id : ID) (A : Option Addr) (c : Nat) (w : World) (hr : Rd 5 encBlk w A l) (hok : ∀ b ∈ l, b.Ok) (hl : l.length ≤ 100000) :
    Calls Try.prog 31 #[.slice A l.length c, idv low, idv id] w fun e w' => e = .returned (.bool (decide (low ∈ chain l id))) ∧ Below w.heap.size w w' := by
  have hch := fun V (hV : Below w.heap.size w V) => rchain_any l id A c V (hr.below hV) hok hl
  have hat := fun N d (V : World) (hn : Rd 2 encID V N (chain l id)) => rat_any low (chain l id) N d V hn
  have him := Lib.hid (idx_mem (chain l id) low)
  obtain ⟨q, hq⟩ : ∃ q, chain l id = q := ⟨_, rfl⟩
  rw [hq] at hch hat him ⊢
  clear hq
  obtain ⟨j, hj⟩ : ∃ j, idxI q low = j := ⟨_, rfl⟩
  rw [hj] at hat him
  clear hj
  unfold idv at *
  have hW : ∃ W, (w.alloc (.cells #[.int .u64 low.hi, .int .u64 low.lo] 29)).alloc (.cells #[.int .u64 id.hi, .int .u64 id.lo] 29) = W := ⟨_, rfl⟩
  obtain ⟨W, hW⟩ := hW
  have hB : Below w.heap.size w W := by subst hW; exact ((Below.refl _ w).alloc (Nat.le_refl _) _).alloc (by simp) _
  have b0 : W.heap[w.heap.size]? = some (.cells #[.int .u64 low.hi, .int .u64 low.lo] 29 (0, 0)) := by subst hW; exact ha_lt (ha_at rfl)
  have b1 : W.heap[w.heap.size + 1]? = some (.cells #[.int .u64 id.hi, .int .u64 id.lo] 29 (0, 0)) := by subst hW; exact ha_at (by simp)
  obtain ⟨c0, c1, _, _⟩ := blk2 b0
  obtain ⟨c2, c3, _, _⟩ := blk2 b1
  go_enter Try.func31, Try.ntmps31
  go_wp2_with fail
  go_region_held3 (fun W' => W'.cell? ⟨w.heap.size, 0, none⟩ = some (.int .u64 low.hi) ∧ W'.cell? ⟨w.heap.size, 1, none⟩ = some (.int .u64 low.lo) ∧ W'.cell? ⟨w.heap.size + 1, 0, none⟩ = some (.int .u64 id.hi) ∧ W'.cell? ⟨w.heap.size + 1, 1, none⟩ = some (.int .u64 id.lo)) (first | exact ⟨c0, c1, c2, c3⟩ | exact ⟨e1, e2, e3, e4⟩ | exact ⟨g1, g2, g3, g4⟩) ((first
      | (go_at_call 58; refine (hch _ hB.drew).mono ?_; rintro e w1 ⟨u, rfl, hown, hk1⟩; obtain ⟨A', c', rfl, hR⟩ := hown.rd encID_len; have k0 := bl_own hk1 b0; have k1 := bl_own hk1 b1; obtain ⟨e1, e2, _, _⟩ := blk2 k0; obtain ⟨e3, e4, _, _⟩ := blk2 k1)
      | (go_at_call 57; refine (hat _ _ _ hR).mono ?_; rintro e w2 ⟨rfl, hk2⟩; obtain ⟨g1, g2, _, _⟩ := blk2 (bl_own hk2 k0); obtain ⟨g3, g4, _, _⟩ := blk2 (bl_own hk2 k1))))
  go_wp2
  go_ret
  exact ⟨ret_bool him.out, below_call (below_call hB.drew hB.size hk1) (Nat.le_trans hB.size hk1.size) hk2⟩
end Go.Proofs.Ytdocgemfedohdaa
/-! Whether a link may be, walked: ffg.May, marigoldref11.May. -/
namespace Go.Proofs.Ytdocgemfedohdaa
open Go.RowKit
theorem mayL_dec {c : Cfg} (h : MayC c) (l : List Blk) (x : Lnk) :
    decide (MayL c l x) = (decide (0 ≤ x.frm ∧ x.frm < c.W.length ∧ 0 ≤ x.src.epoch ∧ x.src.epoch < x.tgt.epoch ∧ x.tgt.epoch ≤ 1048576) && decide (x.src.root ∈ chain l x.tgt.root)) := by
  rw [Bool.eq_iff_iff, Bool.and_eq_true, decide_eq_true_eq, decide_eq_true_eq, decide_eq_true_eq]
  constructor
  · rintro ⟨_, h1, h2, h3, h4, h5, h6⟩; exact ⟨⟨h1, h2, h3, h4, h5⟩, h6⟩
  · rintro ⟨⟨h1, h2, h3, h4, h5⟩, h6⟩; exact ⟨h, h1, h2, h3, h4, h5, h6⟩
set_option maxRecDepth 100000 in
set_option maxHeartbeats 2000000 in
theorem fmay_any (c : Cfg) (l : List Blk) (x : Lnk) (A A2 : Option Addr) (k k2 : Nat) (w : World) (hr : Rd 1 encI w A c.W) (hr2 : Rd 5 encBlk w A2 l) (hl : l.length ≤ 100000) :
    Calls Try.prog 20 #[cfgv A k c, .slice A2 l.length k2, lnkv x] w fun e w' => e = .returned (.bool (decide (MayL c l x))) ∧ Below w.heap.size w w' := by
  have hm := hr.1
  have hm2 := hr2.1
  have hmay := fun W (hW : Below w.heap.size w W) => dmay_any c A k W (hr.below hW)
  have hund := fun W (hW : Below w.heap.size w W) => under_any l x.src.root x.tgt.root A2 k2 W (hr2.below hW) hl
  obtain ⟨W, hW⟩ : ∃ W, (w.alloc (.cells #[.slice A c.W.length k, .int .u64 c.seed, .int .i64 c.epoch, .int .i64 c.num, .int .i64 c.den] 25)).alloc (.cells #[.int .i64 x.frm, .int .i64 x.src.epoch, .int .u64 x.src.root.hi, .int .u64 x.src.root.lo, .int .i64 x.tgt.epoch, .int .u64 x.tgt.root.hi, .int .u64 x.tgt.root.lo] 33) = W := ⟨_, rfl⟩
  have hB : Below w.heap.size w W := by subst hW; exact ((Below.refl _ w).alloc (Nat.le_refl _) _).alloc (by simp) _
  have b0 : W.heap[w.heap.size]? = some (.cells #[.slice A c.W.length k, .int .u64 c.seed, .int .i64 c.epoch, .int .i64 c.num, .int .i64 c.den] 25 (0, 0)) := by subst hW; exact ha_lt (ha_at rfl)
  have b1 : W.heap[w.heap.size + 1]? = some (.cells #[.int .i64 x.frm, .int .i64 x.src.epoch, .int .u64 x.src.root.hi, .int .u64 x.src.root.lo, .int .i64 x.tgt.epoch, .int .u64 x.tgt.root.hi, .int .u64 x.tgt.root.lo] 33 (0, 0)) := by subst hW; exact ha_at (by simp)
  obtain ⟨c0, c1, c2, c3, c4⟩ := blk5 b0
  obtain ⟨d0, d1, d2, d3, d4, d5, d6⟩ := blkL b1
  by_cases hmc : MayC c
  · have hres := Lib.hid (mayL_dec hmc l x)
    rw [decide_eq_true hmc] at hmay
    obtain ⟨r, hrr⟩ : ∃ r, decide (x.src.root ∈ chain l x.tgt.root) = r := ⟨_, rfl⟩
    rw [hrr] at hres hund
    obtain ⟨q, hq⟩ : ∃ q, decide (MayL c l x) = q := ⟨_, rfl⟩
    rw [hq] at hres ⊢
    clear hmc hrr hq
    unfold cfgv lnkv idv at *
    go_enter Try.func20, Try.ntmps20
    go_wp2_with (first
      | (go_at_call 34; (with_reducible refine (hmay _ hB).mono ?_); clear hmay; rintro e w1 ⟨rfl, hb1⟩; have hB1 := below_call hB hB.size hb1; obtain ⟨e0, e1, e2, e3, e4⟩ := blk5 (bl_own hb1 b0); obtain ⟨f0, f1, f2, f3, f4, f5, f6⟩ := blkL (bl_own hb1 b1))
      | (go_at_call 23; (with_reducible refine (hund _ hB1).mono ?_); clear hund; rintro e w2 ⟨rfl, hb2⟩; have hB2 := below_call hB1 hB1.size hb2))
    all_goals go_ret
    all_goals
      first
        | (refine ⟨ret_bool ?_, hB2⟩
           rw [hres.out, decide_eq_true (by omega), Bool.true_and])
        | (refine ⟨ret_bool ?_, hB1⟩
           rw [hres.out, decide_eq_false (by omega), Bool.false_and])
  · rw [decide_eq_false hmc] at hmay
    have hres := Lib.hid (show decide (MayL c l x) = false from decide_eq_false (fun h => hmc h.1))
    clear hmc hund
    unfold cfgv lnkv at *
    go_enter Try.func20, Try.ntmps20
    go_wp2_with (go_at_call 34; (with_reducible refine (hmay _ hB).mono ?_); clear hmay; rintro e w1 ⟨rfl, hb1⟩; have hB1 := below_call hB hB.size hb1; obtain ⟨e0, e1, e2, e3, e4⟩ := blk5 (bl_own hb1 b0); obtain ⟨f0, f1, f2, f3, f4, f5, f6⟩ := blkL (bl_own hb1 b1))
    go_ret
    exact ⟨ret_bool hres.out.symm, hB1⟩
set_option maxRecDepth 100000 in
set_option maxHeartbeats 1000000 in
theorem rtrmay_any (l : List Blk) (A : Option Addr) (c : Nat) (w : World) (hr : Rd 5 encBlk w A l) (hok : ∀ b ∈ l, b.Ok) (hl : l.length ≤ 100000) :
    Calls Try.prog 30 #[.slice A l.length c] w fun e w' => e = .returned (.bool (mayB l)) ∧ Below w.heap.size w w' := by
  have hnames := rnames_any l A c w hr hok hl
  have hnl : (names l).length = l.length := by simp [names]
  have hmay := fun N d V (hV : Below w.heap.size w V) hn hd => rmay_any l A N c d V (hr.below hV) hn hd hl
  go_enter Try.func30, Try.ntmps30
  go_wp2_with (first
    | (go_at_call 56; refine hnames.mono ?_; clear hnames; rintro e w1 ⟨v, rfl, ho, hb1⟩; obtain ⟨N, d, hv, hR, hd⟩ := (show ∃ A c, v = .slice A (names l).length c ∧ Rd 2 encID w1 A (names l) ∧ (names l).length ≤ c from by obtain ⟨A, c, h1, h2, h3⟩ := ho.rdc encID_len; exact ⟨A, c, h1, h3, h2⟩); rw [hnl] at hv hd; subst hv)
    | (go_at_call 55; refine (hmay N d w1 hb1 hR hd).mono ?_; clear hmay; rintro e w2 ⟨rfl, hb2⟩; have hB2 := below_call hb1 hb1.size hb2))
  go_ret
  exact ⟨rfl, hB2⟩
set_option maxRecDepth 100000 in
set_option maxHeartbeats 2000000 in
theorem rfmay_any (c : Cfg) (l : List Blk) (x : Lnk) (A A2 : Option Addr) (k k2 : Nat) (w : World) (hr : Rd 1 encI w A c.W) (hr2 : Rd 5 encBlk w A2 l) (hok : ∀ b ∈ l, b.Ok) (hl : l.length ≤ 100000) :
    Calls Try.prog 13 #[cfgv A k c, .slice A2 l.length k2, lnkv x] w fun e w' => e = .returned (.bool (decide (MayL c l x))) ∧ Below w.heap.size w w' := by
  have hm := hr.1
  have hm2 := hr2.1
  have hmay := fun W (hW : Below w.heap.size w W) => rcmay_any c A k W (hr.below hW)
  have htm := fun W (hW : Below w.heap.size w W) => rtrmay_any l A2 k2 W (hr2.below hW) hok hl
  have hund := fun W (hW : Below w.heap.size w W) => runder_any l x.src.root x.tgt.root A2 k2 W (hr2.below hW) hok hl
  obtain ⟨W, hW⟩ : ∃ W, (w.alloc (.cells #[.slice A c.W.length k, .int .u64 c.seed, .int .i64 c.epoch, .int .i64 c.num, .int .i64 c.den] 25)).alloc (.cells #[.int .i64 x.frm, .int .i64 x.src.epoch, .int .u64 x.src.root.hi, .int .u64 x.src.root.lo, .int .i64 x.tgt.epoch, .int .u64 x.tgt.root.hi, .int .u64 x.tgt.root.lo] 33) = W := ⟨_, rfl⟩
  have hB : Below w.heap.size w W := by subst hW; exact ((Below.refl _ w).alloc (Nat.le_refl _) _).alloc (by simp) _
  have b0 : W.heap[w.heap.size]? = some (.cells #[.slice A c.W.length k, .int .u64 c.seed, .int .i64 c.epoch, .int .i64 c.num, .int .i64 c.den] 25 (0, 0)) := by subst hW; exact ha_lt (ha_at rfl)
  have b1 : W.heap[w.heap.size + 1]? = some (.cells #[.int .i64 x.frm, .int .i64 x.src.epoch, .int .u64 x.src.root.hi, .int .u64 x.src.root.lo, .int .i64 x.tgt.epoch, .int .u64 x.tgt.root.hi, .int .u64 x.tgt.root.lo] 33 (0, 0)) := by subst hW; exact ha_at (by simp)
  obtain ⟨c0, c1, c2, c3, c4⟩ := blk5 b0
  by_cases hmc : MayC c
  · by_cases ht : Tree l
    · have hres := Lib.hid (mayL_dec hmc l x)
      rw [decide_eq_true hmc] at hmay
      have htb : mayB l = true := by simp [mayB, ht]
      rw [htb] at htm
      obtain ⟨r, hrr⟩ : ∃ r, decide (x.src.root ∈ chain l x.tgt.root) = r := ⟨_, rfl⟩
      rw [hrr] at hres hund
      obtain ⟨q, hq⟩ : ∃ q, decide (MayL c l x) = q := ⟨_, rfl⟩
      rw [hq] at hres ⊢
      clear hmc hrr hq ht htb
      unfold cfgv lnkv idv at *
      go_enter Try.func13, Try.ntmps13
      go_wp2_with (first
        | (go_at_call 29; (with_reducible refine (hmay _ hB).mono ?_); clear hmay; rintro e w1 ⟨rfl, hb1⟩; have hB1 := below_call hB hB.size hb1)
        | (go_at_call 30; (with_reducible refine (htm _ hB1).mono ?_); clear htm; rintro e w2 ⟨rfl, hb2⟩; have hB2 := below_call hB1 hB1.size hb2; obtain ⟨e0, e1, e2, e3, e4⟩ := blk5 (bl_own hb2 (bl_own hb1 b0)); obtain ⟨f0, f1, f2, f3, f4, f5, f6⟩ := blkL (bl_own hb2 (bl_own hb1 b1)))
        | (go_at_call 31; (with_reducible refine (hund _ hB2).mono ?_); clear hund; rintro e w3 ⟨rfl, hb3⟩; have hB3 := below_call hB2 hB2.size hb3))
      all_goals go_ret
      all_goals
        first
          | (refine ⟨ret_bool ?_, hB3⟩
             rw [hres.out, decide_eq_true (by omega), Bool.true_and])
          | (refine ⟨ret_bool ?_, hB2⟩
             rw [hres.out, decide_eq_false (by omega), Bool.false_and])
    · have hres := Lib.hid (show decide (MayL c l x) = false from decide_eq_false (fun h => by
        have := h.2.2.2.2.2.2
        rw [chain_notree ht] at this
        cases this))
      rw [decide_eq_true hmc] at hmay
      have htb : mayB l = false := by simp [mayB, ht]
      rw [htb] at htm
      clear hmc ht htb hund
      unfold cfgv lnkv at *
      go_enter Try.func13, Try.ntmps13
      go_wp2_with (first
        | (go_at_call 29; (with_reducible refine (hmay _ hB).mono ?_); clear hmay; rintro e w1 ⟨rfl, hb1⟩; have hB1 := below_call hB hB.size hb1)
        | (go_at_call 30; (with_reducible refine (htm _ hB1).mono ?_); clear htm; rintro e w2 ⟨rfl, hb2⟩; have hB2 := below_call hB1 hB1.size hb2))
      go_ret
      exact ⟨ret_bool hres.out.symm, hB2⟩
  · rw [decide_eq_false hmc] at hmay
    have hres := Lib.hid (show decide (MayL c l x) = false from decide_eq_false (fun h => hmc h.1))
    obtain ⟨tb, htb⟩ : ∃ tb, mayB l = tb := ⟨_, rfl⟩
    rw [htb] at htm
    clear hmc hund htb
    unfold cfgv lnkv at *
    go_enter Try.func13, Try.ntmps13
    go_wp2_with (first
      | (go_at_call 29; (with_reducible refine (hmay _ hB).mono ?_); clear hmay; rintro e w1 ⟨rfl, hb1⟩; have hB1 := below_call hB hB.size hb1)
      | (go_at_call 30; (with_reducible refine (htm _ hB1).mono ?_); clear htm; rintro e w2 ⟨rfl, hb2⟩; have hB2 := below_call hB1 hB1.size hb2))
    go_ret
    exact ⟨ret_bool hres.out.symm, hB2⟩
end Go.Proofs.Ytdocgemfedohdaa
/-! Numbers that may be, and products of them: the plain law, and the document's walks. -/
namespace Go.Proofs.Ytdocgemfedohdaa
open Go.RowKit
def NumOk (n : Int) : Prop := 0 ≤ n ∧ n ≤ 4611686018427387904
instance (n : Int) : Decidable (NumOk n) := by unfold NumOk; exact inferInstance
/-- Is a times b more than c times d, and may all be? -/
def moreB (a b c d : Int) : Bool := decide ((NumOk a ∧ NumOk b ∧ NumOk c ∧ NumOk d) ∧ c * d < a * b)
set_option maxHeartbeats 400000 in
theorem rtmay_any (n : Int) (w : World) :
    Calls Try.prog 112 #[.int .i64 n] w fun e w' => e = .returned (.bool (decide (NumOk n))) ∧ w' = w := by
  have hd : decide (NumOk n) = (decide (0 ≤ n) && decide (n ≤ 4611686018427387904)) := by rw [Bool.eq_iff_iff]; simp only [Bool.and_eq_true, decide_eq_true_eq]; exact Iff.rfl
  rw [hd]
  go_enter Try.func112, Try.ntmps112
  go_wp2_with fail
  all_goals
    go_ret
    refine ⟨ret_bool ?_, rfl⟩
    rw [Bool.eq_iff_iff]
    simp only [Bool.and_eq_true, decide_eq_true_eq, Bool.false_eq_true, false_iff]
    omega
set_option maxHeartbeats 400000 in
theorem fine1_any (n : Int) (w : World) :
    Calls Try.prog 111 #[.int .i64 n] w fun e w' => e = .returned (.bool (!decide (NumOk n))) ∧ w' = w := by
  have h := rtmay_any n w
  generalize decide (NumOk n) = d at h ⊢
  go_enter Try.func111, Try.ntmps111
  go_wp2_with (go_at_call 112; refine h.mono ?_; rintro e w' ⟨rfl, hw⟩; subst hw)
  go_ret
  exact ⟨rfl, rfl⟩
set_option maxRecDepth 100000 in
set_option maxHeartbeats 1000000 in
theorem rtindex_any (l : List Int) (A : Option Addr) (k : Nat) (w : World) (hr : Rd 1 encI w A l) :
    Calls Try.prog 130 #[.slice A l.length k, .func (.func 111) #[] #[]] w fun e w' => (∃ j : Int, e = .returned (.int .i64 j) ∧ decide (0 ≤ j) = !decide (∀ x ∈ l, NumOk x)) ∧ w' = w := by
  have hm := hr.1
  go_enter Try.func130, Try.ntmps130
  go_wp2_with fail
  go_loopw [5, 8] (fun _ i wr => ∃ j : Nat, j ≤ l.length ∧ i = .int .i64 j ∧ Hid (∀ x ∈ l.take j, NumOk x) ∧ wr = w) (fun _ i _ => l.length - (intOf i).toNat)
  case atStart => exact ⟨0, by omega, rfl, Lib.hid (by simp), rfl⟩
  case round =>
    obtain ⟨j, hj, rfl, hn, rfl⟩ := hrel
    by_cases hlt : j < l.length
    · obtain ⟨b, o, rfl, hbo, d0⟩ := hr.atI hlt
      have hou := fine1_any l[j] wr
      by_cases he : NumOk l[j]
      · have hst := Lib.hid (show ∀ x ∈ l.take (j + 1), NumOk x by
          intro x hx
          rw [← List.take_append_getElem hlt] at hx
          rcases List.mem_append.1 hx with h | h
          · exact hn.out x h
          · rw [List.mem_singleton.1 h]; exact he)
        have hd : (!decide (NumOk l[j])) = false := by simpa using he
        rw [hd] at hou
        clear he hd
        go_wp2_with (go_at_call 111; refine hou.mono ?_; clear hou; rintro e w' ⟨rfl, hw⟩; subst hw)
        go_roundw
        case rel => exact ⟨j + 1, hlt, by go_num, hst, trivial⟩
        case measure => simp [intOf]; omega
      · have hd : (!decide (NumOk l[j])) = true := by simpa using he
        rw [hd] at hou
        have he' := Lib.hid (show decide (∀ x ∈ l, NumOk x) = false from decide_eq_false fun h => he (h _ (List.getElem_mem hlt)))
        clear he hd
        go_wp2_with (go_at_call 111; refine hou.mono ?_; clear hou; rintro e w' ⟨rfl, hw⟩; subst hw)
        go_ret
        exact ⟨⟨_, rfl, by rw [he'.out]; simp⟩, rfl⟩
    · obtain rfl : j = l.length := by omega
      have hnn := Lib.hid (show decide (∀ x ∈ l, NumOk x) = true from decide_eq_true (by simpa using hn.out))
      go_wp2_with fail
      go_ret
      exact ⟨⟨_, rfl, by rw [hnn.out]; rfl⟩, rfl⟩
set_option maxRecDepth 100000 in
theorem rtcontains_any (l : List Int) (A : Option Addr) (k : Nat) (w : World) (hr : Rd 1 encI w A l) :
    Calls Try.prog 110 #[.slice A l.length k, .func (.func 111) #[] #[]] w fun e w' => e = .returned (.bool (!decide (∀ x ∈ l, NumOk x))) ∧ w' = w := by
  have hi := rtindex_any l A k w hr
  go_enter Try.func110, Try.ntmps110
  go_wp2_with (go_at_call 130; refine hi.mono ?_; clear hi; rintro e w' ⟨⟨j, rfl, hj⟩, hw⟩; subst hw)
  go_ret
  exact ⟨rfl, rfl⟩
set_option maxRecDepth 100000 in
theorem rtfine_any (l : List Int) (A : Option Addr) (k : Nat) (w : World) (hr : Rd 1 encI w A l) :
    Calls Try.prog 88 #[.slice A l.length k] w fun e w' => e = .returned (.bool (decide (∀ x ∈ l, NumOk x))) ∧ w' = w := by
  have hi := rtcontains_any l A k w hr
  generalize decide (∀ x ∈ l, NumOk x) = d at hi ⊢
  go_enter Try.func88, Try.ntmps88
  go_wp2_with (go_at_call 110; refine hi.mono ?_; clear hi; rintro e w' ⟨rfl, hw⟩; subst hw)
  go_ret
  exact ⟨ret_bool (by simp), rfl⟩
/-! A product in four parts. -/
def wU (a b : Int) : Int := a % 4294967296 * (b % 4294967296)
def wQ (a b : Int) : Int := a / 4294967296 * (b % 4294967296) + wU a b / 4294967296
def wR (a b : Int) : Int := a % 4294967296 * (b / 4294967296) + wQ a b % 4294967296
def wS (a b : Int) : Int := a / 4294967296 * (b / 4294967296) + wQ a b / 4294967296 + wR a b / 4294967296
theorem mul_bd {x y m n : Int} (h1 : 0 ≤ x) (h2 : x ≤ m) (h3 : 0 ≤ y) (h4 : y ≤ n) : 0 ≤ x * y ∧ x * y ≤ m * n := ⟨Int.mul_nonneg h1 h3, Int.mul_le_mul h2 h4 h3 (by omega)⟩
theorem wide_parts {a b : Int} (ha : NumOk a) (hb : NumOk b) :
    (0 ≤ wU a b ∧ wU a b < 18446744073709551616) ∧ (0 ≤ wQ a b ∧ wQ a b < 18446744073709551616) ∧ (0 ≤ wR a b ∧ wR a b < 18446744073709551616) ∧ (0 ≤ wS a b ∧ wS a b < 18446744073709551616) ∧ (0 ≤ a / 4294967296 * (b / 4294967296) + wQ a b / 4294967296 ∧ a / 4294967296 * (b / 4294967296) + wQ a b / 4294967296 < 18446744073709551616) ∧
    (0 ≤ a / 4294967296 * (b % 4294967296) ∧ a / 4294967296 * (b % 4294967296) < 18446744073709551616) ∧ (0 ≤ a % 4294967296 * (b / 4294967296) ∧ a % 4294967296 * (b / 4294967296) < 18446744073709551616) ∧ (0 ≤ a / 4294967296 * (b / 4294967296) ∧ a / 4294967296 * (b / 4294967296) < 18446744073709551616) ∧
    a * b = wS a b * 18446744073709551616 + wR a b % 4294967296 * 4294967296 + wU a b % 4294967296 := by
  obtain ⟨ha1, ha2⟩ := ha
  obtain ⟨hb1, hb2⟩ := hb
  have e : a * b = (a / 4294967296 * (b / 4294967296)) * 18446744073709551616 + (a / 4294967296 * (b % 4294967296) + a % 4294967296 * (b / 4294967296)) * 4294967296 + a % 4294967296 * (b % 4294967296) := by
    have h1 : a = a / 4294967296 * 4294967296 + a % 4294967296 := by omega
    have h2 : b = b / 4294967296 * 4294967296 + b % 4294967296 := by omega
    generalize a / 4294967296 = x at h1 ⊢
    generalize a % 4294967296 = y at h1 ⊢
    generalize b / 4294967296 = z at h2 ⊢
    generalize b % 4294967296 = t at h2 ⊢
    subst h1 h2
    simp only [Int.add_mul, Int.mul_add]
    have e1 : x * 4294967296 * (z * 4294967296) = x * z * 18446744073709551616 := by
      rw [show x * 4294967296 * (z * 4294967296) = x * z * (4294967296 * 4294967296) by ac_rfl]; rfl
    have e2 : y * (z * 4294967296) = y * z * 4294967296 := by ac_rfl
    have e3 : x * 4294967296 * t = x * t * 4294967296 := by ac_rfl
    omega
  have p00 := mul_bd (x := a % 4294967296) (y := b % 4294967296) (m := 4294967295) (n := 4294967295) (by omega) (by omega) (by omega) (by omega)
  have p10 := mul_bd (x := a / 4294967296) (y := b % 4294967296) (m := 1073741824) (n := 4294967295) (by omega) (by omega) (by omega) (by omega)
  have p01 := mul_bd (x := a % 4294967296) (y := b / 4294967296) (m := 4294967295) (n := 1073741824) (by omega) (by omega) (by omega) (by omega)
  have p11 := mul_bd (x := a / 4294967296) (y := b / 4294967296) (m := 1073741824) (n := 1073741824) (by omega) (by omega) (by omega) (by omega)
  unfold wS wR wQ wU
  generalize a / 4294967296 * (b / 4294967296) = x at *
  generalize a / 4294967296 * (b % 4294967296) = y at *
  generalize a % 4294967296 * (b / 4294967296) = z at *
  generalize a % 4294967296 * (b % 4294967296) = t at *
  omega
end Go.Proofs.Ytdocgemfedohdaa
/-! The document's products, walked. -/
namespace Go.Proofs.Ytdocgemfedohdaa
open Go.RowKit
theorem wrapU_id {x : Int} (h0 : 0 ≤ x) (h1 : x < 18446744073709551616) : IntKind.u64.wrap x = x := by
  obtain ⟨n, rfl⟩ := Int.eq_ofNat_of_zero_le h0
  show ((n : Int) % 18446744073709551616) = n
  omega
theorem set4 {w : World} {b : Nat} {x y z t : Value} {T : TypeId} (h : w.heap[b]? = some (.cells #[x, y, z, t] T (0, 0))) (u v r s : Value) :
    ((((w.setCell ⟨b, 0, none⟩ u).setCell ⟨b, 1, none⟩ v).setCell ⟨b, 2, none⟩ r).setCell ⟨b, 3, none⟩ s).heap[b]? = some (.cells #[u, v, r, s] T (0, 0)) ∧ w.grownBy ((((w.setCell ⟨b, 0, none⟩ u).setCell ⟨b, 1, none⟩ v).setCell ⟨b, 2, none⟩ r).setCell ⟨b, 3, none⟩ s) (some b) := by
  refine ⟨?_, grown_trans (grown_trans (grown_trans (grown_set _ _ _) (grown_set _ _ _)) (grown_set _ _ _)) (grown_set _ _ _)⟩
  rw [heap_setCell_same _ _ _ _ _ _ (heap_setCell_same _ _ _ _ _ _ (heap_setCell_same _ _ _ _ _ _ (heap_setCell_same _ _ _ _ _ _ h)))]
  rfl
theorem wrapI_id {x : Int} (h0 : 0 ≤ x) (h1 : x < 4294967296) : wrap64 x = x := by unfold wrap64; omega
theorem tm_id {x : Int} (h0 : 0 ≤ x) : x.tmod 4294967296 = x % 4294967296 := Int.tmod_eq_emod_of_nonneg h0
theorem td_id {x : Int} (h0 : 0 ≤ x) : x.tdiv 4294967296 = x / 4294967296 := Int.tdiv_eq_ediv_of_nonneg h0
/-- The parts of a product, a list. -/
def wParts (a b : Int) : List Int := [wS a b / 4294967296, wS a b % 4294967296, wR a b % 4294967296, wU a b % 4294967296]
/-- What a look at the parts from the front tells. -/
def lexMore : List Int → List Int → Bool
  | x :: xs, y :: ys => if x = y then lexMore xs ys else decide (y < x)
  | _, _ => false
theorem lex_parts {a b c d : Int} (ha : NumOk a) (hb : NumOk b) (hc : NumOk c) (hd : NumOk d) : lexMore (wParts a b) (wParts c d) = decide (c * d < a * b) := by
  obtain ⟨⟨u0, u1⟩, _, ⟨r0, r1⟩, ⟨s0, s1⟩, _, _, _, _, e⟩ := wide_parts ha hb
  obtain ⟨⟨u0', u1'⟩, _, ⟨r0', r1'⟩, ⟨s0', s1'⟩, _, _, _, _, e'⟩ := wide_parts hc hd
  rw [e, e']
  unfold wParts
  generalize wS a b = s at *
  generalize wR a b = r at *
  generalize wU a b = u at *
  generalize wS c d = s' at *
  generalize wR c d = r' at *
  generalize wU c d = u' at *
  clear e e'
  rw [Bool.eq_iff_iff]
  simp only [lexMore]
  by_cases h1 : s / 4294967296 = s' / 4294967296
  · rw [if_pos h1]
    by_cases h2 : s % 4294967296 = s' % 4294967296
    · rw [if_pos h2]
      by_cases h3 : r % 4294967296 = r' % 4294967296
      · rw [if_pos h3]
        by_cases h4 : u % 4294967296 = u' % 4294967296
        · rw [if_pos h4]; simp only [decide_eq_true_eq, Bool.false_eq_true, false_iff]; omega
        · rw [if_neg h4]; simp only [decide_eq_true_eq]; omega
      · rw [if_neg h3]; simp only [decide_eq_true_eq]; omega
    · rw [if_neg h2]; simp only [decide_eq_true_eq]; omega
  · rw [if_neg h1]; simp only [decide_eq_true_eq]; omega
theorem lexMore_drop {p q : List Int} {j : Nat} (h1 : j < p.length) (h2 : j < q.length) : lexMore (p.drop j) (q.drop j) = if p[j] = q[j] then lexMore (p.drop (j + 1)) (q.drop (j + 1)) else decide (q[j] < p[j]) := by
  rw [List.drop_eq_getElem_cons h1, List.drop_eq_getElem_cons h2]
  rfl
end Go.Proofs.Ytdocgemfedohdaa
