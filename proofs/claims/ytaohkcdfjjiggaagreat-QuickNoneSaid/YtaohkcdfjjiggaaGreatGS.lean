/- GS: several texts in one. -/
import Derived.Test.YtaohkcdfjjiggaaGreatGP
import Derived.Test.YtaohkcdfjjiggaaGreatGE
import Derived.Test.YtaohkcdfjjiggaaGreatGA
import Derived.Test.YtaohkcdfjjiggaaGreatGQ
import Derived.Test.YtaohkcdfjjiggaaGreatGC
/-! The walks of marigoldref06.Chain and Under. -/
namespace Go.Proofs.YtaohkcdfjjiggaaGreat
open Go.RowKit
/-- What holds at the loop's head: where one is, and what is told already. -/
def ChAt (l : List Blk) (id x : ID) (j : Int) (acc : List ID) : Prop := idxI (names l) x = j ∧ (x = zid ∨ ∃ b ∈ l, nameOf b = x) ∧ acc ++ (chain l x).tail = chain l id
theorem ChAt.start {l : List Blk} {id : ID} {j : Int} (ht : Tree l) (hj : idxI (names l) id = j) (h : ¬ (j < 0 ∧ id ≠ zid)) : ChAt l id id j [id] := by
  have hk : id = zid ∨ ∃ b ∈ l, nameOf b = id := by
    rcases idx_names (l := l) (x := id) with ⟨h1, _⟩ | ⟨m, _, hml, hmn⟩
    · left
      exact Classical.byContradiction fun hne => h ⟨by omega, hne⟩
    · exact .inr ⟨_, List.getElem_mem hml, hmn⟩
  obtain ⟨r, hr⟩ := chain_head ht hk
  exact ⟨hj, hk, by rw [hr]; rfl⟩
theorem ChAt.done {l : List Blk} {id x : ID} {j : Int} {acc : List ID} (ht : Tree l) (h : ChAt l id x j acc) (hj : j < 0) : acc = chain l id := by
  obtain ⟨h1, h2, h3⟩ := h
  have hx : x = zid := by
    rcases h2 with e | ⟨b, hb, e⟩
    · exact e
    · rcases idx_names (l := l) (x := x) with ⟨_, hno⟩ | ⟨n, hn, _⟩
      · exact absurd e (hno b hb)
      · omega
  subst hx
  rw [chain_zid ht] at h3
  simpa using h3
theorem ChAt.step {l : List Blk} {id x : ID} {n : Nat} {acc : List ID} (ht : Tree l) (h : ChAt l id x n acc) : ∃ hn : n < l.length, ChAt l id l[n].par (idxI (names l) l[n].par) (acc ++ [l[n].par]) := by
  obtain ⟨h1, _, h3⟩ := h
  rcases idx_names (l := l) (x := x) with ⟨hi, _⟩ | ⟨m, hm, hml, hnm⟩
  · omega
  · have : m = n := by omega
    subst this
    refine ⟨hml, rfl, par_mem ht hml, ?_⟩
    rw [← h3, ← hnm, chain_cons ht hml]
    obtain ⟨r, hr⟩ := chain_head ht (par_mem ht hml)
    rw [hr]
    simp
theorem ChAt.len {l : List Blk} {id x : ID} {j : Int} {acc : List ID} (h : ChAt l id x j acc) : acc.length ≤ l.length + 1 := by
  have h1 := congrArg List.length h.2.2
  have h2 := chain_bound (l := l) id
  simp only [List.length_append] at h1
  omega
theorem chain_bad {l : List Blk} {id : ID} {j : Int} (hj : idxI (names l) id = j) (h : j < 0 ∧ id ≠ zid) : chain l id = [] :=
  chain_unknown h.2 (by
    rcases idx_names (l := l) (x := id) with ⟨_, h'⟩ | ⟨m, h', _⟩
    · exact h'
    · omega)
set_option maxRecDepth 100000 in
set_option maxHeartbeats 4000000 in
theorem rchain_any (l : List Blk) (id : ID) (A : Option Addr) (c : Nat) (w : World) (hr : Rd 5 encBlk w A l) (hok : ∀ b ∈ l, b.Ok) (hl : l.length ≤ 100000) :
    Calls Tryz.prog 71 #[.slice A l.length c, idv id] w fun e w' => ∃ v, e = .returned v ∧ Own w' w.heap.size 35 2 encID v (chain l id) ∧ Below w.heap.size w w' := by
  have hm := hr.1
  have hun := Tryz.underlying58
  have hnames := fun V (hV : Below w.heap.size w V) => rnames_any l A c V (hr.below hV) hok hl
  have hmay := fun V (hV : Below w.heap.size w V) N d hn hd => rmay_any l A N c d V (hr.below hV) hn hd hl
  have hnl : (names l).length = l.length := by simp [names]
  have hat := fun (x : ID) N d (V : World) (hn : Rd 2 encID V N (names l)) => rat_any x (names l) N d V hn
  rw [hnl] at hat
  unfold idv at *
  have hW : ∃ W, w.alloc (.cells #[.int .u64 id.hi, .int .u64 id.lo] 35) = W := ⟨_, rfl⟩
  obtain ⟨W, hW⟩ := hW
  have hB : Below w.heap.size w W := by subst hW; exact (Below.refl _ w).alloc (Nat.le_refl _) _
  have b0 : W.heap[w.heap.size]? = some (.cells #[.int .u64 id.hi, .int .u64 id.lo] 35 (0, 0)) := by subst hW; exact ha_at rfl
  have nz := neq_idz id
  have hat0 := hat id
  obtain ⟨j, hj⟩ : ∃ j, idxI (names l) id = j := ⟨_, rfl⟩
  rw [hj] at hat0
  have hlow := idx_low (names l) id
  have hup := idx_up (l := l) (x := id)
  rw [hj] at hlow hup
  by_cases ht : Tree l
  · have hmb : mayB l = true := by simp [mayB, ht]
    rw [hmb] at hmay
    by_cases hbad : j < 0 ∧ id ≠ zid
    · have hres := Lib.hid (chain_bad hj hbad)
      have hz : decide (id = zid) = false := by simpa using hbad.2
      have hz1 : decide (j < 0) = true := by simpa using hbad.1
      rw [hz] at nz
      clear hbad hz hmb ht hj hat
      go_enter Tryz.func71, Tryz.ntmps71
      go_wp2_with (first
        | (go_at_call 83; refine (hnames _ hB).mono ?_; clear hnames; rintro e w1 ⟨v, rfl, ho, hb1⟩; have hB1 := below_call hB hB.size hb1; have b1 := bl_own hb1 b0; obtain ⟨N, d, hv, hd, hR⟩ := ho.rdc encID_len; rw [hnl] at hv hd; subst hv)
        | (go_at_call 106; refine (hmay _ hB1 N d hR hd).mono ?_; clear hmay; rintro e w2 ⟨rfl, hb2⟩; have hB2 := below_call hB1 hB1.size hb2; have b2 := bl_own hb2 b1; have hR2 := hR.below hb2; obtain ⟨p0, p1, _, _⟩ := blk2 b2)
        | (go_at_call 107; refine (hat0 N d _ hR2).mono ?_; clear hat0; rintro e w3 ⟨rfl, hb3⟩; have hB3 := below_call hB2 hB2.size hb3; have b3 := bl_own hb3 b2; obtain ⟨q0, q1, _, _⟩ := blk2 b3))
      go_ret
      exact ⟨_, rfl, by rw [hres.out]; exact Own.nil _ _ _ _ _, hB3⟩
    · have hU' := Lib.hid (ChAt.start ht hj hbad)
      have hcases : (decide (j < 0) = true ∧ decide (id = zid) = true) ∨ decide (j < 0) = false := by
        by_cases h : j < 0
        · exact .inl ⟨by simpa using h, by simpa using Classical.byContradiction fun hne => hbad ⟨h, hne⟩⟩
        · exact .inr (by simpa using h)
      clear hbad hmb hj
      rcases hcases with ⟨hz1, hz⟩ | hz1
      all_goals
        try rw [hz] at nz
        go_enter Tryz.func71, Tryz.ntmps71
        go_wp2_with (first
          | (go_at_call 83; refine (hnames _ hB).mono ?_; clear hnames; rintro e w1 ⟨v, rfl, ho, hb1⟩; have hB1 := below_call hB hB.size hb1; have b1 := bl_own hb1 b0; obtain ⟨N, d, hv, hd, hR⟩ := ho.rdc encID_len; rw [hnl] at hv hd; subst hv; have hNb : ∀ a, N = some a → W.heap.size ≤ a.block ∧ a.block < w1.heap.size := fun a e => ho.base a.block (by subst e; rfl))
          | (go_at_call 106; refine (hmay _ hB1 N d hR hd).mono ?_; clear hmay; rintro e w2 ⟨rfl, hb2⟩; have hB2 := below_call hB1 hB1.size hb2; have b2 := bl_own hb2 b1; have hR2 := hR.below hb2; obtain ⟨p0, p1, _, _⟩ := blk2 b2)
          | (go_at_call 107; refine (hat0 N d _ hR2).mono ?_; clear hat0; rintro e w3 ⟨rfl, hb3⟩; have hB3 := below_call hB2 hB2.size hb3; have b3 := bl_own hb3 b2; obtain ⟨q0, q1, _, _⟩ := blk2 b3; have hR3 := hR2.below hb3))
        have hNb3 : ∀ a, N = some a → w.heap.size < a.block ∧ a.block < w3.heap.size := fun a e => by have := hNb a e; have := hb2.size; have := hb3.size; have := lt_of_block b0; omega
        clear hNb
        have hlay : Below w3.heap.size w3 (w3.alloc (.cells #[.int .u64 id.hi, .int .u64 id.lo] 35)) := (Below.refl _ w3).alloc (Nat.le_refl _) _
        have ho4 : Own (w3.alloc (.cells #[.int .u64 id.hi, .int .u64 id.lo] 35)) w3.heap.size 35 2 encID (.slice (some ⟨w3.heap.size, 0, none⟩) 1 1) [id] := own_new1 (ha_at rfl) encID_len rfl (Nat.le_refl _)
        have hB4 := below_call hB3 hB3.size hlay
        have b4 := bl_own hlay b3
        have hR4 := hR3.below hlay
        have hlt3 := lt_of_block b3
        have hs4 : w3.heap.size ≤ (w3.alloc (.cells #[.int .u64 id.hi, .int .u64 id.lo] 35)).heap.size := hlay.size
        generalize w3.alloc (.cells #[.int .u64 id.hi, .int .u64 id.lo] 35) = w4 at ho4 hB4 b4 hR4 hs4 ⊢
        clear hlay hb1 hb2 hb3 hB1 hB2 b1 b2 b3 p0 p1 q0 q1 hR hR2 hR3 ho nz hz1 b0 hB hB3
        go_loopw [7, 8] (fun i v wr => ∃ (x : ID) (j : Int) (acc : List ID), i = .int .i64 j ∧ -1 ≤ j ∧ j < (l.length : Int) + 1 ∧ Hid (ChAt l id x j acc) ∧ acc.length ≤ l.length + 1 ∧ Own wr w3.heap.size 35 2 encID v acc ∧ wr.heap[w.heap.size]? = some (.cells #[.int .u64 x.hi, .int .u64 x.lo] 35 (0, 0)) ∧ Rd 2 encID wr N (names l) ∧ w3.heap.size ≤ wr.heap.size ∧ Below w.heap.size w wr) (fun i _ _ => (intOf i + 1).toNat)
        case atStart => exact ⟨id, j, [id], rfl, hlow, hup, hU', by simp, ho4, b4, hR4, hs4, hB4⟩
        case round =>
          obtain ⟨x, j', acc, rfl, hlo', hup', hUx, hlen, hown, hbx, hRN, hsr, hBr⟩ := hrel
          obtain ⟨x0, x1, fx0, fx1⟩ := blk2 hbx
          have hvb : ∀ k, u8.ownBlock = some k → w3.heap.size ≤ k := fun k hk => (hown.base k hk).1
          clear hlow hup hU' b4 hR4 hB4 ho4
          by_cases hj0 : j' < 0
          · have hd := Lib.hid (hUx.out.done ht hj0)
            have hz2 : decide (0 ≤ j') = false := by simpa using hj0
            clear hj0
            go_wp2_with fail
            go_ret
            exact ⟨_, rfl, by rw [← hd.out]; exact hown.mono (by omega), hBr⟩
          · have hz2 : decide (0 ≤ j') = true := by simpa using hj0
            obtain ⟨n, rfl⟩ : ∃ n : Nat, j' = n := ⟨j'.toNat, by omega⟩
            obtain ⟨hnl', hst⟩ := hUx.out.step ht
            have hpi := par_idx ht hnl'
            have hlo2 := idx_low (names l) l[n].par
            have hup2 := idx_up (l := l) (x := l[n].par)
            have hlen2 := hst.len
            have hat2 := hat l[n].par
            obtain ⟨j2, hj2⟩ : ∃ j, idxI (names l) l[n].par = j := ⟨_, rfl⟩
            rw [hj2] at hst hpi hlo2 hup2 hat2
            have hst' := Lib.hid hst
            obtain ⟨b', o, rfl, hbo, d0, d1, d2, d3, d4⟩ := (hr.below hBr).atBlk hnl'
            obtain ⟨p, hp⟩ : ∃ p, l[n].par = p := ⟨_, rfl⟩
            rw [hp] at hst' hat2 d2 d3
            obtain ⟨hs1, hs2⟩ := set2 hbx (.int .u64 p.hi) (.int .u64 p.lo)
            clear hst hj2 hp hUx hj0
            have hlt0 := lt_of_block hbx
            obtain ⟨W2, hW2⟩ : ∃ W2, (wr.setCell ⟨w.heap.size, 0, none⟩ (.int .u64 p.hi)).setCell ⟨w.heap.size, 1, none⟩ (.int .u64 p.lo) = W2 := ⟨_, rfl⟩
            rw [hW2] at hs1 hs2
            have hB2 := below_step hBr hBr.size hs2 (by simp)
            have hR2 := hRN.grown hs2 (fun a e => by have := hNb3 a e; simp; omega)
            have ho2 := hown.grown hs2 (.inr (fun e => by have := hvb _ e; omega))
            obtain ⟨y0, y1, _, _⟩ := blk2 hs1
            have hlay2 : Below W2.heap.size W2 (W2.alloc (.cells #[.int .u64 p.hi, .int .u64 p.lo] 35)) := (Below.refl _ W2).alloc (Nat.le_refl _) _
            have ho3 := ho2.below hlay2
            have hB3 := below_call hB2 hB2.size hlay2
            have hR3 := hR2.below hlay2
            have hx3 := bl_own hlay2 hs1
            have hs2s := hs2.size
            have hsl2 := hlay2.size
            have hvb2 := lt_of_block hx3
            go_wp2_with (first
              | (rw [hW2]; fail)
              | (at_builtin; refine wp_append1 rfl rfl hun infoID rfl (by decide) encID_len encID_one rfl ho3 (g := W2.heap.size) (c := 1) rfl (y := p) (ha_at rfl) rfl (by omega) (by unfold maxLen; omega) (by omega) ?_; intro v' w8 ho8 hg8 hat8; have hx8 := grown_own hg8 hx3 (fun e => by have := hvb _ e.symm; omega); obtain ⟨z0, z1, _, _⟩ := blk2 hx8; have hR8 := hR3.grown hg8 (fun a e e2 => by have := hNb3 a e; have := hvb _ e2.symm; omega); have hB8 := below_step hB3 hB3.size hg8 (fun k hk => by have := hvb k hk; omega))
              | (go_at_call 107; refine (hat2 N d _ hR8).mono ?_; clear hat2; rintro e w9 ⟨rfl, hb9⟩; have hB9 := below_call hB8 hB8.size hb9))
            go_roundw
            case rel => exact ⟨p, j2, acc ++ [p], rfl, hlo2, hup2, hst', by simpa using hlen2, ho8.below hb9, bl_own hb9 hx8, hR8.below hb9, by have := hg8.size; have := hb9.size; omega, hB9⟩
            case measure => simp [intOf]; omega
  · have hmb : mayB l = false := by simp [mayB, ht]
    rw [hmb] at hmay
    have hk := Lib.hid (chain_notree ht id)
    clear hmb ht
    go_enter Tryz.func71, Tryz.ntmps71
    go_wp2_with (first
      | (go_at_call 83; refine (hnames _ hB).mono ?_; clear hnames; rintro e w1 ⟨v, rfl, ho, hb1⟩; have hB1 := below_call hB hB.size hb1; have b1 := bl_own hb1 b0; obtain ⟨N, d, hv, hd, hR⟩ := ho.rdc encID_len; rw [hnl] at hv hd; subst hv)
      | (go_at_call 106; refine (hmay _ hB1 N d hR hd).mono ?_; clear hmay; rintro e w2 ⟨rfl, hb2⟩; have hB2 := below_call hB1 hB1.size hb2; have b2 := bl_own hb2 b1; have hR2 := hR.below hb2; obtain ⟨p0, p1, _, _⟩ := blk2 b2)
      | (go_at_call 107; refine (hat0 N d _ hR2).mono ?_; clear hat0; rintro e w3 ⟨rfl, hb3⟩; have hB3 := below_call hB2 hB2.size hb3; have b3 := bl_own hb3 b2))
    go_ret
    exact ⟨_, rfl, by rw [hk.out]; exact Own.nil _ _ _ _ _, hB3⟩
end Go.Proofs.YtaohkcdfjjiggaaGreat
/-! The document's answer on what is sure, walked. -/
namespace Go.Proofs.YtaohkcdfjjiggaaGreat
open Go.RowKit
set_option maxRecDepth 100000 in
set_option maxHeartbeats 4000000 in
theorem rqfor_any (c : Cfg) (l : List Blk) (v : List Vote) (s : Int) (x : ID) (A A2 A3 : Option Addr) (k k2 k3 : Nat) (w : World) (hok : ∀ b ∈ l, b.Ok) (hr : Rd 1 encI w A c.W) (hr2 : Rd 5 encBlk w A2 l) (hr3 : Rd 4 encVote w A3 v) (hl : l.length ≤ 100000) (hvl : v.length ≤ 100000) :
    Calls Tryz.prog 39 #[cfgv A k c, .agg #[.slice A2 l.length k2, .slice A3 v.length k3], .int .i64 s, idv x] w fun e w' => e = .returned (.int .i64 (quickFor c l v s x)) ∧ Below w.heap.size w w' := by
  have hof := fun V (hV : Below w.heap.size w V) => rgof_any c v s A A3 k k3 V (hr.below hV) (hr3.below hV) hvl
  have hon := Lib.hid (fun V (hV : Below w.heap.size w V) A4 k4 h4 => ron_any c l (goldOf c v s) x A A2 A4 k k2 k4 V hok (hr.below hV) (hr2.below hV) h4 hl (gold_len2 hvl))
  have hr0 : onC c l (goldOf c v s) x = quickFor c l v s x := rfl
  rw [hr0] at hon
  obtain ⟨r, hrr⟩ : ∃ r, quickFor c l v s x = r := ⟨_, rfl⟩
  rw [hrr] at hon ⊢
  clear hr0 hrr
  generalize goldOf c v s = m at hof hon
  unfold cfgv idv at *
  obtain ⟨W, hW⟩ : ∃ W, ((w.alloc (.cells #[.slice A c.W.length k, .int .u64 c.seed, .int .i64 c.epoch, .int .i64 c.num, .int .i64 c.den] 25)).alloc (.cells #[.slice A2 l.length k2, .slice A3 v.length k3] 29)).alloc (.cells #[.int .u64 x.hi, .int .u64 x.lo] 35) = W := ⟨_, rfl⟩
  have hB : Below w.heap.size w W := by subst hW; exact (((Below.refl _ w).alloc (Nat.le_refl _) _).alloc (by simp) _).alloc (by simp <;> omega) _
  have b0 : W.heap[w.heap.size]? = some (.cells #[.slice A c.W.length k, .int .u64 c.seed, .int .i64 c.epoch, .int .i64 c.num, .int .i64 c.den] 25 (0, 0)) := by subst hW; exact ha_lt (ha_lt (ha_at rfl))
  have b1 : W.heap[w.heap.size + 1]? = some (.cells #[.slice A2 l.length k2, .slice A3 v.length k3] 29 (0, 0)) := by subst hW; exact ha_lt (ha_at (by simp))
  have b2 : W.heap[w.heap.size + 1 + 1]? = some (.cells #[.int .u64 x.hi, .int .u64 x.lo] 35 (0, 0)) := by subst hW; exact ha_at (by simp)
  go_enter Tryz.func39, Tryz.ntmps39
  go_wp2_with fail
  go_region_held3 (fun W' => W'.cell? ⟨w.heap.size, 0, none⟩ = some (.slice A c.W.length k) ∧ W'.cell? ⟨w.heap.size, 1, none⟩ = some (.int .u64 c.seed) ∧ W'.cell? ⟨w.heap.size, 2, none⟩ = some (.int .i64 c.epoch) ∧ W'.cell? ⟨w.heap.size, 3, none⟩ = some (.int .i64 c.num) ∧ W'.cell? ⟨w.heap.size, 4, none⟩ = some (.int .i64 c.den) ∧ W'.cell? ⟨w.heap.size + 1, 0, none⟩ = some (.slice A2 l.length k2) ∧ W'.cell? ⟨w.heap.size + 1, 1, none⟩ = some (.slice A3 v.length k3) ∧ W'.cell? ⟨w.heap.size + 1 + 1, 0, none⟩ = some (.int .u64 x.hi) ∧ W'.cell? ⟨w.heap.size + 1 + 1, 1, none⟩ = some (.int .u64 x.lo))
    (first | exact cvq b0 b1 b2 | exact cvq d0 d1 d2 | exact cvq e0 e1 e2) ((first
      | (go_at_call 20; (with_reducible refine (hof _ hB.drew).mono ?_); clear hof; rintro e w3 ⟨u, rfl, ho, hb3⟩; obtain ⟨A4, k4, hu, hR4⟩ := ho.rd encVote_len; subst hu; have hB3 := below_call hB.drew hB.size hb3; have hQ3 : Below W.heap.size W w3 := below_call (Below.refl _ W).drew (Nat.le_refl _) hb3; have d0 := bl_own hQ3 b0; have d1 := bl_own hQ3 b1; have d2 := bl_own hQ3 b2)
      | (go_at_call 72; (with_reducible refine (hon.out _ hB3 _ k4 hR4).mono ?_); rintro e w4 ⟨rfl, hb4⟩; have hB4 := below_call hB3 hB3.size hb4; have e0 := bl_own hb4 d0; have e1 := bl_own hb4 d1; have e2 := bl_own hb4 d2)))
  go_wp2
  go_ret
  exact ⟨rfl, hB4⟩
set_option maxRecDepth 100000 in
set_option maxHeartbeats 4000000 in
theorem rqsure_any (c : Cfg) (l : List Blk) (v : List Vote) (s : Int) (x : ID) (A A2 A3 : Option Addr) (k k2 k3 : Nat) (w : World) (hok : ∀ b ∈ l, b.Ok) (hr : Rd 1 encI w A c.W) (hr2 : Rd 5 encBlk w A2 l) (hr3 : Rd 4 encVote w A3 v) (hl : l.length ≤ 100000) (hvl : v.length ≤ 100000) (hc : NumFew c) :
    Calls Tryz.prog 35 #[cfgv A k c, .agg #[.slice A2 l.length k2, .slice A3 v.length k3], .int .i64 s, idv x] w fun e w' => e = .returned (.bool (quickSure c l v s x)) ∧ Below w.heap.size w w' := by
  have hcm := fun V (hV : Below w.heap.size w V) => rcommittee_any c s A k V (hr.below hV)
  have hwt := Lib.hid (fun V (hV : Below w.heap.size w V) A4 k4 h4 => rweight_any c (comC c s) A A4 k k4 V (hr.below hV) h4)
  have hfo := Lib.hid (fun V (hV : Below w.heap.size w V) => rqfor_any c l v s x A A2 A3 k k2 k3 V hok (hr.below hV) (hr2.below hV) (hr3.below hV) hl hvl)
  have hr0 : weightC c (comC c s) = quickAll c s := rfl
  rw [hr0] at hwt
  have hmo := Lib.hid (fun V => rrmore_any (2 * quickFor c l v s x) c.den (quickAll c s) (c.den + 2 * c.num) V)
  have hr1 : moreB (2 * quickFor c l v s x) c.den (quickAll c s) (c.den + 2 * c.num) = quickSure c l v s x := rfl
  rw [hr1] at hmo
  have hbd := quickFor_bd c l v s x
  obtain ⟨n, hnn⟩ : ∃ n, quickFor c l v s x = n := ⟨_, rfl⟩
  obtain ⟨r, hrr⟩ : ∃ r, quickSure c l v s x = r := ⟨_, rfl⟩
  rw [hnn] at hfo hmo hbd
  rw [hrr] at hmo ⊢
  clear hr0 hr1 hrr hnn
  generalize quickAll c s = all at hwt hmo
  generalize comC c s = cm at hcm hwt
  obtain ⟨⟨h1, h2⟩, h3, h4⟩ := hc
  obtain ⟨h5, h6⟩ := hbd
  have q1 : wrap64 (2 * n) = 2 * n := by unfold wrap64; omega
  have q2 : wrap64 (2 * c.num) = 2 * c.num := by unfold wrap64; omega
  have q3 : wrap64 (c.den + 2 * c.num) = c.den + 2 * c.num := by unfold wrap64; omega
  have q4 : IntKind.i64.wrap (2 * n) = 2 * n := Go.IntWalk.i64_in _ (by omega)
  have q5 : IntKind.i64.wrap (2 * c.num) = 2 * c.num := Go.IntWalk.i64_in _ (by omega)
  have q6 : IntKind.i64.wrap (c.den + 2 * c.num) = c.den + 2 * c.num := Go.IntWalk.i64_in _ (by omega)
  unfold cfgv idv at *
  obtain ⟨W, hW⟩ : ∃ W, ((w.alloc (.cells #[.slice A c.W.length k, .int .u64 c.seed, .int .i64 c.epoch, .int .i64 c.num, .int .i64 c.den] 25)).alloc (.cells #[.slice A2 l.length k2, .slice A3 v.length k3] 29)).alloc (.cells #[.int .u64 x.hi, .int .u64 x.lo] 35) = W := ⟨_, rfl⟩
  have hB : Below w.heap.size w W := by subst hW; exact (((Below.refl _ w).alloc (Nat.le_refl _) _).alloc (by simp) _).alloc (by simp <;> omega) _
  have b0 : W.heap[w.heap.size]? = some (.cells #[.slice A c.W.length k, .int .u64 c.seed, .int .i64 c.epoch, .int .i64 c.num, .int .i64 c.den] 25 (0, 0)) := by subst hW; exact ha_lt (ha_lt (ha_at rfl))
  have b1 : W.heap[w.heap.size + 1]? = some (.cells #[.slice A2 l.length k2, .slice A3 v.length k3] 29 (0, 0)) := by subst hW; exact ha_lt (ha_at (by simp))
  have b2 : W.heap[w.heap.size + 1 + 1]? = some (.cells #[.int .u64 x.hi, .int .u64 x.lo] 35 (0, 0)) := by subst hW; exact ha_at (by simp)
  go_enter Tryz.func35, Tryz.ntmps35
  go_wp2_with fail
  go_region_held3 (fun W' => W'.cell? ⟨w.heap.size, 0, none⟩ = some (.slice A c.W.length k) ∧ W'.cell? ⟨w.heap.size, 1, none⟩ = some (.int .u64 c.seed) ∧ W'.cell? ⟨w.heap.size, 2, none⟩ = some (.int .i64 c.epoch) ∧ W'.cell? ⟨w.heap.size, 3, none⟩ = some (.int .i64 c.num) ∧ W'.cell? ⟨w.heap.size, 4, none⟩ = some (.int .i64 c.den) ∧ W'.cell? ⟨w.heap.size + 1, 0, none⟩ = some (.slice A2 l.length k2) ∧ W'.cell? ⟨w.heap.size + 1, 1, none⟩ = some (.slice A3 v.length k3) ∧ W'.cell? ⟨w.heap.size + 1 + 1, 0, none⟩ = some (.int .u64 x.hi) ∧ W'.cell? ⟨w.heap.size + 1 + 1, 1, none⟩ = some (.int .u64 x.lo))
    (first | exact cvq b0 b1 b2 | exact cvq d0 d1 d2 | exact cvq e0 e1 e2) ((first
      | (go_at_call 47; (with_reducible refine (hcm _ hB.drew).mono ?_); clear hcm; rintro e w3 ⟨u, rfl, ho, hb3⟩; obtain ⟨A4, k4, hu, hR4⟩ := ho.rd encI_len; subst hu; have hB3 := below_call hB.drew hB.size hb3; have hQ3 : Below W.heap.size W w3 := below_call (Below.refl _ W).drew (Nat.le_refl _) hb3; have d0 := bl_own hQ3 b0; have d1 := bl_own hQ3 b1; have d2 := bl_own hQ3 b2)
      | (go_at_call 68; (with_reducible refine (hwt.out _ hB3 _ k4 hR4).mono ?_); rintro e w4 ⟨rfl, hb4⟩; have hB4 := below_call hB3 hB3.size hb4; have e0 := bl_own hb4 d0; have e1 := bl_own hb4 d1; have e2 := bl_own hb4 d2)))
  clear b0 b1 b2 d0 d1 d2 hb3 hb4 hQ3 hR4 ho
  go_wp2_with fail
  go_region_held3 (fun W' => W'.cell? ⟨w.heap.size, 0, none⟩ = some (.slice A c.W.length k) ∧ W'.cell? ⟨w.heap.size, 1, none⟩ = some (.int .u64 c.seed) ∧ W'.cell? ⟨w.heap.size, 2, none⟩ = some (.int .i64 c.epoch) ∧ W'.cell? ⟨w.heap.size, 3, none⟩ = some (.int .i64 c.num) ∧ W'.cell? ⟨w.heap.size, 4, none⟩ = some (.int .i64 c.den) ∧ W'.cell? ⟨w.heap.size + 1, 0, none⟩ = some (.slice A2 l.length k2) ∧ W'.cell? ⟨w.heap.size + 1, 1, none⟩ = some (.slice A3 v.length k3) ∧ W'.cell? ⟨w.heap.size + 1 + 1, 0, none⟩ = some (.int .u64 x.hi) ∧ W'.cell? ⟨w.heap.size + 1 + 1, 1, none⟩ = some (.int .u64 x.lo))
    (first | exact cvq e0 e1 e2 | exact cvq f0 f1 f2 | exact cvq g0 g1 g2) ((first
      | (go_at_call 39; (with_reducible refine (hfo.out _ hB4.drew).mono ?_); rintro e w5 ⟨rfl, hb5⟩; have hB5 := below_call hB4.drew hB4.size hb5; have hQ5 : Below w4.heap.size w4 w5 := below_call (Below.refl _ w4).drew (Nat.le_refl _) hb5; have f0 := bl_own hQ5 e0; have f1 := bl_own hQ5 e1; have f2 := bl_own hQ5 e2)
      | (go_at_call 69; (with_reducible refine (hmo.out _).mono ?_); rintro e w6 ⟨rfl, hb6⟩; have hB6 := below_call hB5 hB5.size hb6; have g0 := bl_own hb6 f0; have g1 := bl_own hb6 f1; have g2 := bl_own hb6 f2)))
  go_wp2
  go_ret
  exact ⟨rfl, hB6⟩
set_option maxRecDepth 100000 in
set_option maxHeartbeats 4000000 in
theorem rqtop_any (c : Cfg) (l : List Blk) (v : List Vote) (s : Int) (x : ID) (A A2 A3 : Option Addr) (k k2 k3 : Nat) (w : World) (hok : ∀ b ∈ l, b.Ok) (hr : Rd 1 encI w A c.W) (hr2 : Rd 5 encBlk w A2 l) (hr3 : Rd 4 encVote w A3 v) (hl : l.length ≤ 100000) (hvl : v.length ≤ 100000) (hc : NumFew c) :
    Calls Tryz.prog 37 #[cfgv A k c, .agg #[.slice A2 l.length k2, .slice A3 v.length k3], .int .i64 s, idv x] w fun e w' => e = .returned (.tuple #[idv (quickTop c l v s x).2, .bool (quickTop c l v s x).1]) ∧ Below w.heap.size w w' := by
  have hch := fun V (hV : Below w.heap.size w V) => rchain_any l x A2 k2 V (hr2.below hV) hok hl
  have hsu := Lib.hid (fun (y : ID) V (hV : Below w.heap.size w V) => rqsure_any c l v s y A A2 A3 k k2 k3 V hok (hr.below hV) (hr2.below hV) (hr3.below hV) hl hvl hc)
  have hcl := chain_bound (l := l) x
  unfold quickTop
  obtain ⟨ch, hce⟩ : ∃ ch, chain l x = ch := ⟨_, rfl⟩
  rw [hce] at hch hcl ⊢
  generalize quickSure c l v s = su at hsu ⊢
  clear hce
  obtain ⟨res, hrs⟩ : ∃ res, topOf su ch = res := ⟨_, rfl⟩
  rw [hrs]
  unfold cfgv idv at *
  obtain ⟨W, hW⟩ : ∃ W, (((w.alloc (.cells #[.slice A c.W.length k, .int .u64 c.seed, .int .i64 c.epoch, .int .i64 c.num, .int .i64 c.den] 25)).alloc (.cells #[.slice A2 l.length k2, .slice A3 v.length k3] 29)).alloc (.cells #[.int .u64 x.hi, .int .u64 x.lo] 35)).alloc (.cells #[.int .u64 0, .int .u64 0] 35) = W := ⟨_, rfl⟩
  have hB : Below w.heap.size w W := by subst hW; exact ((((Below.refl _ w).alloc (Nat.le_refl _) _).alloc (by simp) _).alloc (by simp <;> omega) _).alloc (by simp <;> omega) _
  have b0 : W.heap[w.heap.size]? = some (.cells #[.slice A c.W.length k, .int .u64 c.seed, .int .i64 c.epoch, .int .i64 c.num, .int .i64 c.den] 25 (0, 0)) := by subst hW; exact ha_lt (ha_lt (ha_lt (ha_at rfl)))
  have b1 : W.heap[w.heap.size + 1]? = some (.cells #[.slice A2 l.length k2, .slice A3 v.length k3] 29 (0, 0)) := by subst hW; exact ha_lt (ha_lt (ha_at (by simp)))
  have b2 : W.heap[w.heap.size + 1 + 1]? = some (.cells #[.int .u64 x.hi, .int .u64 x.lo] 35 (0, 0)) := by subst hW; exact ha_lt (ha_at (by simp))
  have b3 : W.heap[w.heap.size + 1 + 1 + 1]? = some (.cells #[.int .u64 0, .int .u64 0] 35 (0, 0)) := by subst hW; exact ha_at (by simp)
  obtain ⟨c5, c6, _, _⟩ := blk2 b1
  obtain ⟨c7, c8, _, _⟩ := blk2 b2
  go_enter Tryz.func37, Tryz.ntmps37
  go_wp2_with (go_at_call 71; (with_reducible refine (hch _ hB).mono ?_); clear hch; rintro e w3 ⟨u, rfl, ho, hb3⟩; obtain ⟨A5, k5, hu, hR5⟩ := ho.rd encID_len; subst hu; have hB3 := below_call hB hB.size hb3; have d0 := bl_own hb3 b0; have d1 := bl_own hb3 b1; have d2 := bl_own hb3 b2; have d3 := bl_own hb3 b3)
  clear b0 b1 b2 b3 c5 c6 c7 c8 hb3 ho hW hB
  have hcl' : ch.length ≤ 100001 := by omega
  have hrs' : Hid (topOf su (ch.drop 0) = res) := Lib.hid hrs
  have hfinz := Lib.hid (fun (j : Nat) (h : ch.length ≤ j + 1) => show topOf su (ch.drop j) = (false, zid) from by
    have h2 : (ch.drop j).length ≤ 1 := by simp; omega
    match hd : ch.drop j, h2 with
    | [], _ => rfl
    | [_], _ => rfl)
  have hstp := Lib.hid (fun (j : Nat) (h : j + 1 < ch.length) => show topOf su (ch.drop j) = (if su (ch[j]'(by omega)) then (true, ch[j]'(by omega)) else topOf su (ch.drop (j + 1))) from by
    rw [List.drop_eq_getElem_cons (show j < ch.length by omega), List.drop_eq_getElem_cons (show j + 1 < ch.length by omega)]
    rfl)
  clear hrs hcl
  go_loopw [11, 12] (fun i _u12 wr => ∃ j : Nat, j ≤ ch.length ∧ i = .int .i64 j ∧ Hid (topOf su (ch.drop j) = res) ∧ Below w3.heap.size w3 wr) (fun i _ _ => ch.length - (intOf i).toNat)
  case atStart => exact ⟨0, Nat.zero_le _, rfl, hrs', Below.refl _ _⟩
  case round =>
    obtain ⟨j, hj, rfl, hto, hBW⟩ := hrel
    have hBr := below_call hB3 hB3.size hBW
    have e0 := bl_own hBW d0
    have e1 := bl_own hBW d1
    have e3 := bl_own hBW d3
    have hw1 : wrap64 ((j : Int) + 1) = (j : Int) + 1 := by unfold wrap64; omega
    by_cases hlt : j + 1 < ch.length
    · have hj0 : j < ch.length := by omega
      have hst := hstp.out j hlt
      obtain ⟨b, o, rfl, hbo, f0, f1⟩ := (hR5.below hBW).atID hj0
      obtain ⟨y, hy⟩ : ∃ y, ch[j] = y := ⟨_, rfl⟩
      rw [hy] at f0 f1 hst
      have hlt2 : (j : Int) + 1 < (ch.length : Int) := by omega
      have hsy := fun p => hsu.out y (gr wr p) (hBr.trans ((gr_below _ _).mono hBr.size))
      obtain ⟨c0, c1, c2, c3, c4⟩ := blk5 e0
      obtain ⟨c5, c6, _, _⟩ := blk2 e1
      obtain ⟨z0, z1, z2, z3⟩ := blk2 e3
      have y0 := gr_cell c0
      have y1 := gr_cell c1
      have y2 := gr_cell c2
      have y3 := gr_cell c3
      have y4 := gr_cell c4
      have y5 := gr_cell c5
      have y6 := gr_cell c6
      have y7 := gr_cell f0
      have y8 := gr_cell f1
      clear hy
      cases hsb : su y with
      | true =>
        simp only [hsb] at hsy
        rw [hsb] at hst
        have hto' : Hid ((true, y) = res) := Lib.hid ((show topOf su (ch.drop j) = (true, y) from hst).symm.trans hto.out)
        clear hst hsb hto
        go_wp2_with fail
        refine wp_region_gr (by kernel_rfl) (by kernel_rfl) ?_
        repeat (go_big_quiet_step ((go_at_call 35; with_reducible exact Calls.gr_of (hsy _))))
        refine wpQuiet_nil ?_
        rintro _ ⟨pq, rfl⟩
        have hbg := gr_below wr pq
        have g0 := y7 pq
        have g1 := y8 pq
        have e3' := bl_own hbg e3
        have hB5 := below_call hBr hBr.size hbg
        obtain ⟨z4, z5, z6, z7⟩ := blk2 e3'
        generalize gr wr pq = w5 at hbg g0 g1 e3' hB5 z4 z5 z6 z7 ⊢
        clear y0 y1 y2 y3 y4 y5 y6 y7 y8 hsy
        go_wp2_with fail
        obtain ⟨q1, q2⟩ := set2 e3' (.int .u64 y.hi) (.int .u64 y.lo)
        obtain ⟨m0, m1, _, _⟩ := blk2 q1
        refine bodyPost_ret (v := .tuple #[.agg #[.int .u64 y.hi, .int .u64 y.lo], .bool true]) ?_ rfl ⟨?_, ?_⟩
        · simp [results, Tryz.results37, go_sem, m0, m1]
        · rw [← hto'.out]
        · exact below_step hB5 hB5.size q2 (fun k e => by cases e; omega)
      | false =>
        simp only [hsb] at hsy
        rw [hsb] at hst
        have hto' : Hid (topOf su (ch.drop (j + 1)) = res) := Lib.hid ((show topOf su (ch.drop j) = topOf su (ch.drop (j + 1)) from hst).symm.trans hto.out)
        clear hst hsb hto
        go_wp2_with fail
        refine wp_region_gr (by kernel_rfl) (by kernel_rfl) ?_
        repeat (go_big_quiet_step ((go_at_call 35; with_reducible exact Calls.gr_of (hsy _))))
        refine wpQuiet_nil ?_
        rintro _ ⟨pq, rfl⟩
        go_wp2_with fail
        go_roundw
        case rel => exact ⟨j + 1, by omega, by go_num, hto', below_call hBW hBW.size (gr_below _ _)⟩
        case measure => simp [intOf]; omega
    · have hto' : Hid ((false, zid) = res) := Lib.hid ((hfinz.out j (by omega)).symm.trans hto.out)
      have hlt2 : ¬ ((j : Int) + 1 < (ch.length : Int)) := by omega
      obtain ⟨z4, z5, z6, z7⟩ := blk2 e3
      clear hto
      go_wp2_with fail
      obtain ⟨q1, q2⟩ := set2 e3 (.int .u64 0) (.int .u64 0)
      obtain ⟨m0, m1, _, _⟩ := blk2 q1
      refine bodyPost_ret (v := .tuple #[.agg #[.int .u64 0, .int .u64 0], .bool false]) ?_ rfl ⟨?_, ?_⟩
      · simp [results, Tryz.results37, go_sem, m0, m1]
      · rw [← hto'.out]
      · exact below_step hBr hBr.size q2 (fun k e => by cases e; omega)
end Go.Proofs.YtaohkcdfjjiggaaGreat
/-! marigoldlaw15.awake: the chapter's example, walked. -/
namespace Go.Proofs.YtaohkcdfjjiggaaGreat
open Go.RowKit
def a15 : Blk := ⟨1, 0, zid, 0⟩
def c15 : Cfg := ⟨[1, 1, 1, 1], 0, 1, 1, 4⟩
def v15 : List Vote := [⟨0, 1, nameOf a15⟩, ⟨1, 1, nameOf a15⟩, ⟨2, 1, nameOf a15⟩, ⟨3, 1, nameOf a15⟩]
def x15 : List Vote := [⟨0, 1, nameOf a15⟩, ⟨1, 1, nameOf a15⟩, ⟨2, 1, nameOf a15⟩]
theorem q15_s : quickSure c15 [a15] v15 1 (nameOf a15) = true := by kernel_rfl
theorem q15_n : quickSure c15 [a15] x15 1 (nameOf a15) = false := by kernel_rfl
theorem q15_f : quickFor c15 [a15] x15 1 (nameOf a15) = 3 := by kernel_rfl
theorem q15_t : quickTop c15 [a15] v15 1 (nameOf a15) = (true, nameOf a15) := by kernel_rfl
/-- What the example's blocks hold when its slices lie. -/
structure Aw15At (w V : World) (na : ID) (I Bv Bl : Nat) : Prop where
  hB : Below w.heap.size w V
  hw : V.heap[w.heap.size]? = some (.cells #[.int .i64 1, .int .i64 1, .int .i64 1, .int .i64 1] 3 (0, 0))
  hc : V.heap[w.heap.size + 1]? = some (.cells #[.slice (some ⟨w.heap.size, 0, none⟩) 4 4, .int .u64 0, .int .i64 1, .int .i64 1, .int .i64 4] 25 (0, 0))
  ha : V.heap[w.heap.size + 1 + 1]? = some (.cells #[.int .i64 1, .int .i64 0, .int .u64 0, .int .u64 0, .int .u64 0] 64 (0, 0))
  hi : V.heap[I]? = some (.cells #[.int .u64 na.hi, .int .u64 na.lo] 35 (0, 0))
  hv : V.heap[Bv]? = some (.cells #[.int .i64 0, .int .i64 1, .int .u64 na.hi, .int .u64 na.lo, .int .i64 1, .int .i64 1, .int .u64 na.hi, .int .u64 na.lo, .int .i64 2, .int .i64 1, .int .u64 na.hi, .int .u64 na.lo, .int .i64 3, .int .i64 1, .int .u64 na.hi, .int .u64 na.lo] 42 (0, 0))
  hl : V.heap[Bl]? = some (.cells #[.int .i64 1, .int .i64 0, .int .u64 0, .int .u64 0, .int .u64 0] 64 (0, 0))
theorem Aw15At.own {w V V' : World} {na : ID} {I Bv Bl : Nat} (h : Aw15At w V na I Bv Bl) (hV : Below V.heap.size V V') : Aw15At w V' na I Bv Bl :=
  ⟨below_call h.hB h.hB.size hV, bl_own hV h.hw, bl_own hV h.hc, bl_own hV h.ha, bl_own hV h.hi, bl_own hV h.hv, bl_own hV h.hl⟩
theorem Aw15At.r1 {w V : World} {na : ID} {I Bv Bl : Nat} (h : Aw15At w V na I Bv Bl) : Rd 1 encI V (some ⟨w.heap.size, 0, none⟩) [1, 1, 1, 1] := Rd_flat encI_len (by simp) h.hw rfl
theorem Aw15At.r2 {w V : World} {na : ID} {I Bv Bl : Nat} (h : Aw15At w V na I Bv Bl) : Rd 5 encBlk V (some ⟨Bl, 0, none⟩) [⟨1, 0, ⟨0, 0⟩, 0⟩] := Rd_flat encBlk_len (by simp) h.hl rfl
theorem Aw15At.r3 {w V : World} {na : ID} {I Bv Bl : Nat} (h : Aw15At w V na I Bv Bl) : Rd 4 encVote V (some ⟨Bv, 0, none⟩) [⟨0, 1, na⟩, ⟨1, 1, na⟩, ⟨2, 1, na⟩, ⟨3, 1, na⟩] := Rd_flat encVote_len (by simp) h.hv rfl
theorem Aw15At.r4 {w V : World} {na : ID} {I Bv Bl : Nat} (h : Aw15At w V na I Bv Bl) : Rd 4 encVote V (some ⟨Bv, 0, none⟩) [⟨0, 1, na⟩, ⟨1, 1, na⟩, ⟨2, 1, na⟩] := h.r3.take 3
theorem few15 : NumFew ⟨[1, 1, 1, 1], 0, 1, 1, 4⟩ := by unfold NumFew; simp only; omega
set_option maxRecDepth 100000 in
set_option maxHeartbeats 8000000 in
theorem awake15_any (w : World) : Calls Tryz.prog 34 #[] w fun e w' => e = .returned (.bool true) ∧ Below w.heap.size w w' := by
  have q1 := q15_s
  have q2 := q15_n
  have q3 := q15_f
  have q4 := q15_t
  have hna := fun V => name_any a15 V
  unfold v15 at q1 q4
  unfold x15 at q2 q3
  obtain ⟨na, hnae⟩ : ∃ na, nameOf a15 = na := ⟨_, rfl⟩
  rw [hnae] at hna q1 q2 q3 q4
  clear hnae
  unfold a15 c15 zid at *
  unfold idv at hna
  dsimp only at hna
  have hea := eql_idw na na
  rw [decide_eq_true (rfl : na = na)] at hea
  have q1' := Lib.hid q1
  have q2' := Lib.hid q2
  have q3' := Lib.hid q3
  have q4' := Lib.hid q4
  clear q1 q2 q3 q4
  go_enter Tryz.func34, Tryz.ntmps34
  have hW : ∃ W, (((w.alloc (.cells #[.int .i64 1, .int .i64 1, .int .i64 1, .int .i64 1] 3)).alloc (.cells #[.slice (some ⟨w.heap.size, 0, none⟩) 4 4, .int .u64 0, .int .i64 1, .int .i64 1, .int .i64 4] 25)).alloc (.cells #[.int .i64 1, .int .i64 0, .int .u64 0, .int .u64 0, .int .u64 0] 64)) = W := ⟨_, rfl⟩
  obtain ⟨W, hW⟩ := hW
  have hB : Below w.heap.size w W := by subst hW; exact (((Below.refl _ w).alloc (Nat.le_refl _) _).alloc (by simp) _).alloc (by simp <;> omega) _
  have b0 : W.heap[w.heap.size]? = some (.cells #[.int .i64 1, .int .i64 1, .int .i64 1, .int .i64 1] 3 (0, 0)) := by subst hW; exact ha_lt (ha_lt (ha_at rfl))
  have b1 : W.heap[w.heap.size + 1]? = some (.cells #[.slice (some ⟨w.heap.size, 0, none⟩) 4 4, .int .u64 0, .int .i64 1, .int .i64 1, .int .i64 4] 25 (0, 0)) := by subst hW; exact ha_lt (ha_at (by simp))
  have b2 : W.heap[w.heap.size + 1 + 1]? = some (.cells #[.int .i64 1, .int .i64 0, .int .u64 0, .int .u64 0, .int .u64 0] 64 (0, 0)) := by subst hW; exact ha_at (by simp)
  have hWn := Lib.hid hW
  clear hW
  go_wp2_with fail
  rw [hWn.out]
  refine (hna _).mono ?_
  rintro e w1 ⟨rfl, hb1⟩
  have hz1 : w.heap.size + 1 + 1 < w1.heap.size := lt_of_block (bl_own hb1 b2)
  obtain ⟨x0, x1, _, _⟩ := blk2 (ha_at (w := w1) (o := .cells #[.int .u64 na.hi, .int .u64 na.lo] 35) (k := w1.heap.size) rfl)
  obtain ⟨a0, a1, a2, a3, a4⟩ := blk5 (ha_lt (o := .cells #[.int .i64 0, .int .i64 1, .int .u64 na.hi, .int .u64 na.lo, .int .i64 1, .int .i64 1, .int .u64 na.hi, .int .u64 na.lo, .int .i64 2, .int .i64 1, .int .u64 na.hi, .int .u64 na.lo, .int .i64 3, .int .i64 1, .int .u64 na.hi, .int .u64 na.lo] 42) (ha_lt (o := .cells #[.int .u64 na.hi, .int .u64 na.lo] 35) (bl_own hb1 b2)))
  go_wp2_with fail
  obtain ⟨V, hV⟩ : ∃ V, ((((w1.alloc (.cells #[.int .u64 na.hi, .int .u64 na.lo] 35)).alloc (.cells #[.int .i64 0, .int .i64 1, .int .u64 na.hi, .int .u64 na.lo, .int .i64 1, .int .i64 1, .int .u64 na.hi, .int .u64 na.lo, .int .i64 2, .int .i64 1, .int .u64 na.hi, .int .u64 na.lo, .int .i64 3, .int .i64 1, .int .u64 na.hi, .int .u64 na.lo] 42)).alloc (.cells #[.int .i64 1, .int .i64 0, .int .u64 0, .int .u64 0, .int .u64 0] 64)).alloc (.cells #[.slice (some ⟨w1.heap.size + 1 + 1, 0, none⟩) 1 1, .slice (some ⟨w1.heap.size + 1, 0, none⟩) 4 4] 29)) = V := ⟨_, rfl⟩
  have hbV : Below w1.heap.size w1 V := by subst hV; exact ((((Below.refl _ w1).alloc (Nat.le_refl _) _).alloc (by simp) _).alloc (by simp <;> omega) _).alloc (by simp <;> omega) _
  have hAw : Aw15At w V na w1.heap.size (w1.heap.size + 1) (w1.heap.size + 1 + 1) := by
    refine ⟨below_call (below_call hB hB.size hb1) (below_call hB hB.size hb1).size hbV, bl_own hbV (bl_own hb1 b0), bl_own hbV (bl_own hb1 b1), bl_own hbV (bl_own hb1 b2), ?_, ?_, ?_⟩
    · subst hV; exact ha_lt (ha_lt (ha_lt (ha_at rfl)))
    · subst hV; exact ha_lt (ha_lt (ha_at (by simp)))
    · subst hV; exact ha_lt (ha_at (by simp))
  have hvw : V.heap[w1.heap.size + 1 + 1 + 1]? = some (.cells #[.slice (some ⟨w1.heap.size + 1 + 1, 0, none⟩) 1 1, .slice (some ⟨w1.heap.size + 1, 0, none⟩) 4 4] 29 (0, 0)) := by subst hV; exact ha_at (by simp)
  rw [hV]
  clear hV hbV hWn b0 b1 b2 hB hb1 x0 x1 a0 a1 a2 a3 a4
  obtain ⟨I, hI⟩ : ∃ I, w1.heap.size = I := ⟨_, rfl⟩
  rw [hI] at hAw hvw hz1 ⊢
  clear hI
  go_cut [6] from 27 to 31 (fun v6 wx => ∃ (g B : Nat), v6 = .pointer (some ⟨g, 0, none⟩) ∧ wx.heap[g]? = some (.cells #[.slice (some ⟨B, 0, none⟩) 1 1, .slice (some ⟨I + 1, 0, none⟩) 3 4] 29 (0, 0)) ∧ wx.heap[B]? = some (.cells #[.int .i64 1, .int .i64 0, .int .u64 0, .int .u64 0, .int .u64 0] 64 (0, 0)) ∧ Below V.heap.size V wx)
  case first =>
    have ha := hAw.ha
    obtain ⟨Wb, hWb⟩ : ∃ Z, (V.alloc (.cells #[.int .i64 1, .int .i64 0, .int .u64 0, .int .u64 0, .int .u64 0] 64)).drew = Z := ⟨_, rfl⟩
    have hKb : Below V.heap.size V Wb := by subst hWb; exact ((Below.refl _ V).alloc (Nat.le_refl _) _).drew
    have hbb : Wb.heap[V.heap.size]? = some (.cells #[.int .i64 1, .int .i64 0, .int .u64 0, .int .u64 0, .int .u64 0] 64 (0, 0)) := by subst hWb; exact ha_at rfl
    obtain ⟨Wv, hWv⟩ : ∃ Z, (V.alloc (.cells #[.slice none 0 0, .slice none 0 0] 29)).drew = Z := ⟨_, rfl⟩
    have hKv : Below V.heap.size V Wv := by subst hWv; exact ((Below.refl _ V).alloc (Nat.le_refl _) _).drew
    have hvv : Wv.heap[V.heap.size]? = some (.cells #[.slice none 0 0, .slice none 0 0] 29 (0, 0)) := by subst hWv; exact ha_at rfl
    obtain ⟨Wvb, hWvb⟩ : ∃ Z, Wv.alloc (.cells #[.int .i64 1, .int .i64 0, .int .u64 0, .int .u64 0, .int .u64 0] 64) = Z := ⟨_, rfl⟩
    have hKvb : Below Wv.heap.size Wv Wvb := by subst hWvb; exact (Below.refl _ Wv).alloc (Nat.le_refl _) _
    have hvb : Wvb.heap[Wv.heap.size]? = some (.cells #[.int .i64 1, .int .i64 0, .int .u64 0, .int .u64 0, .int .u64 0] 64 (0, 0)) := by subst hWvb; exact ha_at rfl
    have hvv2 := bl_own hKvb hvv
    have ab := bl_own hKb ha
    have av := bl_own hKv ha
    have avb := bl_own hKvb av
    obtain ⟨m0, m1, m2, m3⟩ := blk2 hvv2
    have lt1 := lt_of_block hvw
    have lt2 := lt_of_block ha
    have lt3 := lt_of_block hvv
    obtain ⟨p1, p2⟩ := set2 hvv2 (.slice (some ⟨Wv.heap.size, 0, none⟩) 1 1) (.slice (some ⟨I + 1, 0, none⟩) 3 4)
    have avs := grown_own p2 avb (fun e => by have := Option.some.inj e; omega)
    have bvs := grown_own p2 hvb (fun e => by have := Option.some.inj e; omega)
    go_region_held3 (fun W' => W'.cell? ⟨w.heap.size + 1 + 1, 0, none⟩ = some (.int .i64 1) ∧ W'.cell? ⟨w.heap.size + 1 + 1, 1, none⟩ = some (.int .i64 0) ∧ W'.cell? ⟨w.heap.size + 1 + 1, 2, none⟩ = some (.int .u64 0) ∧ W'.cell? ⟨w.heap.size + 1 + 1, 3, none⟩ = some (.int .u64 0) ∧ W'.cell? ⟨w.heap.size + 1 + 1, 4, none⟩ = some (.int .u64 0))
      (first | exact blk5 ha | exact blk5 ab | exact blk5 av | exact blk5 avb | exact blk5 avs | exact blk5 (ha_lt ab)) (fail)
    all_goals go_wp2
    all_goals go_meet
    · exact ⟨_, _, rfl, ha_at rfl, ha_lt hbb, hKb.alloc hKb.size _⟩
    · exact ⟨_, _, rfl, p1, bvs, below_step (below_call hKv hKv.size hKvb) (below_call hKv hKv.size hKvb).size p2 (fun k e => by cases e; exact Nat.le_refl _)⟩
  case rest =>
    obtain ⟨g, B, rfl, hg, hgb, hK⟩ := hcut
    have hA2 := hAw.own hK
    have hvw2 := bl_own hK hvw
    clear hAw hvw hK hz1
    have hRx : ∀ X, Below wc.heap.size wc X → Rd 5 encBlk X (some ⟨B, 0, none⟩) [⟨1, 0, ⟨0, 0⟩, 0⟩] := fun X hX => (Rd_flat (w := wc) encBlk_len (by simp) hgb rfl).below hX
    have ht := fun X (hX : Below wc.heap.size wc X) => qtop_any ⟨[1, 1, 1, 1], 0, 1, 1, 4⟩ [⟨1, 0, ⟨0, 0⟩, 0⟩] [⟨0, 1, na⟩, ⟨1, 1, na⟩, ⟨2, 1, na⟩, ⟨3, 1, na⟩] 1 na (some ⟨w.heap.size, 0, none⟩) (some ⟨I + 1 + 1, 0, none⟩) (some ⟨I + 1, 0, none⟩) 4 1 4 X (hA2.own hX).r1 (hA2.own hX).r2 (hA2.own hX).r3 (by simp) (by simp) few15
    have hs := fun X (hX : Below wc.heap.size wc X) => qsure_any ⟨[1, 1, 1, 1], 0, 1, 1, 4⟩ [⟨1, 0, ⟨0, 0⟩, 0⟩] [⟨0, 1, na⟩, ⟨1, 1, na⟩, ⟨2, 1, na⟩, ⟨3, 1, na⟩] 1 na (some ⟨w.heap.size, 0, none⟩) (some ⟨I + 1 + 1, 0, none⟩) (some ⟨I + 1, 0, none⟩) 4 1 4 X (hA2.own hX).r1 (hA2.own hX).r2 (hA2.own hX).r3 (by simp) (by simp) few15
    have hn := fun X (hX : Below wc.heap.size wc X) => qsure_any ⟨[1, 1, 1, 1], 0, 1, 1, 4⟩ [⟨1, 0, ⟨0, 0⟩, 0⟩] [⟨0, 1, na⟩, ⟨1, 1, na⟩, ⟨2, 1, na⟩] 1 na (some ⟨w.heap.size, 0, none⟩) (some ⟨B, 0, none⟩) (some ⟨I + 1, 0, none⟩) 4 1 4 X (hA2.own hX).r1 (hRx X hX) (hA2.own hX).r4 (by simp) (by simp) few15
    have hf := fun X (hX : Below wc.heap.size wc X) => qfor_any ⟨[1, 1, 1, 1], 0, 1, 1, 4⟩ [⟨1, 0, ⟨0, 0⟩, 0⟩] [⟨0, 1, na⟩, ⟨1, 1, na⟩, ⟨2, 1, na⟩] 1 na (some ⟨w.heap.size, 0, none⟩) (some ⟨B, 0, none⟩) (some ⟨I + 1, 0, none⟩) 4 1 4 X (hA2.own hX).r1 (hRx X hX) (hA2.own hX).r4 (by simp) (by simp)
    simp only [q4'.out] at ht
    simp only [q1'.out] at hs
    simp only [q2'.out] at hn
    simp only [q3'.out] at hf
    unfold cfgv idv at ht hs hn hf
    dsimp only [List.length_cons, List.length_nil] at ht hs hn hf
    have ht := Lib.hid ht
    have hs := Lib.hid hs
    have hn := Lib.hid hn
    have hf := Lib.hid hf
    clear hRx q1' q2' q3' q4'
    obtain ⟨c0, c1, c2, c3, c4⟩ := blk5 hA2.hc; obtain ⟨c5, c6, _, _⟩ := blk2 hA2.hi
    obtain ⟨v0, v1, _, _⟩ := blk2 hvw2
    obtain ⟨g0, g1, _, _⟩ := blk2 hg
    go_wp2_with (first
      | (go_at_call 36; (with_reducible refine (ht.out _ (Below.refl _ _)).mono ?_); clear ht; rintro e w5 ⟨rfl, hb5⟩; have hl6 : Below w5.heap.size w5 (w5.alloc (.cells #[.int .u64 na.hi, .int .u64 na.lo] 35)) := (Below.refl _ w5).alloc (Nat.le_refl _) _; have hb6 := below_call hb5 hb5.size hl6; have hA6 := hA2.own hb6; have f6 := ha_at (w := w5) (o := .cells #[.int .u64 na.hi, .int .u64 na.lo] 35) (k := w5.heap.size) rfl; obtain ⟨d0, d1, d2, d3, d4⟩ := blk5 hA6.hc; obtain ⟨d5, d6, _, _⟩ := blk2 hA6.hi; obtain ⟨v2, v3, _, _⟩ := blk2 (bl_own hb6 hvw2); obtain ⟨g2, g3, _, _⟩ := blk2 (bl_own hb6 hg); obtain ⟨t2, t3, _, _⟩ := blk2 f6)
      | (go_at_call 40; (with_reducible refine (hs.out _ hb6).mono ?_); clear hs; rintro e w7 ⟨rfl, hb7⟩; have hb67 := below_call hb6 hb6.size hb7; have hA7 := hA2.own hb67; obtain ⟨e0, e1, e2, e3, e4⟩ := blk5 hA7.hc; obtain ⟨e5, e6, _, _⟩ := blk2 hA7.hi; obtain ⟨g4, g5, _, _⟩ := blk2 (bl_own hb67 hg); obtain ⟨t4, t5, _, _⟩ := blk2 (bl_own hb7 f6))
      | (go_at_call 40; (with_reducible refine (hn.out _ hb67).mono ?_); clear hn; rintro e w8 ⟨rfl, hb8⟩; have hb68 := below_call hb67 hb67.size hb8; have hA8 := hA2.own hb68; obtain ⟨p0, p1, p2, p3, p4⟩ := blk5 hA8.hc; obtain ⟨p5, p6, _, _⟩ := blk2 hA8.hi; obtain ⟨g6, g7, _, _⟩ := blk2 (bl_own hb68 hg); obtain ⟨t6, t7, _, _⟩ := blk2 (bl_own hb8 (bl_own hb7 f6)))
      | (go_at_call 38; (with_reducible refine (hf.out _ hb68).mono ?_); clear hf; rintro e w9 ⟨rfl, hb9⟩; have hb69 := below_call hb68 hb68.size hb9; have hA9 := hA2.own hb69))
    go_ret
    exact ⟨rfl, hA9.hB⟩
end Go.Proofs.YtaohkcdfjjiggaaGreat
