/- GI: several texts in one. -/
import Derived.Test.YtibmfpcbjopojaaGB
import Derived.Test.YtibmfpcbjopojaaGE
import Derived.Test.YtibmfpcbjopojaaGA
import Derived.Test.YtibmfpcbjopojaaGG
import Derived.Test.YtibmfpcbjopojaaGH
/-! The walks of marigoldref06.Kids, Chain and Under. -/
namespace Go.Proofs.Ytibmfpcbjopojaa
open Go.RowKit
theorem own_new1 {α : Type} {k : Nat} {enc : α → List Value} {w : World} {base g : Nat} {T : TypeId} {x : α} {cs : Array Value} (h : w.heap[g]? = some (.cells cs T (0, 0))) (hk : ∀ x, (enc x).length = k) (hcs : cs = (enc x).toArray) (hb : base ≤ g) : Own w base T k enc (.slice (some ⟨g, 0, none⟩) 1 1) [x] := by
  subst hcs
  exact ⟨by simp [hk], .inr ⟨g, 1, _, rfl, hb, h, Nat.le_refl _, by unfold maxLen; omega, by simp [hk], by simp [← hk x]⟩⟩
set_option maxRecDepth 100000 in
set_option maxHeartbeats 2000000 in
theorem rkids_any (l : List Blk) (id : ID) (A : Option Addr) (c : Nat) (w : World) (hr : Rd 5 encBlk w A l) (hok : ∀ b ∈ l, b.Ok) (hl : l.length ≤ 100000) :
    Calls Try.prog 34 #[.slice A l.length c, idv id] w fun e w' => ∃ v, e = .returned v ∧ Own w' w.heap.size 29 2 encID v (kids l id) ∧ Below w.heap.size w w' := by
  have hm := hr.1
  have hun := Try.underlying47
  have hnames := fun V (hV : Below w.heap.size w V) => rnames_any l A c V (hr.below hV) hok hl
  have hmay := fun V (hV : Below w.heap.size w V) N d hn hd => rmay_any l A N c d V (hr.below hV) hn hd hl
  have hnl : (names l).length = l.length := by simp [names]
  have hnat : ∀ j (h : j < l.length), (names l)[j]'(by rw [hnl]; exact h) = nameOf l[j] := fun j h => by simp [names]
  have hnat' := Lib.hid hnat
  clear hnat
  unfold idv at *
  have hW : ∃ W, w.alloc (.cells #[.int .u64 id.hi, .int .u64 id.lo] 29) = W := ⟨_, rfl⟩
  obtain ⟨W, hW⟩ := hW
  have hB : Below w.heap.size w W := by subst hW; exact (Below.refl _ w).alloc (Nat.le_refl _) _
  have b0 : W.heap[w.heap.size]? = some (.cells #[.int .u64 id.hi, .int .u64 id.lo] 29 (0, 0)) := by subst hW; exact ha_at rfl
  have hsz : w.heap.size + 1 = W.heap.size := by subst hW; simp
  by_cases ht : Tree l
  · have hmb : mayB l = true := by simp [mayB, ht]
    rw [hmb] at hmay
    have hk := Lib.hid (show kids l id = kidsOf l id by simp [kids, ht])
    clear hmb ht
    go_enter Try.func34, Try.ntmps34
    go_wp2_with (first
      | (go_at_call 68; refine (hnames _ hB).mono ?_; clear hnames; rintro e w1 ⟨v, rfl, ho, hb1⟩; have hB1 := below_call hB hB.size hb1; have b1 := bl_own hb1 b0; obtain ⟨N, d, hv, hd, hR⟩ := ho.rdc encID_len; rw [hnl] at hv hd; subst hv)
      | (go_at_call 69; refine (hmay _ hB1 N d hR hd).mono ?_; clear hmay; rintro e w2 ⟨rfl, hb2⟩; have hB2 := below_call hB1 hB1.size hb2; have b2 := bl_own hb2 b1; have hR2 := hR.below hb2))
    clear hb1 hb2 hB1 b1 b0 hR ho
    go_loopw [5, 8] (fun v i wr => ∃ k : Nat, k ≤ l.length ∧ i = .int .i64 k ∧ Own wr w2.heap.size 29 2 encID v (kidsOf (l.take k) id) ∧ Below w2.heap.size w2 wr) (fun _ i _ => l.length - (intOf i).toNat)
    case atStart => exact ⟨0, Nat.zero_le _, rfl, Own.nil _ _ _ _ _, Below.refl _ _⟩
    case round =>
      obtain ⟨k, hkl, rfl, hown, hBr⟩ := hrel
      have hB := below_call hB2 hB2.size hBr
      obtain ⟨c0, c1, f0, f1⟩ := blk2 (bl_own hBr b2)
      by_cases hlt : k < l.length
      · obtain ⟨b', o, rfl, hbo, d0, d1, d2, d3, d4⟩ := (hr.below hB).atBlk hlt
        obtain ⟨b'', o'', rfl, hbo2, n0, n1⟩ := (hR2.below hBr).atID (i := k) (by omega)
        have hsn := kidsOf_snoc hlt id
        have hle := kidsOf_len (l.take k) id
        rw [hnat'.out k hlt] at n0 n1
        obtain ⟨b, hbk⟩ : ∃ b, l[k] = b := ⟨_, rfl⟩
        rw [hbk] at d0 d1 d2 d3 d4 hsn n0 n1
        clear hbk
        have heq := eql_id b.par id
        unfold idv at heq
        have hle2 : (l.take k).length ≤ l.length := by simp; omega
        have hle3 : (kidsOf (l.take k) id).length ≤ 100000 := by omega
        obtain ⟨nm, hnm⟩ : ∃ nm, nameOf b = nm := ⟨_, rfl⟩
        rw [hnm] at n0 n1 hsn
        clear hle hle2 hnm
        have hvb : ∀ k, u5.ownBlock = some k → w2.heap.size ≤ k := fun k hk => (hown.base k hk).1
        by_cases hp : b.par = id
        · rw [decide_eq_true hp] at heq
          rw [if_pos hp] at hsn
          have hsn' := Lib.hid hsn
          clear hsn hp
          go_wp2_with fail
          go_quiet (fail)
          have hq := pw_below_drewN (Below.refl wr.heap.size wr) nq
          have n06 := (hq.cell (p := ⟨b'', _, none⟩) hbo2).trans n0
          have n16 := (hq.cell (p := ⟨b'', _, none⟩) hbo2).trans n1
          generalize wr.drewN nq = w6 at hq n06 n16 ⊢
          have hlay : Below w6.heap.size w6 (w6.alloc (.cells #[.int .u64 nm.hi, .int .u64 nm.lo] 29)) := (Below.refl _ w6).alloc (Nat.le_refl _) _
          have ho7 := (hown.below hq).below hlay
          have hB6 := below_call hBr hBr.size hq
          have hB7 := below_call hB6 hB6.size hlay
          go_wp2_with (at_builtin; refine wp_append1 rfl rfl hun infoID rfl (by decide) encID_len encID_one rfl ho7 (g := w6.heap.size) (c := 1) rfl (y := nm) (ha_at rfl) rfl (by omega) (by unfold maxLen; omega) hB7.size ?_; intro v' w8 ho8 hg8 hat8)
          go_roundw
          case rel => exact ⟨k + 1, hlt, by go_num, by rw [hsn'.out]; exact ho8, below_step hB7 hB7.size hg8 hvb⟩
          case measure => simp [intOf]; omega
        · rw [decide_eq_false hp] at heq
          rw [if_neg hp, List.append_nil] at hsn
          have hsn' := Lib.hid hsn
          clear hsn hp
          go_wp2_with fail
          go_quiet (fail)
          go_wp2
          go_roundw
          case rel => exact ⟨k + 1, hlt, by go_num, by rw [hsn'.out]; exact hown.below (pw_below_drewN (Below.refl _ _) _), pw_below_drewN hBr _⟩
          case measure => simp [intOf]; omega
      · obtain rfl : k = l.length := by omega
        rw [List.take_length] at hown
        go_wp2
        go_ret
        exact ⟨_, rfl, by rw [hk.out]; exact hown.mono hB2.size, hB⟩
  · have hmb : mayB l = false := by simp [mayB, ht]
    rw [hmb] at hmay
    have hk := Lib.hid (show kids l id = [] by simp [kids, ht])
    clear hmb ht
    go_enter Try.func34, Try.ntmps34
    go_wp2_with (first
      | (go_at_call 68; refine (hnames _ hB).mono ?_; clear hnames; rintro e w1 ⟨v, rfl, ho, hb1⟩; have hB1 := below_call hB hB.size hb1; have b1 := bl_own hb1 b0; obtain ⟨N, d, hv, hd, hR⟩ := ho.rdc encID_len; rw [hnl] at hv hd; subst hv)
      | (go_at_call 69; refine (hmay _ hB1 N d hR hd).mono ?_; clear hmay; rintro e w2 ⟨rfl, hb2⟩; have hB2 := below_call hB1 hB1.size hb2; have b2 := bl_own hb2 b1))
    refine wp_loop_rounds 1 ?_
    rw [rounds_succ]
    go_wp2_with fail
    all_goals
      go_ret
      exact ⟨_, rfl, by rw [hk.out]; exact Own.nil _ _ _ _ _, hB2⟩
end Go.Proofs.Ytibmfpcbjopojaa
/-! The walks of marigoldref06.Chain and Under. -/
namespace Go.Proofs.Ytibmfpcbjopojaa
open Go.RowKit
/-- What holds at the loop's head: where one is, and what is told already. -/
def ChAt (l : List Blk) (id x : ID) (j : Int) (acc : List ID) : Prop := idxI (names l) x = j ∧ (x = zid ∨ ∃ b ∈ l, nameOf b = x) ∧ acc ++ (chain l x).tail = chain l id
theorem ChAt.start {l : List Blk} {id : ID} {j : Int} (ht : Tree l) (hj : idxI (names l) id = j) (h : ¬ (j < 0 ∧ id ≠ zid)) : ChAt l id id j [id] := by
  have hk : id = zid ∨ ∃ b ∈ l, nameOf b = id := by
    rcases idx_names (l := l) (x := id) with ⟨h1, _⟩ | ⟨m, _, hml, hmn⟩
    · left
      exact Classical.byContradiction fun hne => h ⟨by omega, hne⟩
    · exact .inr ⟨_, List.getElem_mem hml, hmn⟩
  obtain ⟨r, hr⟩ := chain_head ht hk
  exact ⟨hj, hk, by rw [hr]; rfl⟩
theorem ChAt.done {l : List Blk} {id x : ID} {j : Int} {acc : List ID} (ht : Tree l) (h : ChAt l id x j acc) (hj : j < 0) : acc = chain l id := by
  obtain ⟨h1, h2, h3⟩ := h
  have hx : x = zid := by
    rcases h2 with e | ⟨b, hb, e⟩
    · exact e
    · rcases idx_names (l := l) (x := x) with ⟨_, hno⟩ | ⟨n, hn, _⟩
      · exact absurd e (hno b hb)
      · omega
  subst hx
  rw [chain_zid ht] at h3
  simpa using h3
theorem ChAt.step {l : List Blk} {id x : ID} {n : Nat} {acc : List ID} (ht : Tree l) (h : ChAt l id x n acc) : ∃ hn : n < l.length, ChAt l id l[n].par (idxI (names l) l[n].par) (acc ++ [l[n].par]) := by
  obtain ⟨h1, _, h3⟩ := h
  rcases idx_names (l := l) (x := x) with ⟨hi, _⟩ | ⟨m, hm, hml, hnm⟩
  · omega
  · have : m = n := by omega
    subst this
    refine ⟨hml, rfl, par_mem ht hml, ?_⟩
    rw [← h3, ← hnm, chain_cons ht hml]
    obtain ⟨r, hr⟩ := chain_head ht (par_mem ht hml)
    rw [hr]
    simp
theorem ChAt.len {l : List Blk} {id x : ID} {j : Int} {acc : List ID} (h : ChAt l id x j acc) : acc.length ≤ l.length + 1 := by
  have h1 := congrArg List.length h.2.2
  have h2 := chain_bound (l := l) id
  simp only [List.length_append] at h1
  omega
theorem chain_bad {l : List Blk} {id : ID} {j : Int} (hj : idxI (names l) id = j) (h : j < 0 ∧ id ≠ zid) : chain l id = [] :=
  chain_unknown h.2 (by
    rcases idx_names (l := l) (x := id) with ⟨_, h'⟩ | ⟨m, h', _⟩
    · exact h'
    · omega)
set_option maxRecDepth 100000 in
set_option maxHeartbeats 4000000 in
theorem rchain_any (l : List Blk) (id : ID) (A : Option Addr) (c : Nat) (w : World) (hr : Rd 5 encBlk w A l) (hok : ∀ b ∈ l, b.Ok) (hl : l.length ≤ 100000) :
    Calls Try.prog 95 #[.slice A l.length c, idv id] w fun e w' => ∃ v, e = .returned v ∧ Own w' w.heap.size 29 2 encID v (chain l id) ∧ Below w.heap.size w w' := by
  have hm := hr.1
  have hun := Try.underlying47
  have hnames := fun V (hV : Below w.heap.size w V) => rnames_any l A c V (hr.below hV) hok hl
  have hmay := fun V (hV : Below w.heap.size w V) N d hn hd => rmay_any l A N c d V (hr.below hV) hn hd hl
  have hnl : (names l).length = l.length := by simp [names]
  have hat := fun (x : ID) N d (V : World) (hn : Rd 2 encID V N (names l)) => rat_any x (names l) N d V hn
  rw [hnl] at hat
  unfold idv at *
  have hW : ∃ W, w.alloc (.cells #[.int .u64 id.hi, .int .u64 id.lo] 29) = W := ⟨_, rfl⟩
  obtain ⟨W, hW⟩ := hW
  have hB : Below w.heap.size w W := by subst hW; exact (Below.refl _ w).alloc (Nat.le_refl _) _
  have b0 : W.heap[w.heap.size]? = some (.cells #[.int .u64 id.hi, .int .u64 id.lo] 29 (0, 0)) := by subst hW; exact ha_at rfl
  have nz := neq_idz id
  have hat0 := hat id
  obtain ⟨j, hj⟩ : ∃ j, idxI (names l) id = j := ⟨_, rfl⟩
  rw [hj] at hat0
  have hlow := idx_low (names l) id
  have hup := idx_up (l := l) (x := id)
  rw [hj] at hlow hup
  by_cases ht : Tree l
  · have hmb : mayB l = true := by simp [mayB, ht]
    rw [hmb] at hmay
    by_cases hbad : j < 0 ∧ id ≠ zid
    · have hres := Lib.hid (chain_bad hj hbad)
      have hz : decide (id = zid) = false := by simpa using hbad.2
      have hz1 : decide (j < 0) = true := by simpa using hbad.1
      rw [hz] at nz
      clear hbad hz hmb ht hj hat
      go_enter Try.func95, Try.ntmps95
      go_wp2_with (first
        | (go_at_call 68; refine (hnames _ hB).mono ?_; clear hnames; rintro e w1 ⟨v, rfl, ho, hb1⟩; have hB1 := below_call hB hB.size hb1; have b1 := bl_own hb1 b0; obtain ⟨N, d, hv, hd, hR⟩ := ho.rdc encID_len; rw [hnl] at hv hd; subst hv)
        | (go_at_call 69; refine (hmay _ hB1 N d hR hd).mono ?_; clear hmay; rintro e w2 ⟨rfl, hb2⟩; have hB2 := below_call hB1 hB1.size hb2; have b2 := bl_own hb2 b1; have hR2 := hR.below hb2; obtain ⟨p0, p1, _, _⟩ := blk2 b2)
        | (go_at_call 94; refine (hat0 N d _ hR2).mono ?_; clear hat0; rintro e w3 ⟨rfl, hb3⟩; have hB3 := below_call hB2 hB2.size hb3; have b3 := bl_own hb3 b2; obtain ⟨q0, q1, _, _⟩ := blk2 b3))
      go_ret
      exact ⟨_, rfl, by rw [hres.out]; exact Own.nil _ _ _ _ _, hB3⟩
    · have hU' := Lib.hid (ChAt.start ht hj hbad)
      have hcases : (decide (j < 0) = true ∧ decide (id = zid) = true) ∨ decide (j < 0) = false := by
        by_cases h : j < 0
        · exact .inl ⟨by simpa using h, by simpa using Classical.byContradiction fun hne => hbad ⟨h, hne⟩⟩
        · exact .inr (by simpa using h)
      clear hbad hmb hj
      rcases hcases with ⟨hz1, hz⟩ | hz1
      all_goals
        try rw [hz] at nz
        go_enter Try.func95, Try.ntmps95
        go_wp2_with (first
          | (go_at_call 68; refine (hnames _ hB).mono ?_; clear hnames; rintro e w1 ⟨v, rfl, ho, hb1⟩; have hB1 := below_call hB hB.size hb1; have b1 := bl_own hb1 b0; obtain ⟨N, d, hv, hd, hR⟩ := ho.rdc encID_len; rw [hnl] at hv hd; subst hv; have hNb : ∀ a, N = some a → W.heap.size ≤ a.block ∧ a.block < w1.heap.size := fun a e => ho.base a.block (by subst e; rfl))
          | (go_at_call 69; refine (hmay _ hB1 N d hR hd).mono ?_; clear hmay; rintro e w2 ⟨rfl, hb2⟩; have hB2 := below_call hB1 hB1.size hb2; have b2 := bl_own hb2 b1; have hR2 := hR.below hb2; obtain ⟨p0, p1, _, _⟩ := blk2 b2)
          | (go_at_call 94; refine (hat0 N d _ hR2).mono ?_; clear hat0; rintro e w3 ⟨rfl, hb3⟩; have hB3 := below_call hB2 hB2.size hb3; have b3 := bl_own hb3 b2; obtain ⟨q0, q1, _, _⟩ := blk2 b3; have hR3 := hR2.below hb3))
        have hNb3 : ∀ a, N = some a → w.heap.size < a.block ∧ a.block < w3.heap.size := fun a e => by have := hNb a e; have := hb2.size; have := hb3.size; have := lt_of_block b0; omega
        clear hNb
        have hlay : Below w3.heap.size w3 (w3.alloc (.cells #[.int .u64 id.hi, .int .u64 id.lo] 29)) := (Below.refl _ w3).alloc (Nat.le_refl _) _
        have ho4 : Own (w3.alloc (.cells #[.int .u64 id.hi, .int .u64 id.lo] 29)) w3.heap.size 29 2 encID (.slice (some ⟨w3.heap.size, 0, none⟩) 1 1) [id] := own_new1 (ha_at rfl) encID_len rfl (Nat.le_refl _)
        have hB4 := below_call hB3 hB3.size hlay
        have b4 := bl_own hlay b3
        have hR4 := hR3.below hlay
        have hlt3 := lt_of_block b3
        have hs4 : w3.heap.size ≤ (w3.alloc (.cells #[.int .u64 id.hi, .int .u64 id.lo] 29)).heap.size := hlay.size
        generalize w3.alloc (.cells #[.int .u64 id.hi, .int .u64 id.lo] 29) = w4 at ho4 hB4 b4 hR4 hs4 ⊢
        clear hlay hb1 hb2 hb3 hB1 hB2 b1 b2 b3 p0 p1 q0 q1 hR hR2 hR3 ho nz hz1 b0 hB hB3
        go_loopw [7, 8] (fun i v wr => ∃ (x : ID) (j : Int) (acc : List ID), i = .int .i64 j ∧ -1 ≤ j ∧ j < (l.length : Int) + 1 ∧ Hid (ChAt l id x j acc) ∧ acc.length ≤ l.length + 1 ∧ Own wr w3.heap.size 29 2 encID v acc ∧ wr.heap[w.heap.size]? = some (.cells #[.int .u64 x.hi, .int .u64 x.lo] 29 (0, 0)) ∧ Rd 2 encID wr N (names l) ∧ w3.heap.size ≤ wr.heap.size ∧ Below w.heap.size w wr) (fun i _ _ => (intOf i + 1).toNat)
        case atStart => exact ⟨id, j, [id], rfl, hlow, hup, hU', by simp, ho4, b4, hR4, hs4, hB4⟩
        case round =>
          obtain ⟨x, j', acc, rfl, hlo', hup', hUx, hlen, hown, hbx, hRN, hsr, hBr⟩ := hrel
          obtain ⟨x0, x1, fx0, fx1⟩ := blk2 hbx
          have hvb : ∀ k, u8.ownBlock = some k → w3.heap.size ≤ k := fun k hk => (hown.base k hk).1
          clear hlow hup hU' b4 hR4 hB4 ho4
          by_cases hj0 : j' < 0
          · have hd := Lib.hid (hUx.out.done ht hj0)
            have hz2 : decide (0 ≤ j') = false := by simpa using hj0
            clear hj0
            go_wp2_with fail
            go_ret
            exact ⟨_, rfl, by rw [← hd.out]; exact hown.mono (by omega), hBr⟩
          · have hz2 : decide (0 ≤ j') = true := by simpa using hj0
            obtain ⟨n, rfl⟩ : ∃ n : Nat, j' = n := ⟨j'.toNat, by omega⟩
            obtain ⟨hnl', hst⟩ := hUx.out.step ht
            have hpi := par_idx ht hnl'
            have hlo2 := idx_low (names l) l[n].par
            have hup2 := idx_up (l := l) (x := l[n].par)
            have hlen2 := hst.len
            have hat2 := hat l[n].par
            obtain ⟨j2, hj2⟩ : ∃ j, idxI (names l) l[n].par = j := ⟨_, rfl⟩
            rw [hj2] at hst hpi hlo2 hup2 hat2
            have hst' := Lib.hid hst
            obtain ⟨b', o, rfl, hbo, d0, d1, d2, d3, d4⟩ := (hr.below hBr).atBlk hnl'
            obtain ⟨p, hp⟩ : ∃ p, l[n].par = p := ⟨_, rfl⟩
            rw [hp] at hst' hat2 d2 d3
            obtain ⟨hs1, hs2⟩ := set2 hbx (.int .u64 p.hi) (.int .u64 p.lo)
            clear hst hj2 hp hUx hj0
            have hlt0 := lt_of_block hbx
            obtain ⟨W2, hW2⟩ : ∃ W2, (wr.setCell ⟨w.heap.size, 0, none⟩ (.int .u64 p.hi)).setCell ⟨w.heap.size, 1, none⟩ (.int .u64 p.lo) = W2 := ⟨_, rfl⟩
            rw [hW2] at hs1 hs2
            have hB2 := below_step hBr hBr.size hs2 (by simp)
            have hR2 := hRN.grown hs2 (fun a e => by have := hNb3 a e; simp; omega)
            have ho2 := hown.grown hs2 (.inr (fun e => by have := hvb _ e; omega))
            obtain ⟨y0, y1, _, _⟩ := blk2 hs1
            have hlay2 : Below W2.heap.size W2 (W2.alloc (.cells #[.int .u64 p.hi, .int .u64 p.lo] 29)) := (Below.refl _ W2).alloc (Nat.le_refl _) _
            have ho3 := ho2.below hlay2
            have hB3 := below_call hB2 hB2.size hlay2
            have hR3 := hR2.below hlay2
            have hx3 := bl_own hlay2 hs1
            have hs2s := hs2.size
            have hsl2 := hlay2.size
            have hvb2 := lt_of_block hx3
            go_wp2_with (first
              | (rw [hW2]; fail)
              | (at_builtin; refine wp_append1 rfl rfl hun infoID rfl (by decide) encID_len encID_one rfl ho3 (g := W2.heap.size) (c := 1) rfl (y := p) (ha_at rfl) rfl (by omega) (by unfold maxLen; omega) (by omega) ?_; intro v' w8 ho8 hg8 hat8; have hx8 := grown_own hg8 hx3 (fun e => by have := hvb _ e.symm; omega); obtain ⟨z0, z1, _, _⟩ := blk2 hx8; have hR8 := hR3.grown hg8 (fun a e e2 => by have := hNb3 a e; have := hvb _ e2.symm; omega); have hB8 := below_step hB3 hB3.size hg8 (fun k hk => by have := hvb k hk; omega))
              | (go_at_call 94; refine (hat2 N d _ hR8).mono ?_; clear hat2; rintro e w9 ⟨rfl, hb9⟩; have hB9 := below_call hB8 hB8.size hb9))
            go_roundw
            case rel => exact ⟨p, j2, acc ++ [p], rfl, hlo2, hup2, hst', by simpa using hlen2, ho8.below hb9, bl_own hb9 hx8, hR8.below hb9, by have := hg8.size; have := hb9.size; omega, hB9⟩
            case measure => simp [intOf]; omega
  · have hmb : mayB l = false := by simp [mayB, ht]
    rw [hmb] at hmay
    have hk := Lib.hid (chain_notree ht id)
    clear hmb ht
    go_enter Try.func95, Try.ntmps95
    go_wp2_with (first
      | (go_at_call 68; refine (hnames _ hB).mono ?_; clear hnames; rintro e w1 ⟨v, rfl, ho, hb1⟩; have hB1 := below_call hB hB.size hb1; have b1 := bl_own hb1 b0; obtain ⟨N, d, hv, hd, hR⟩ := ho.rdc encID_len; rw [hnl] at hv hd; subst hv)
      | (go_at_call 69; refine (hmay _ hB1 N d hR hd).mono ?_; clear hmay; rintro e w2 ⟨rfl, hb2⟩; have hB2 := below_call hB1 hB1.size hb2; have b2 := bl_own hb2 b1; have hR2 := hR.below hb2; obtain ⟨p0, p1, _, _⟩ := blk2 b2)
      | (go_at_call 94; refine (hat0 N d _ hR2).mono ?_; clear hat0; rintro e w3 ⟨rfl, hb3⟩; have hB3 := below_call hB2 hB2.size hb3; have b3 := bl_own hb3 b2))
    go_ret
    exact ⟨_, rfl, by rw [hk.out]; exact Own.nil _ _ _ _ _, hB3⟩
set_option maxRecDepth 100000 in
set_option maxHeartbeats 1000000 in
theorem runder_any (l : List Blk) (low id : ID) (A : Option Addr) (c : Nat) (w : World) (hr : Rd 5 encBlk w A l) (hok : ∀ b ∈ l, b.Ok) (hl : l.length ≤ 100000) :
    Calls Try.prog 65 #[.slice A l.length c, idv low, idv id] w fun e w' => e = .returned (.bool (decide (low ∈ chain l id))) ∧ Below w.heap.size w w' := by
  have hch := fun V (hV : Below w.heap.size w V) => rchain_any l id A c V (hr.below hV) hok hl
  have hat := fun N d (V : World) (hn : Rd 2 encID V N (chain l id)) => rat_any low (chain l id) N d V hn
  have him := Lib.hid (idx_mem (chain l id) low)
  obtain ⟨q, hq⟩ : ∃ q, chain l id = q := ⟨_, rfl⟩
  rw [hq] at hch hat him ⊢
  clear hq
  obtain ⟨j, hj⟩ : ∃ j, idxI q low = j := ⟨_, rfl⟩
  rw [hj] at hat him
  clear hj
  unfold idv at *
  have hW : ∃ W, (w.alloc (.cells #[.int .u64 low.hi, .int .u64 low.lo] 29)).alloc (.cells #[.int .u64 id.hi, .int .u64 id.lo] 29) = W := ⟨_, rfl⟩
  obtain ⟨W, hW⟩ := hW
  have hB : Below w.heap.size w W := by subst hW; exact ((Below.refl _ w).alloc (Nat.le_refl _) _).alloc (by simp) _
  have b0 : W.heap[w.heap.size]? = some (.cells #[.int .u64 low.hi, .int .u64 low.lo] 29 (0, 0)) := by subst hW; exact ha_lt (ha_at rfl)
  have b1 : W.heap[w.heap.size + 1]? = some (.cells #[.int .u64 id.hi, .int .u64 id.lo] 29 (0, 0)) := by subst hW; exact ha_at (by simp)
  obtain ⟨c0, c1, _, _⟩ := blk2 b0
  obtain ⟨c2, c3, _, _⟩ := blk2 b1
  go_enter Try.func65, Try.ntmps65
  go_wp2_with fail
  go_region_held3 (fun W' => W'.cell? ⟨w.heap.size, 0, none⟩ = some (.int .u64 low.hi) ∧ W'.cell? ⟨w.heap.size, 1, none⟩ = some (.int .u64 low.lo) ∧ W'.cell? ⟨w.heap.size + 1, 0, none⟩ = some (.int .u64 id.hi) ∧ W'.cell? ⟨w.heap.size + 1, 1, none⟩ = some (.int .u64 id.lo)) (first | exact ⟨c0, c1, c2, c3⟩ | exact ⟨e1, e2, e3, e4⟩ | exact ⟨g1, g2, g3, g4⟩) ((first
      | (go_at_call 95; refine (hch _ hB.drew).mono ?_; rintro e w1 ⟨u, rfl, hown, hk1⟩; obtain ⟨A', c', rfl, hR⟩ := hown.rd encID_len; have k0 := bl_own hk1 b0; have k1 := bl_own hk1 b1; obtain ⟨e1, e2, _, _⟩ := blk2 k0; obtain ⟨e3, e4, _, _⟩ := blk2 k1)
      | (go_at_call 94; refine (hat _ _ _ hR).mono ?_; rintro e w2 ⟨rfl, hk2⟩; obtain ⟨g1, g2, _, _⟩ := blk2 (bl_own hk2 k0); obtain ⟨g3, g4, _, _⟩ := blk2 (bl_own hk2 k1))))
  go_wp2
  go_ret
  exact ⟨ret_bool him.out, below_call (below_call hB.drew hB.size hk1) (Nat.le_trans hB.size hk1.size) hk2⟩
end Go.Proofs.Ytibmfpcbjopojaa
/-! The walks of marigoldref13.on and On. -/
namespace Go.Proofs.Ytibmfpcbjopojaa
open Go.RowKit
set_option maxRecDepth 100000 in
set_option maxHeartbeats 4000000 in
theorem rlon_any (c : Cfg) (l : List Blk) (m : List Vote) (bo : ID) (pct : Int) (x : ID) (A A2 A3 : Option Addr) (k k2 k3 : Nat) (w : World) (hok : ∀ b ∈ l, b.Ok) (hr : Rd 1 encI w A c.W) (hr2 : Rd 5 encBlk w A2 l) (hr3 : Rd 4 encVote w A3 m) (hl : l.length ≤ 100000) (hvl : m.length ≤ 100000) :
    Calls Try.prog 32 #[cfgv A k c, .slice A2 l.length k2, .slice A3 m.length k3, idv bo, .int .i64 pct, idv x] w fun e w' => e = .returned (.int .i64 (lmdW c l m bo pct x)) ∧ Below w.heap.size w w' := by
  have hm := hr.1
  have hm2 := hr2.1
  have hm3 := hr3.1
  have hon := fun V (hV : Below w.heap.size w V) => ron_any c l m x A A2 A3 k k2 k3 V hok (hr.below hV) (hr2.below hV) (hr3.below hV) hl hvl
  have hun := fun V (hV : Below w.heap.size w V) => runder_any l x bo A2 k2 V (hr2.below hV) hok hl
  have hbo := fun V (hV : Below w.heap.size w V) => rboost_any c pct A k V (hr.below hV)
  have hob : 0 ≤ onC c l m x ∧ onC c l m x ≤ 13194139533312 := weightC_bd c _
  have hbb := boostC_bd c pct
  have hw : lmdW c l m bo pct x = onC c l m x + (if bo ≠ zid ∧ x ∈ chain l bo then boostC c pct else 0) := rfl
  have nz := neq_idz bo
  obtain ⟨n, hn⟩ : ∃ n, onC c l m x = n := ⟨_, rfl⟩
  obtain ⟨q, hq⟩ : ∃ q, boostC c pct = q := ⟨_, rfl⟩
  rw [hn] at hon hob hw
  rw [hq] at hbo hbb hw
  clear hn hq
  unfold cfgv idv at *
  have hW : ∃ W, ((w.alloc (.cells #[.slice A c.W.length k, .int .u64 c.seed, .int .i64 c.epoch, .int .i64 c.num, .int .i64 c.den] 25)).alloc (.cells #[.int .u64 bo.hi, .int .u64 bo.lo] 29)).alloc (.cells #[.int .u64 x.hi, .int .u64 x.lo] 29) = W := ⟨_, rfl⟩
  obtain ⟨W, hW⟩ := hW
  have hB : Below w.heap.size w W := by subst hW; exact (((Below.refl _ w).alloc (Nat.le_refl _) _).alloc (by simp) _).alloc (by simp <;> omega) _
  have b0 : W.heap[w.heap.size]? = some (.cells #[.slice A c.W.length k, .int .u64 c.seed, .int .i64 c.epoch, .int .i64 c.num, .int .i64 c.den] 25 (0, 0)) := by subst hW; exact ha_lt (ha_lt (ha_at rfl))
  have b1 : W.heap[w.heap.size + 1]? = some (.cells #[.int .u64 bo.hi, .int .u64 bo.lo] 29 (0, 0)) := by subst hW; exact ha_lt (ha_at (by simp))
  have b2 : W.heap[w.heap.size + 1 + 1]? = some (.cells #[.int .u64 x.hi, .int .u64 x.lo] 29 (0, 0)) := by subst hW; exact ha_at (by simp)
  obtain ⟨c0, c1, c2, c3, c4⟩ := blk5 b0
  obtain ⟨c5, c6, _, _⟩ := blk2 b1
  obtain ⟨c7, c8, _, _⟩ := blk2 b2
  have hu : ∀ bz ux : Bool, decide (bo = zid) = bz → decide (x ∈ chain l bo) = ux → (lmdW c l m bo pct x = n + (if bz = false ∧ ux = true then q else 0)) := fun bz ux h1 h2 => by
    rw [hw, ← h1, ← h2]
    congr 1
    by_cases e1 : bo = zid <;> by_cases e2 : x ∈ chain l bo <;> simp [e1, e2]
  clear hw
  obtain ⟨bz, hbz⟩ : ∃ bz, decide (bo = zid) = bz := ⟨_, rfl⟩
  obtain ⟨ux, hux⟩ : ∃ ux, decide (x ∈ chain l bo) = ux := ⟨_, rfl⟩
  have hres := hu bz ux hbz hux
  rw [hbz] at nz
  rw [hux] at hun
  clear hbz hux hu
  cases bz <;> cases ux
  all_goals
    simp only [Bool.false_eq_true, Bool.true_eq_false, and_self, and_true, and_false, if_true, if_false] at hres
    have hres' := Lib.hid hres
    clear hres
    go_enter Try.func32, Try.ntmps32
    go_wp2_with (first
      | (go_at_call 64; (with_reducible refine (hon _ hB).mono ?_); clear hon; rintro e w1 ⟨rfl, hb1⟩; have hB1 := below_call hB hB.size hb1; have d0 := bl_own hb1 b0; have d1 := bl_own hb1 b1; have d2 := bl_own hb1 b2; obtain ⟨e5, e6, _, _⟩ := blk2 d1; obtain ⟨e7, e8, _, _⟩ := blk2 d2)
      | (go_at_call 65; (with_reducible refine (hun _ hB1).mono ?_); clear hun; rintro e w2 ⟨rfl, hb2⟩; have hB2 := below_call hB1 hB1.size hb2; obtain ⟨f0, f1, f2, f3, f4⟩ := blk5 (bl_own hb2 d0); obtain ⟨f5, f6, _, _⟩ := blk2 (bl_own hb2 d1))
      | (go_at_call 16; (with_reducible refine (hbo _ hB2).mono ?_); clear hbo; rintro e w3 ⟨rfl, hb3⟩; have hB3 := below_call hB2 hB2.size hb3))
    go_ret
    first | exact ⟨ret_int (by rw [hres'.out]; omega), hB3⟩ | exact ⟨ret_int (by rw [hres'.out]; omega), hB2⟩ | exact ⟨ret_int hres'.out.symm, hB3⟩
end Go.Proofs.Ytibmfpcbjopojaa
/-! The walks of marigoldref13.On and Head. -/
namespace Go.Proofs.Ytibmfpcbjopojaa
open Go.RowKit
set_option maxRecDepth 100000 in
set_option maxHeartbeats 4000000 in
theorem rlonv_any (c : Cfg) (l : List Blk) (vs : List Vote) (u : Int) (bo : ID) (pct : Int) (x : ID) (A A2 A3 : Option Addr) (k k2 k3 : Nat) (w : World) (hok : ∀ b ∈ l, b.Ok) (hr : Rd 1 encI w A c.W) (hr2 : Rd 5 encBlk w A2 l) (hr3 : Rd 4 encVote w A3 vs) (hl : l.length ≤ 100000) (hvl : vs.length ≤ 100000) :
    Calls Try.prog 13 #[cfgv A k c, .slice A2 l.length k2, .slice A3 vs.length k3, .int .i64 u, idv bo, .int .i64 pct, idv x] w fun e w' => e = .returned (.int .i64 (lmdW c l (lastL vs u) bo pct x)) ∧ Below w.heap.size w w' := by
  have hm := hr.1
  have hm2 := hr2.1
  have hm3 := hr3.1
  have hll := lastL_len vs u
  have hla := fun V (hV : Below w.heap.size w V) => rvlast_any vs u A3 k3 V (hr3.below hV) hvl
  have hon := fun (A4 : Option Addr) k4 V (hV : Below w.heap.size w V) (h4 : Rd 4 encVote V A4 (lastL vs u)) => rlon_any c l (lastL vs u) bo pct x A A2 A4 k k2 k4 V hok (hr.below hV) (hr2.below hV) h4 hl (by omega)
  obtain ⟨r, hrr⟩ : ∃ r, lmdW c l (lastL vs u) bo pct x = r := ⟨_, rfl⟩
  rw [hrr] at hon ⊢
  clear hrr hll
  obtain ⟨m, hme⟩ : ∃ m, lastL vs u = m := ⟨_, rfl⟩
  rw [hme] at hla hon
  clear hme
  unfold cfgv idv at *
  have hW : ∃ W, ((w.alloc (.cells #[.slice A c.W.length k, .int .u64 c.seed, .int .i64 c.epoch, .int .i64 c.num, .int .i64 c.den] 25)).alloc (.cells #[.int .u64 bo.hi, .int .u64 bo.lo] 29)).alloc (.cells #[.int .u64 x.hi, .int .u64 x.lo] 29) = W := ⟨_, rfl⟩
  obtain ⟨W, hW⟩ := hW
  have hB : Below w.heap.size w W := by subst hW; exact (((Below.refl _ w).alloc (Nat.le_refl _) _).alloc (by simp) _).alloc (by simp <;> omega) _
  have b0 : W.heap[w.heap.size]? = some (.cells #[.slice A c.W.length k, .int .u64 c.seed, .int .i64 c.epoch, .int .i64 c.num, .int .i64 c.den] 25 (0, 0)) := by subst hW; exact ha_lt (ha_lt (ha_at rfl))
  have b1 : W.heap[w.heap.size + 1]? = some (.cells #[.int .u64 bo.hi, .int .u64 bo.lo] 29 (0, 0)) := by subst hW; exact ha_lt (ha_at (by simp))
  have b2 : W.heap[w.heap.size + 1 + 1]? = some (.cells #[.int .u64 x.hi, .int .u64 x.lo] 29 (0, 0)) := by subst hW; exact ha_at (by simp)
  obtain ⟨c0, c1, c2, c3, c4⟩ := blk5 b0
  obtain ⟨c5, c6, _, _⟩ := blk2 b1
  obtain ⟨c7, c8, _, _⟩ := blk2 b2
  go_enter Try.func13, Try.ntmps13
  go_wp2_with fail
  go_region_held3 (fun W' => W'.cell? ⟨w.heap.size, 0, none⟩ = some (.slice A c.W.length k) ∧ W'.cell? ⟨w.heap.size, 1, none⟩ = some (.int .u64 c.seed) ∧ W'.cell? ⟨w.heap.size, 2, none⟩ = some (.int .i64 c.epoch) ∧ W'.cell? ⟨w.heap.size, 3, none⟩ = some (.int .i64 c.num) ∧ W'.cell? ⟨w.heap.size, 4, none⟩ = some (.int .i64 c.den) ∧
      W'.cell? ⟨w.heap.size + 1, 0, none⟩ = some (.int .u64 bo.hi) ∧ W'.cell? ⟨w.heap.size + 1, 1, none⟩ = some (.int .u64 bo.lo) ∧ W'.cell? ⟨w.heap.size + 1 + 1, 0, none⟩ = some (.int .u64 x.hi) ∧ W'.cell? ⟨w.heap.size + 1 + 1, 1, none⟩ = some (.int .u64 x.lo))
    (first | exact ⟨c0, c1, c2, c3, c4, c5, c6, c7, c8⟩ | exact ⟨d0, d1, d2, d3, d4, d5, d6, d7, d8⟩ | exact ⟨e0, e1, e2, e3, e4, e5, e6, e7, e8⟩) ((first
    | (go_at_call 33; refine (hla _ hB.drew).mono ?_; rintro e w1 ⟨v, rfl, ho, hb1⟩; obtain ⟨A4, k4, hv, hR4⟩ := ho.rd encVote_len; subst hv; have hB1 := below_call hB.drew hB.size hb1; have b0' := bl_own hb1 b0; obtain ⟨d0, d1, d2, d3, d4⟩ := blk5 b0'; have b1' := bl_own hb1 b1; obtain ⟨d5, d6, _, _⟩ := blk2 b1'; have b2' := bl_own hb1 b2; obtain ⟨d7, d8, _, _⟩ := blk2 b2')
    | (go_at_call 32; refine (hon _ _ _ hB1 hR4).mono ?_; rintro e w2 ⟨rfl, hb2⟩; have hB2 := below_call hB1 hB1.size hb2; obtain ⟨e0, e1, e2, e3, e4⟩ := blk5 (bl_own hb2 b0'); obtain ⟨e5, e6, _, _⟩ := blk2 (bl_own hb2 b1'); obtain ⟨e7, e8, _, _⟩ := blk2 (bl_own hb2 b2'))))
  go_wp2
  go_ret
  exact ⟨rfl, hB2⟩
set_option maxRecDepth 100000 in
set_option maxHeartbeats 8000000 in
theorem rlhead_any (c : Cfg) (l : List Blk) (vs : List Vote) (u : Int) (bo : ID) (pct : Int) (A A2 A3 : Option Addr) (k k2 k3 : Nat) (w : World) (hok : ∀ b ∈ l, b.Ok) (hr : Rd 1 encI w A c.W) (hr2 : Rd 5 encBlk w A2 l) (hr3 : Rd 4 encVote w A3 vs) (hl : l.length ≤ 100000) (hvl : vs.length ≤ 100000) :
    Calls Try.prog 14 #[cfgv A k c, .slice A2 l.length k2, .slice A3 vs.length k3, .int .i64 u, idv bo, .int .i64 pct] w fun e w' => e = .returned (idv (lmdHead c l (lastL vs u) bo pct)) ∧ Below w.heap.size w w' := by
  have hm := hr.1
  have hm2 := hr2.1
  have hm3 := hr3.1
  have hll := lastL_len vs u
  have hla := fun V (hV : Below w.heap.size w V) => rvlast_any vs u A3 k3 V (hr3.below hV) hvl
  have hon := fun (x : ID) (A4 : Option Addr) k4 V (hV : Below w.heap.size w V) (h4 : Rd 4 encVote V A4 (lastL vs u)) => rlon_any c l (lastL vs u) bo pct x A A2 A4 k k2 k4 V hok (hr.below hV) (hr2.below hV) h4 hl (by omega)
  have hki := fun V x (hV : Below w.heap.size w V) => rkids_any l x A2 k2 V (hr2.below hV) hok hl
  have hless := fun x y V => rless_any x y V
  have hkl : ∀ x, (kids l x).length ≤ l.length := fun x => by
    unfold kids
    split
    · exact kidsOf_len l x
    · simp
  unfold lmdHead
  have hbd : ∀ x, 0 ≤ lmdW c l (lastL vs u) bo pct x ∧ lmdW c l (lastL vs u) bo pct x ≤ 26388279066624 := fun x => by
    have h1 := lmdW_bd c l (lastL vs u) bo pct x
    have h2 : 0 ≤ onC c l (lastL vs u) x ∧ onC c l (lastL vs u) x ≤ 13194139533312 := weightC_bd c _
    have h3 := boostC_bd c pct
    omega
  obtain ⟨f, hf⟩ : ∃ f, lmdW c l (lastL vs u) bo pct = f := ⟨_, rfl⟩
  obtain ⟨m, hme⟩ : ∃ m, lastL vs u = m := ⟨_, rfl⟩
  simp only [hf] at hon hbd ⊢
  simp only [hme] at hla hon
  clear hf hll hme
  have hgo0 := Lib.hid (show headGo l f (l.length + 1 - 0) zid = headBy l f from headGo_more)
  have hbd' := Lib.hid hbd
  have hkl' := Lib.hid hkl
  have hon' := Lib.hid hon
  have hki' := Lib.hid hki
  clear hbd hkl hon hki
  obtain ⟨r, hrr⟩ : ∃ r, headBy l f = r := ⟨_, rfl⟩
  rw [hrr] at hgo0 ⊢
  clear hrr
  unfold cfgv idv at *
  have hW : ∃ W, ((w.alloc (.cells #[.slice A c.W.length k, .int .u64 c.seed, .int .i64 c.epoch, .int .i64 c.num, .int .i64 c.den] 25)).alloc (.cells #[.int .u64 bo.hi, .int .u64 bo.lo] 29)).alloc (.cells #[.int .u64 0, .int .u64 0] 29) = W := ⟨_, rfl⟩
  obtain ⟨W, hW⟩ := hW
  have hB : Below w.heap.size w W := by subst hW; exact (((Below.refl _ w).alloc (Nat.le_refl _) _).alloc (by simp) _).alloc (by simp <;> omega) _
  have b0 : W.heap[w.heap.size]? = some (.cells #[.slice A c.W.length k, .int .u64 c.seed, .int .i64 c.epoch, .int .i64 c.num, .int .i64 c.den] 25 (0, 0)) := by subst hW; exact ha_lt (ha_lt (ha_at rfl))
  have b1 : W.heap[w.heap.size + 1]? = some (.cells #[.int .u64 bo.hi, .int .u64 bo.lo] 29 (0, 0)) := by subst hW; exact ha_lt (ha_at (by simp))
  have b2 : W.heap[w.heap.size + 1 + 1]? = some (.cells #[.int .u64 0, .int .u64 0] 29 (0, 0)) := by subst hW; exact ha_at (by simp)
  have hWs := lt_of_block b2
  go_enter Try.func14, Try.ntmps14
  go_wp2_with (go_at_call 33; (with_reducible refine (hla _ hB).mono ?_); clear hla; rintro e w1 ⟨v, rfl, ho, hb1⟩; have hB1 := below_call hB hB.size hb1; obtain ⟨A4, k4, hv, hR4⟩ := ho.rd encVote_len; subst hv; have q0 := bl_own hb1 b0; have q1 := bl_own hb1 b1; have q2 := bl_own hb1 b2; have hl2 : Below w1.heap.size w1 (w1.alloc (.cells #[.int .u64 0, .int .u64 0] 29)) := (Below.refl _ w1).alloc (Nat.le_refl _) _)
  have q0' := bl_own hl2 q0
  have q1' := bl_own hl2 q1
  have q2' := bl_own hl2 q2
  have hB2 := below_call hB1 hB1.size hl2
  have hR42 := hR4.below hl2
  have q3' : (w1.alloc (.cells #[.int .u64 0, .int .u64 0] 29)).heap[w1.heap.size]? = some (.cells #[.int .u64 0, .int .u64 0] 29 (0, 0)) := ha_at rfl
  have hA4 : ∀ a, A4 = some a → a.block < w1.heap.size := fun a e => (ho.base a.block (by subst e; rfl)).2
  have hg2 := lt_of_block q2
  clear hl2 hb1 hB1 hR4 ho b0 b1 b2 q0 q1 q2 hB hW
  generalize w1.alloc (.cells #[.int .u64 0, .int .u64 0] 29) = w2 at q0' q1' q2' q3' hB2 hR42 ⊢
  obtain ⟨g14, hg14⟩ : ∃ g14, w1.heap.size = g14 := ⟨_, rfl⟩
  rw [hg14] at q3' hA4 hg2 ⊢
  clear hg14
  go_loopw [15, 16, 17, 18, 19, 20, 21] (fun i _v16 _v17 _v18 _v19 _v20 _v21 wr => ∃ (j : Nat) (x : ID), j ≤ l.length + 1 ∧ i = .int .i64 j ∧ Hid (headGo l f (l.length + 1 - j) x = r) ∧ wr.heap[g14]? = some (.cells #[.int .u64 x.hi, .int .u64 x.lo] 29 (0, 0)) ∧ w2.grownBy wr (some g14)) (fun i _ _ _ _ _ _ _ => l.length + 1 - (intOf i).toNat)
  case atStart => exact ⟨0, zid, Nat.zero_le _, rfl, hgo0, q3', grown_below (Below.refl _ _) _⟩
  case round =>
    obtain ⟨j, x, hj, rfl, hgo, hbx, hG⟩ := hrel
    have hBr := below_step hB2 hB2.size hG (fun k e => by cases e; omega)
    obtain ⟨x0, x1, g0, g1⟩ := blk2 hbx
    have y0 := grown_own hG q0' (by simp; omega)
    have y1 := grown_own hG q1' (by simp; omega)
    have y2 := grown_own hG q2' (by simp; omega)
    have hR4 := hR42.grown hG (fun a e => by have := hA4 a e; simp; omega)
    by_cases hlt : j ≤ l.length
    · have hkx := hkl'.out x
      have hkix := fun V hV => hki'.out V x hV
      cases hks : kids l x with
      | nil =>
        rw [hks] at hkix
        have hfin := Lib.hid (show x = r by rw [← hgo.out, headGo_nil hks])
        clear hks hkx
        go_wp2_with (go_at_call 34; (with_reducible refine (hkix _ hBr).mono ?_); clear hkix; rintro e w3 ⟨v, rfl, ho, hb3⟩; have hB3 := below_call hBr hBr.size hb3; obtain ⟨A5, k5, hv, hR5⟩ := ho.rd encID_len; subst hv; have z2 := bl_own hb3 y2; obtain ⟨s0, s1, _, _⟩ := blk2 (bl_own hb3 hbx); obtain ⟨s2, s3, s4, s5⟩ := blk2 z2)
        obtain ⟨k1, kk2⟩ := set2 z2 (.int .u64 x.hi) (.int .u64 x.lo)
        obtain ⟨m0, m1, _, _⟩ := blk2 k1
        refine bodyPost_ret (v := .agg #[.int .u64 x.hi, .int .u64 x.lo]) ?_ rfl ⟨?_, ?_⟩
        · simp [results, Try.results14, go_sem, m0, m1]
        · rw [hfin.out]
        · exact below_step hB3 hB3.size kk2 (fun k e => by cases e; omega)
      | cons k0 ks =>
        rw [hks] at hkix hkx
        have hstep := Lib.hid (show headGo l f (l.length + 1 - (j + 1)) (ks.foldl (pick f) k0) = r by
          rw [← hgo.out, show l.length + 1 - j = (l.length + 1 - (j + 1)) + 1 by omega, headGo_cons hks])
        clear hks
        simp only [List.length_cons] at hkx
        obtain ⟨n0, hn0⟩ : ∃ n0, f k0 = n0 := ⟨_, rfl⟩
        have honk := fun V hV h4 => hon'.out k0 A4 k4 V hV h4
        rw [hn0] at honk
        have hn0' := Lib.hid hn0
        clear hn0
        go_wp2_with (first
          | (go_at_call 34; (with_reducible refine (hkix _ hBr).mono ?_); clear hkix; rintro e w3 ⟨v, rfl, ho, hb3⟩; have hB3 := below_call hBr hBr.size hb3; obtain ⟨A5, k5, hv, hR5⟩ := ho.rd encID_len; subst hv; obtain ⟨b', o, hAe, hbo, d0, d1⟩ := hR5.atID (i := 0) (by simp); subst hAe; simp only [Nat.zero_mul, Nat.add_zero, List.getElem_cons_zero] at d0 d1; have hl4 : Below w3.heap.size w3 (w3.alloc (.cells #[.int .u64 k0.hi, .int .u64 k0.lo] 29)) := (Below.refl _ w3).alloc (Nat.le_refl _) _; have z0 := bl_own hb3 y0; have z1 := bl_own hb3 y1; have z3 := bl_own hb3 hbx; have zb : (w3.alloc (.cells #[.int .u64 k0.hi, .int .u64 k0.lo] 29)).heap[w3.heap.size]? = some (.cells #[.int .u64 k0.hi, .int .u64 k0.lo] 29 (0, 0)) := ha_at rfl; have hR43 := hR4.below hb3; have hB4 := below_call hB3 hB3.size hl4; obtain ⟨s0, s1, s2, s3, s4⟩ := blk5 (bl_own hl4 z0); obtain ⟨s5, s6, _, _⟩ := blk2 (bl_own hl4 z1); obtain ⟨s7, s8, _, _⟩ := blk2 zb)
          | (go_at_call 32; (with_reducible refine (honk _ hB4 (hR43.below hl4)).mono ?_); clear honk; rintro e w5 ⟨rfl, hb5⟩; have hG5 := below_call hl4 hl4.size hb5; have vb := bl_own hb5 zb))
        have hg3 := lt_of_block z3
        clear d0 d1 hbx x0 x1 g0 g1 s0 s1 s2 s3 s4 s5 s6 s7 s8 hb5 zb hB4 hl4 y0 y1 y2
        go_loopw [18, 19, 20, 21] (fun q i _v20 _v21 wr => ∃ (jj : Nat) (bb : ID), jj ≤ ks.length ∧ i = .int .i64 ((jj + 1 : Nat) : Int) ∧ Hid (bb = (ks.take jj).foldl (pick f) k0) ∧ q = .int .i64 (f bb) ∧ wr.heap[w3.heap.size]? = some (.cells #[.int .u64 bb.hi, .int .u64 bb.lo] 29 (0, 0)) ∧ Below w3.heap.size w3 wr) (fun _ i _ _ _ => ks.length + 1 - (intOf i).toNat)
        case atStart => exact ⟨0, k0, Nat.zero_le _, rfl, Lib.hid rfl, by rw [hn0'.out], vb, hG5⟩
        case round =>
          obtain ⟨jj, bb, hjj, rfl, hbb, rfl, hbk, hGi⟩ := hrel
          have hBr5 := below_call hB3 hB3.size hGi
          have u0 := bl_own hGi z0
          have u1 := bl_own hGi z1
          have u3 := bl_own hGi z3
          have hgb2 := lt_of_block hbk
          obtain ⟨p0, p1, fp0, fp1⟩ := blk2 hbk
          clear vb hG5
          by_cases hlt2 : jj < ks.length
          · obtain ⟨b2, o2, hAe, hbo2, e0, e1⟩ := (hR5.below hGi).atID (i := jj + 1) (by simp; omega)
            cases hAe
            simp only [List.getElem_cons_succ] at e0 e1
            have hsn := Lib.hid (show pick f bb ks[jj] = (ks.take (jj + 1)).foldl (pick f) k0 by rw [best_take hlt2, ← hbb.out])
            obtain ⟨x2, hx2⟩ : ∃ x2, ks[jj] = x2 := ⟨_, rfl⟩
            rw [hx2] at e0 e1 hsn
            clear hx2
            have honx := fun p => hon'.out x2 A4 k4 (gr wr p) (hBr5.trans ((gr_below _ _).mono hBr5.size)) ((hR43.below hGi).below (gr_below _ _))
            have hpk : ∀ b, beats f bb x2 = b → pick f bb x2 = if b then x2 else bb := fun b e => by unfold pick; rw [e]
            have hbe : beats f bb x2 = (decide (f bb < f x2) || decide (f x2 = f bb) && idLess bb x2) := rfl
            have hlessx := fun V => hless bb x2 V
            obtain ⟨n2, hn2⟩ : ∃ n2, f x2 = n2 := ⟨_, rfl⟩
            obtain ⟨nb, hnb⟩ : ∃ nb, f bb = nb := ⟨_, rfl⟩
            obtain ⟨ls, hls⟩ : ∃ ls, idLess bb x2 = ls := ⟨_, rfl⟩
            simp only [hn2] at honx
            rw [hn2, hnb, hls] at hbe
            simp only [hls] at hlessx
            rw [hnb]
            have hn2' := Lib.hid hn2
            have hnb' := Lib.hid hnb
            clear hn2 hnb hls
            obtain ⟨c0, c1, c2, c3, c4⟩ := blk5 u0
            obtain ⟨c5, c6, _, _⟩ := blk2 u1
            have y0 := gr_cell c0
            have y1 := gr_cell c1
            have y2 := gr_cell c2
            have y3 := gr_cell c3
            have y4 := gr_cell c4
            have y5 := gr_cell c5
            have y6 := gr_cell c6
            have y7 := gr_cell e0
            have y8 := gr_cell e1
            clear c0 c1 c2 c3 c4 c5 c6
            go_wp2_with fail
            refine wp_region_gr (by kernel_rfl) (by kernel_rfl) ?_
            repeat (go_big_quiet_step ((go_at_call 32; with_reducible exact Calls.gr_of (honx _))))
            refine wpQuiet_nil ?_
            rintro _ ⟨pq, rfl⟩
            have hq6 := gr_below wr pq
            have vk := bl_own hq6 hbk
            have f0 := y7 pq
            have f1 := y8 pq
            generalize gr wr pq = w6 at hq6 vk f0 f1 ⊢
            clear y0 y1 y2 y3 y4 y5 y6 y7 y8 honx e0 e1
            obtain ⟨r0, r1, _, _⟩ := blk2 vk
            have y0 := gr_cell r0
            have y1 := gr_cell r1
            have y2 := gr_cell f0
            have y3 := gr_cell f1
            have hG6 := below_call hGi hGi.size hq6
            go_wp2_with fail
            refine wp_region_gr (by kernel_rfl) (by kernel_rfl) ?_
            repeat (go_big_quiet_step ((go_at_call 35; with_reducible exact Calls.gr_of (hlessx _))))
            refine wpQuiet_nil ?_
            rintro _ ⟨pq2, rfl⟩
            have hq7 := gr_below w6 pq2
            have vk7 := bl_own hq7 vk
            have h0 := y2 pq2
            have h1 := y3 pq2
            generalize gr w6 pq2 = w7 at hq7 vk7 h0 h1 ⊢
            clear y0 y1 y2 y3 hlessx f0 f1 r0 r1
            have hG7 := below_call hG6 hG6.size hq7
            obtain ⟨r0, r1, r2, r3⟩ := blk2 vk7
            by_cases hc1 : nb < n2
            · have hp := Lib.hid ((hpk true (by rw [hbe]; simp [hc1])).trans (if_pos rfl))
              clear hpk hbe
              go_wp2_with fail
              obtain ⟨kk1, kk2⟩ := set2 vk7 (.int .u64 x2.hi) (.int .u64 x2.lo)
              go_roundw
              case rel => exact ⟨jj + 1, x2, hlt2, by go_num, Lib.hid (by rw [← hsn.out, hp.out]), by rw [hn2'.out], kk1, below_step hG7 hG7.size kk2 (fun k e => by cases e; exact Nat.le_refl _)⟩
              case measure => simp [intOf]; omega
            · by_cases hc2 : n2 = nb
              · have hc2' : (n2 == nb) = true := by simpa using hc2
                cases ls with
                | true =>
                  have hp := Lib.hid ((hpk true (by rw [hbe]; simp [hc2])).trans (if_pos rfl))
                  clear hpk hbe hc2
                  go_wp2_with fail
                  obtain ⟨kk1, kk2⟩ := set2 vk7 (.int .u64 x2.hi) (.int .u64 x2.lo)
                  go_roundw
                  case rel => exact ⟨jj + 1, x2, hlt2, by go_num, Lib.hid (by rw [← hsn.out, hp.out]), by rw [hn2'.out], kk1, below_step hG7 hG7.size kk2 (fun k e => by cases e; exact Nat.le_refl _)⟩
                  case measure => simp [intOf]; omega
                | false =>
                  have hp := Lib.hid ((hpk false (by rw [hbe]; simp [hc1])).trans (if_neg (by simp)))
                  clear hpk hbe hc2
                  go_wp2_with fail
                  go_roundw
                  case rel => exact ⟨jj + 1, bb, hlt2, by go_num, Lib.hid (by rw [← hsn.out, hp.out]), by rw [hnb'.out], vk7, hG7⟩
                  case measure => simp [intOf]; omega
              · have hp := Lib.hid ((hpk false (by rw [hbe]; simp [hc1, hc2])).trans (if_neg (by simp)))
                have hc2' : (n2 == nb) = false := by simpa using hc2
                clear hpk hbe hc2
                go_wp2_with fail
                go_roundw
                case rel => exact ⟨jj + 1, bb, hlt2, by go_num, Lib.hid (by rw [← hsn.out, hp.out]), by rw [hnb'.out], vk7, hG7⟩
                case measure => simp [intOf]; omega
          · obtain rfl : jj = ks.length := by omega
            rw [List.take_length] at hbb
            obtain ⟨z0, z1, z2, z4⟩ := blk2 u3
            go_wp2_with fail
            obtain ⟨kk1, kk2⟩ := set2 u3 (.int .u64 bb.hi) (.int .u64 bb.lo)
            go_roundw
            case rel => exact ⟨j + 1, bb, by omega, by go_num, Lib.hid (by rw [hbb.out]; exact hstep.out), kk1, grown_trans (grown_trans hG (grown_below (below_call hb3 hb3.size hGi) _)) kk2⟩
            case measure => simp [intOf]; omega
    · obtain rfl : j = l.length + 1 := by omega
      have hfin := Lib.hid (show x = r by rw [← hgo.out, Nat.sub_self]; rfl)
      obtain ⟨s2, s3, s4, s5⟩ := blk2 y2
      go_wp2_with fail
      obtain ⟨k1, kk2⟩ := set2 y2 (.int .u64 x.hi) (.int .u64 x.lo)
      obtain ⟨m0, m1, _, _⟩ := blk2 k1
      refine bodyPost_ret (v := .agg #[.int .u64 x.hi, .int .u64 x.lo]) ?_ rfl ⟨?_, ?_⟩
      · simp [results, Try.results14, go_sem, m0, m1]
      · rw [hfin.out]
      · exact below_step hBr hBr.size kk2 (fun k e => by cases e; omega)
end Go.Proofs.Ytibmfpcbjopojaa
