/- The walks of marigoldref06.MayIn and UnderIn. -/
import Derived.Test.YtlhndhgkoacilaaRefMay
namespace Go.Proofs.Ytlhndhgkoacilaa
open Go.RowKit
set_option maxRecDepth 100000 in
set_option maxHeartbeats 1000000 in
theorem rmayin_any (l : List Blk) (A N : Option Addr) (c d : Nat) (w : World) (hr : Rd 5 encBlk w A l) (hn : Rd 2 encID w N (names l)) (hd : l.length ≤ d) (hl : l.length ≤ 100000) :
    Calls Try.prog 29 #[.slice A l.length c, .slice N l.length d] w fun e w' => e = .returned (.bool (mayB l)) ∧ Below w.heap.size w w' := by
  have hc := rmay_any l A N c d w hr hn hd hl
  go_enter Try.func29, Try.ntmps29
  go_wp2_with (go_at_call 43; refine hc.mono ?_; clear hc; rintro e w1 ⟨rfl, hb⟩)
  go_ret
  exact ⟨rfl, hb⟩
theorem idx_names {l : List Blk} {x : ID} : idxI (names l) x = -1 ∧ (∀ b ∈ l, nameOf b ≠ x) ∨ ∃ n : Nat, idxI (names l) x = n ∧ ∃ h : n < l.length, nameOf l[n] = x := by
  unfold idxI
  cases hf : (names l).findIdx? fun y => decide (y = x) with
  | none =>
    left
    rw [List.findIdx?_eq_none_iff] at hf
    refine ⟨rfl, fun b hb he => ?_⟩
    have := hf (nameOf b) (List.mem_map.2 ⟨b, hb, rfl⟩)
    simp [he] at this
  | some n =>
    right
    rw [List.findIdx?_eq_some_iff_getElem] at hf
    obtain ⟨h1, h2, _⟩ := hf
    simp only [names, List.length_map] at h1
    simp only [names, List.getElem_map, decide_eq_true_eq] at h2
    exact ⟨n, rfl, h1, h2⟩
theorem idx_up {l : List Blk} {x : ID} : idxI (names l) x < (l.length : Int) + 1 := by
  rcases idx_names (l := l) (x := x) with ⟨h, _⟩ | ⟨n, h, hn, _⟩ <;> omega
theorem par_idx {l : List Blk} (ht : Tree l) {n : Nat} (hn : n < l.length) : idxI (names l) l[n].par < n := by
  rcases idx_names (l := l) (x := l[n].par) with ⟨h, _⟩ | ⟨m, h, hm, he⟩
  · omega
  · rw [h]
    rcases (ht n hn).2.2 with ⟨hz, _⟩ | ⟨_, c, hc, h1, _⟩
    · exact absurd (he.trans hz) (ht m hm).1
    · obtain ⟨k, hk, rfl⟩ := List.getElem_of_mem hc
      simp only [List.length_take] at hk
      simp only [List.getElem_take] at h1
      have : m = k := tree_inj ht hm (by omega) (by rw [he, h1])
      omega
/-- What holds at the loop's head. -/
def UnderAt (l : List Blk) (low id x : ID) (j : Int) : Prop := idxI (names l) x = j ∧ (x = zid ∨ ∃ b ∈ l, nameOf b = x) ∧ (low ∈ chain l x ↔ low ∈ chain l id)
theorem UnderAt.zero {l : List Blk} {low id x : ID} {j : Int} (ht : Tree l) (h : UnderAt l low id x j) (hj : j < 0) : x = zid ∧ decide (x = low) = decide (low ∈ chain l id) := by
  obtain ⟨h1, h2, h3⟩ := h
  have hx : x = zid := by
    rcases h2 with e | ⟨b, hb, e⟩
    · exact e
    · rcases idx_names (l := l) (x := x) with ⟨_, hno⟩ | ⟨n, hn, _⟩
      · exact absurd e (hno b hb)
      · omega
  refine ⟨hx, ?_⟩
  subst hx
  rw [chain_zid ht] at h3
  by_cases he : low = zid
  · simp only [he, decide_true]; simpa [he] using h3
  · have he' : ¬ zid = low := fun e => he e.symm
    simpa [he, he'] using h3
theorem UnderAt.found {l : List Blk} {low id x : ID} {j : Int} (ht : Tree l) (h : UnderAt l low id x j) (hx : x = low) : decide (low ∈ chain l id) = true := by
  obtain ⟨_, h2, h3⟩ := h
  subst hx
  obtain ⟨r, hr⟩ := chain_head ht h2
  simpa using h3.1 (by rw [hr]; simp)
theorem UnderAt.step {l : List Blk} {low id x : ID} {n : Nat} (ht : Tree l) (h : UnderAt l low id x n) (hx : x ≠ low) : ∃ hn : n < l.length, UnderAt l low id l[n].par (idxI (names l) l[n].par) := by
  obtain ⟨h1, _, h3⟩ := h
  rcases idx_names (l := l) (x := x) with ⟨hi, _⟩ | ⟨m, hm, hml, hnm⟩
  · omega
  · have : m = n := by omega
    subst this
    refine ⟨hml, rfl, par_mem ht hml, ?_⟩
    rw [← h3, ← hnm, chain_cons ht hml]
    simp only [List.mem_cons]
    constructor
    · exact .inr
    · rintro (e | e)
      · exact absurd (hnm.symm.trans e.symm) hx
      · exact e
set_option maxRecDepth 100000 in
set_option maxHeartbeats 2000000 in
theorem runderin_any (l : List Blk) (low id : ID) (A N : Option Addr) (c d : Nat) (w : World) (ht : Tree l) (hr : Rd 5 encBlk w A l) (hn : Rd 2 encID w N (names l)) (_ : l.length ≤ 100000) :
    Calls Try.prog 44 #[.slice A l.length c, .slice N l.length d, idv low, idv id] w fun e w' => e = .returned (.bool (decide (low ∈ chain l id))) ∧ Below w.heap.size w w' := by
  have hm := hr.1
  have hnl : (names l).length = l.length := by simp [names]
  have hat := fun (x : ID) (W : World) (hW : Below w.heap.size w W) => rat_any x (names l) N d W (hn.below hW)
  rw [hnl] at hat
  clear hnl
  unfold idv at *
  have hW : ∃ W, (w.alloc (.cells #[.int .u64 low.hi, .int .u64 low.lo] 29)).alloc (.cells #[.int .u64 id.hi, .int .u64 id.lo] 29) = W := ⟨_, rfl⟩
  obtain ⟨W, hW⟩ := hW
  have hB : W.heap[w.heap.size]? = some (.cells #[.int .u64 low.hi, .int .u64 low.lo] 29 (0, 0)) ∧ W.heap[w.heap.size + 1]? = some (.cells #[.int .u64 id.hi, .int .u64 id.lo] 29 (0, 0)) ∧ Below w.heap.size w W := by
    subst hW; exact ⟨ha_lt (ha_at rfl), ha_at (by simp), ((Below.refl _ w).alloc (Nat.le_refl _) _).alloc (by simp) _⟩
  obtain ⟨hb0, hb1, hB⟩ := hB
  obtain ⟨c0, c1, _, _⟩ := blk2 hb1
  have nz := neq_idz id
  have hat0 := hat id
  obtain ⟨j, hj⟩ : ∃ j, idxI (names l) id = j := ⟨_, rfl⟩
  rw [hj] at hat0
  by_cases hbad : j < 0 ∧ id ≠ zid
  · obtain ⟨h1, h2⟩ := hbad
    have hres : decide (low ∈ chain l id) = false := by
      rw [chain_unknown h2 (by
        rcases idx_names (l := l) (x := id) with ⟨_, h⟩ | ⟨m, h, _⟩
        · exact h
        · omega)]
      simp
    have hres' := Lib.hid hres
    have hz : decide (id = zid) = false := by simpa using h2
    rw [hz] at nz
    have hz1 : decide (j < 0) = true := by simpa using h1
    clear hres h1 h2 hz hj
    go_enter Try.func44, Try.ntmps44
    go_wp2_with fail
    refine (hat0 W hB).mono ?_
    rintro e w1 ⟨rfl, hb⟩
    obtain ⟨e0, e1, _, _⟩ := blk2 (bl_own hb hb1)
    go_wp2
    go_ret
    exact ⟨ret_bool hres'.out.symm, below_call hB hB.size hb⟩
  · have hU : UnderAt l low id id j := ⟨hj, (by
      rcases idx_names (l := l) (x := id) with ⟨h, _⟩ | ⟨m, _, hml, hmn⟩
      · left
        refine Classical.byContradiction fun hne => hbad ⟨by omega, hne⟩
      · exact .inr ⟨_, List.getElem_mem hml, hmn⟩), Iff.rfl⟩
    have hlow := idx_low (names l) id
    have hup := idx_up (l := l) (x := id)
    rw [hj] at hlow hup
    have hcases : (decide (j < 0) = true ∧ decide (id = zid) = true) ∨ decide (j < 0) = false := by
      by_cases h : j < 0
      · exact .inl ⟨by simpa using h, by simpa using Classical.byContradiction fun hne => hbad ⟨h, hne⟩⟩
      · exact .inr (by simpa using h)
    have hU' := Lib.hid hU
    clear hU hbad hj
    go_enter Try.func44, Try.ntmps44
    go_wp2_with fail
    refine (hat0 W hB).mono ?_
    rintro e w1 ⟨rfl, hb⟩
    have hB1 := below_call hB hB.size hb
    have hb0' := bl_own hb hb0
    have hb1' := bl_own hb hb1
    obtain ⟨e0, e1, _, _⟩ := blk2 hb1'
    clear hat0 c0 c1
    rcases hcases with ⟨hz1, hz⟩ | hz1
    all_goals
      try rw [hz] at nz
      go_wp2_with fail
      go_loopw [9] (fun i wr => ∃ (x : ID) (j : Int), i = .int .i64 j ∧ -1 ≤ j ∧ j < (l.length : Int) + 1 ∧ Hid (UnderAt l low id x j) ∧ wr.heap[w.heap.size]? = some (.cells #[.int .u64 low.hi, .int .u64 low.lo] 29 (0, 0)) ∧ wr.heap[w.heap.size + 1]? = some (.cells #[.int .u64 x.hi, .int .u64 x.lo] 29 (0, 0)) ∧ Below w.heap.size w wr) (fun i _ => (intOf i + 1).toNat)
      case atStart => exact ⟨id, j, rfl, hlow, hup, hU', hb0', hb1', hB1⟩
      case round =>
        obtain ⟨x, j', rfl, hlo', hup', hUx, hbl, hbx, hBr⟩ := hrel
        obtain ⟨x0, x1, fx0, fx1⟩ := blk2 hbx
        obtain ⟨l0, l1, _, _⟩ := blk2 hbl
        have ne1 := neq_idw x low
        have eq1 := eql_idw x low
        clear hz1 nz e0 e1 hb0' hb1' hB1 hlow hup hU'
        by_cases hj0 : j' < 0
        · have hd := (hUx.out.zero ht hj0).2
          rw [hd] at eq1
          have hz2 : decide (0 ≤ j') = false := by simpa using hj0
          clear hj0 hd
          go_wp2_with fail
          go_ret
          exact ⟨rfl, hBr⟩
        · have hz2 : decide (0 ≤ j') = true := by simpa using hj0
          by_cases hx : x = low
          · have hd := hUx.out.found ht hx
            have hz3 : decide (x = low) = true := by simpa using hx
            rw [hz3] at ne1 eq1
            have hd' := Lib.hid hd
            clear hx hz3 hd hj0
            go_wp2_with fail
            go_ret
            exact ⟨ret_bool hd'.out.symm, hBr⟩
          · have hz3 : decide (x = low) = false := by simpa using hx
            rw [hz3] at ne1 eq1
            obtain ⟨n, rfl⟩ : ∃ n : Nat, j' = n := ⟨j'.toNat, by omega⟩
            obtain ⟨hnl, hst⟩ := hUx.out.step ht hx
            have hpi := par_idx ht hnl
            have hlo2 := idx_low (names l) l[n].par
            have hup2 := idx_up (l := l) (x := l[n].par)
            obtain ⟨j2, hj2⟩ : ∃ j, idxI (names l) l[n].par = j := ⟨_, rfl⟩
            have hat2 := hat l[n].par
            rw [hj2] at hst hpi hlo2 hup2 hat2
            have hst' := Lib.hid hst
            obtain ⟨b', o, rfl, hbo, d0, d1, d2, d3, d4⟩ := (hr.below hBr).atBlk hnl
            obtain ⟨p, hp⟩ : ∃ p, l[n].par = p := ⟨_, rfl⟩
            rw [hp] at hst' hat2 d2 d3
            obtain ⟨hs1, hs2⟩ := set2 hbx (.int .u64 p.hi) (.int .u64 p.lo)
            clear hx hz3 hst hj2 hp hUx hj0
            go_wp2_with fail
            obtain ⟨W2, hW2⟩ : ∃ W2, (wr.setCell ⟨w.heap.size + 1, 0, none⟩ (.int .u64 p.hi)).setCell ⟨w.heap.size + 1, 1, none⟩ (.int .u64 p.lo) = W2 := ⟨_, rfl⟩
            rw [hW2] at hs1 hs2 ⊢
            have hB3 := below_step hBr hBr.size hs2 (by simp)
            have hbl3 := grown_own hs2 hbl (by simp)
            refine (hat2 W2 hB3).mono ?_
            rintro e w4 ⟨rfl, hb4⟩
            have hB4 := below_call hB3 hB3.size hb4
            go_wp2_with fail
            go_roundw
            case rel => exact ⟨p, j2, rfl, hlo2, hup2, hst', bl_own hb4 hbl3, bl_own hb4 hs1, hB4⟩
            case measure => simp [intOf]; omega
end Go.Proofs.Ytlhndhgkoacilaa
