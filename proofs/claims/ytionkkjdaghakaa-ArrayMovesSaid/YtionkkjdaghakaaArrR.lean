/- marigoldref10.May, Top, walked. -/
import Derived.Test.YtionkkjdaghakaaArrO
namespace Go.Proofs.Ytionkkjdaghakaa
open Go.RowKit
theorem find_le {a : List Item} {k : Nat} (hk : k < a.length) : 0 ≤ findI a (itm a k).id ∧ findI a (itm a k).id ≤ k := by
  rcases find_spec a (itm a k).id with ⟨_, h⟩ | ⟨q, h1, h2, h3, h4⟩
  · exact absurd rfl (h k hk)
  · rw [h2]
    refine ⟨by omega, ?_⟩
    rcases Nat.lt_or_ge k q with h | h
    · exact absurd rfl (h4 k h)
    · omega
theorem may_same {a l : List Item} (hp : Plain a) (hl : a.length ≤ 60) (hs : Settled l) (hk : SameSk l a) : decide (MayA a) = decide (a = l) := by
  rw [Bool.eq_iff_iff]
  simp only [decide_eq_true_eq]
  constructor
  · intro hm
    exact (settled_uniq (hk.par hp.parOk) hk hs hm.2.2).symm
  · intro e
    subst e
    exact ⟨hl, hp, hs⟩
set_option maxRecDepth 100000 in
set_option maxHeartbeats 1000000 in
theorem rmay10_any (a : List Item) (A : Option Addr) (c : Nat) (w : World) (hr : Rd 7 encItem w A a) (hN : A = none → c = 0) :
    Calls Try.prog 10 #[.slice A a.length c] w fun e w' => e = .returned (.bool (decide (MayA a))) ∧ Below w.heap.size w w' := by
  have hm := hr.1
  have hB0 := Below.refl w.heap.size w
  have hfind := fun id V (hV : Below w.heap.size w V) => rfind_any a id A c V (hr.below hV)
  have hanew := fun (hl : a.length ≤ 60) (hp : Plain a) V (hV : Below w.heap.size w V) => anew_any a (by omega) hp.parOk (fun i hi => (hp i hi).2.2.2.2) A c V (hr.below hV) hN
  have hsame := fun (l : List Item) (B : Option Addr) (d : Nat) V (hV : Below w.heap.size w V) (hl : Rd 7 encItem V B l) => same_any a l A B c d V (hr.below hV) hl
  unfold idv at hfind
  obtain ⟨res, hres⟩ : ∃ res, decide (MayA a) = res := ⟨_, rfl⟩
  rw [hres]
  have hres' := Lib.hid hres
  clear hres
  by_cases hl : a.length ≤ 60
  · go_enter Try.func10, Try.ntmps10
    go_wp2_with fail
    go_loopw [3, 4] (fun i x4 wr => ∃ k : Nat, k ≤ a.length ∧ i = .int .i64 k ∧ (∀ j, j < k → PlainAt a j) ∧ Below w.heap.size w wr) (fun i _ _ => a.length - (intOf i).toNat)
    case atStart => exact ⟨0, Nat.zero_le _, rfl, fun j hj => by omega, hB0⟩
    case round =>
      obtain ⟨k, hk, rfl, hno, hB⟩ := hrel
      by_cases hlt : k < a.length
      · obtain ⟨b, o, rfl, _, c0, c1, c2, c3, c4, c5, c6⟩ := (hr.below hB).atItem hlt
        have hpl : PlainAt a k ↔ (itm a k).id ≠ zid ∧ findI a (itm a k).id = k ∧ -1 ≤ (itm a k).par ∧ (itm a k).par < k ∧ 0 ≤ (itm a k).own ∧ (itm a k).own ≤ 1125899906842624 := Iff.rfl
        have hfk := hfind (itm a k).id
        have hfle := find_le hlt
        have heq := eql_idz (itm a k).id
        have hpn : ¬ PlainAt a k → res = false := fun h => by rw [← hres'.out]; exact decide_eq_false (fun h2 => h (h2.2.1 k hlt))
        have hpy : PlainAt a k → ∀ j, j < k + 1 → PlainAt a j := fun h j hj => if e2 : j = k then by subst e2; exact h else hno j (by omega)
        obtain ⟨f, hf⟩ : ∃ f, findI a (itm a k).id = f := ⟨_, rfl⟩
        rw [hf] at hpl hfk hfle
        clear hf hno hfind hanew hsame
        generalize PlainAt a k = PL at hpl hpn hpy
        generalize itm a k = x at c0 c1 c2 c3 c4 c5 c6 hpl hfk heq
        obtain ⟨q, hq⟩ : ∃ q, decide (x.id = zid) = q := ⟨_, rfl⟩
        have hqx : x.id = zid ↔ q = true := by rw [← hq]; simp
        rw [hq] at heq
        rw [show (x.id ≠ zid ∧ f = k ∧ -1 ≤ x.par ∧ x.par < k ∧ 0 ≤ x.own ∧ x.own ≤ 1125899906842624) ↔ (q = false ∧ f = k ∧ -1 ≤ x.par ∧ x.par < k ∧ 0 ≤ x.own ∧ x.own ≤ 1125899906842624) by rw [Ne, hqx]; simp] at hpl
        have hpl' := Lib.hid hpl
        have hpn' := Lib.hid hpn
        have hpy' := Lib.hid hpy
        clear hq hqx hpl hpn hpy
        have hBX : Below wr.heap.size wr (wr.alloc (.cells #[.int .u64 x.id.hi, .int .u64 x.id.lo, .int .i64 x.par, .int .i64 x.own, .int .i64 x.w, .int .i64 x.best, .int .i64 x.head] 43)) := (Below.refl _ wr).alloc (Nat.le_refl _) _
        have hB1 := below_call hB hB.size hBX
        cases q with
        | true =>
          go_wp2_with fail
          go_ret
          exact ⟨ret_bool (hpn'.out (fun h => by have := hpl'.out.1 h; simp at this)).symm, hB1⟩
        | false =>
          go_wp2_with (go_at_call 22; refine (hfk _ hB1).mono ?_; clear hfk; rintro e w1 ⟨rfl, hb1⟩; have hB2 := below_call hB1 hB1.size hb1; obtain ⟨d0, d1, d2, d3, d4, d5, d6⟩ := blk7 (bl_own hb1 (ha_at (w := wr) (o := .cells #[.int .u64 x.id.hi, .int .u64 x.id.lo, .int .i64 x.par, .int .i64 x.own, .int .i64 x.w, .int .i64 x.best, .int .i64 x.head] 43) rfl)))
          all_goals
            first
              | (go_ret
                 exact ⟨ret_bool (hpn'.out (fun h => by obtain ⟨_, h1, h2, h3, h4, h5⟩ := hpl'.out.1 h; omega)).symm, hB2⟩)
              | (go_roundw
                 case rel => exact ⟨k + 1, hlt, by go_num, hpy'.out (hpl'.out.2 ⟨trivial, by omega, by omega, by omega, by omega, by omega⟩), hB2⟩
                 case measure => simp [intOf]; omega)
      · obtain rfl : k = a.length := by omega
        have hp : Plain a := hno
        have han := hanew hl hp _ hB
        have hfin := Lib.hid (fun l hs hk => may_same (l := l) hp hl hs hk)
        clear hp hno hfind hanew
        go_wp2_with (first
          | (go_at_call 23; refine han.mono ?_; clear han; rintro e w1 ⟨⟨l, v, rfl, ho, hs, hsk⟩, hb1⟩; have hB1 := below_call hB hB.size hb1; obtain ⟨A1, k1, hv, hR1⟩ := ho.rd encItem_len; subst hv; have hsm := hsame l A1 k1 w1 hB1 hR1; have hfe := Lib.hid (hfin.out l hs hsk); clear hsame)
          | (go_at_call 15; refine hsm.mono ?_; clear hsm; rintro e w2 ⟨rfl, hb2⟩; have hB2 := below_call hB1 hB1.size hb2))
        go_ret
        exact ⟨ret_bool (by rw [← hres'.out, hfe.out]), hB2⟩
  · have hf : res = false := by rw [← hres'.out]; exact decide_eq_false (fun h => hl h.1)
    have hl2 : 60 < a.length := by omega
    have hf' := Lib.hid hf
    clear hf hl hfind hanew hsame
    go_enter Try.func10, Try.ntmps10
    go_wp2_with fail
    go_ret
    exact ⟨ret_bool hf'.out.symm, hB0⟩
end Go.Proofs.Ytionkkjdaghakaa
