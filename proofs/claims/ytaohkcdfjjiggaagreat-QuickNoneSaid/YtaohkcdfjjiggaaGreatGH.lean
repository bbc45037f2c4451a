/- GH: several texts in one. -/
import Derived.Test.YtaohkcdfjjiggaaGreatGD
import Derived.Test.YtaohkcdfjjiggaaGreatGA
/-! Votes compared; marigoldlaw07.awake, walked. -/
namespace Go.Proofs.YtaohkcdfjjiggaaGreat
open Go.RowKit
theorem eqlIn_vote (d : Nat) (x y : Vote) (w : World) : (Op.equalIn (d + 3) 42 (votev x) (votev y)).run Tryz.prog w = .ok (decide (x = y)) w := by
  have u := Tryz.underlying42
  have hid := fun (a b c e : Int) w => show (Op.equalIn (d + 2) 35 (.agg #[.int .u64 a, .int .u64 b]) (.agg #[.int .u64 c, .int .u64 e])).run Tryz.prog w = .ok (decide ((⟨a, b⟩ : ID) = ⟨c, e⟩)) w from eqlIn_id d ⟨a, b⟩ ⟨c, e⟩ w
  have z := Tryz.sizeOf3
  have z2 := Tryz.sizeOf35
  have u3 := Tryz.underlying3
  have g := Tryz.isAgg35
  unfold votev
  rw [run_equalIn_struct _ _ _ _ _ (by kernel_rfl) (by kernel_rfl)]
  simp only [Program.fieldsOf, u]
  obtain ⟨x1, x2, x3, x4⟩ := x
  obtain ⟨y1, y2, y3, y4⟩ := y
  by_cases h1 : x1 = y1 <;> by_cases h2 : x2 = y2 <;> by_cases h3 : x3 = y3 <;> by_cases h4 : x4 = y4 <;> simp [Op.eqFields, part, z, z2, g, hid, run_equalIn_int _ _ _ _ _ _ _ u3, h1, h2, h3, h4]
theorem eql_votew (x y : Vote) (w : World) : (binOp .eql 42 (.agg #[.int .i64 x.frm, .int .i64 x.slot, .int .u64 x.head.hi, .int .u64 x.head.lo]) (.agg #[.int .i64 y.frm, .int .i64 y.slot, .int .u64 y.head.hi, .int .u64 y.head.lo])).run Tryz.prog w = .ok (.bool (decide (x = y))) w := by
  have h := eqlIn_vote 9997 x y w
  unfold votev at h
  rw [run_eql_struct, h]
  rfl
theorem neq_votew (x y : Vote) (w : World) : (binOp .neq 42 (.agg #[.int .i64 x.frm, .int .i64 x.slot, .int .u64 x.head.hi, .int .u64 x.head.lo]) (.agg #[.int .i64 y.frm, .int .i64 y.slot, .int .u64 y.head.hi, .int .u64 y.head.lo])).run Tryz.prog w = .ok (.bool (!decide (x = y))) w := by
  have h := eqlIn_vote 9997 x y w
  unfold votev at h
  rw [run_neq_struct, h]
  rfl
/-! The chapter's example. -/
def awL : List Vote := [⟨1, 3, ⟨0, 0⟩⟩, ⟨1, 3, ⟨1, 1⟩⟩, ⟨2, 3, ⟨0, 0⟩⟩]
theorem awL_d : dblL awL 3 = [1] := by
  refine (dblL_eq (o := [1]) ⟨⟨by simp, trivial⟩, fun f => ⟨fun h => ?_, fun h => ?_⟩⟩).symm
  · rw [List.mem_singleton.1 h]
    decide
  · obtain ⟨x, hx, hf, _⟩ := dbl_mem h
    unfold awL at hx
    simp only [List.mem_cons, List.not_mem_nil, or_false] at hx
    rcases hx with rfl | rfl | rfl
    · simp [← hf]
    · simp [← hf]
    · subst hf
      exact absurd h (by decide)
theorem awL_o : ofL awL 3 = [⟨2, 3, ⟨0, 0⟩⟩] := by kernel_rfl
theorem awL_l3 : (lastL awL 3).length = 1 := by kernel_rfl
theorem awL_l2 : (lastL awL 2).length = 0 := by kernel_rfl
end Go.Proofs.YtaohkcdfjjiggaaGreat
/-! VotesEach: the plain law. -/
namespace Go.Proofs.YtaohkcdfjjiggaaGreat
def cntV (f : Int) (o : List Vote) : Nat := (o.filter fun x => decide (x.frm = f)).length
def cntI (f : Int) (d : List Int) : Nat := (d.filter fun x => decide (x = f)).length
theorem cntV_snoc (f : Int) {o : List Vote} {k : Nat} (hlt : k < o.length) : cntV f (o.take (k + 1)) = cntV f (o.take k) + (if o[k].frm = f then 1 else 0) := by
  unfold cntV
  rw [List.take_succ_eq_append_getElem hlt, List.filter_append, List.length_append]
  by_cases h : o[k].frm = f <;> simp [h]
theorem cntI_snoc (f : Int) {d : List Int} {k : Nat} (hlt : k < d.length) : cntI f (d.take (k + 1)) = cntI f (d.take k) + (if d[k] = f then 1 else 0) := by
  unfold cntI
  rw [List.take_succ_eq_append_getElem hlt, List.filter_append, List.length_append]
  by_cases h : d[k] = f <;> simp [h]
theorem cntV_len (f : Int) (o : List Vote) (k : Nat) : cntV f (o.take k) ≤ k := by
  unfold cntV
  refine Nat.le_trans (List.length_filter_le _ _) ?_
  simp; omega
theorem cntI_len (f : Int) (d : List Int) (k : Nat) : cntI f (d.take k) ≤ k := by
  unfold cntI
  refine Nat.le_trans (List.length_filter_le _ _) ?_
  simp; omega
theorem one_of {α : Type} (p : α → Bool) : ∀ {l : List α}, (∃ x ∈ l, p x = true) → (∀ i j (hi : i < l.length) (hj : j < l.length), p l[i] = true → p l[j] = true → i = j) → (l.filter p).length = 1
  | [], h, _ => by obtain ⟨x, hx, _⟩ := h; cases hx
  | a :: l, h, hu => by
    by_cases ha : p a = true
    · have : l.filter p = [] := by
        rw [List.filter_eq_nil_iff]
        intro x hx hp
        obtain ⟨j, hj, rfl⟩ := List.getElem_of_mem hx
        have := hu 0 (j + 1) (by simp) (by simpa using hj) (by simpa using ha) (by simpa using hp)
        omega
      rw [List.filter_cons_of_pos ha, this]
      rfl
    · rw [List.filter_cons_of_neg ha]
      refine one_of p ?_ (fun i j hi hj h1 h2 => ?_)
      · obtain ⟨x, hx, hp⟩ := h
        rcases List.mem_cons.1 hx with rfl | hx
        · exact absurd hp ha
        · exact ⟨x, hx, hp⟩
      · have := hu (i + 1) (j + 1) (by simpa using hi) (by simpa using hj) (by simpa using h1) (by simpa using h2)
        omega
theorem rises_inj {d : List Int} (h : Rises d) (i j : Nat) (hi : i < d.length) (hj : j < d.length) (he : d[i] = d[j]) : i = j := by
  rcases Nat.lt_trichotomy i j with h1 | h1 | h1
  · have := rises_le h i j hi hj h1; omega
  · exact h1
  · have := rises_le h j i hj hi h1; omega
theorem each_law {l : List Vote} {v : Vote} (hv : v ∈ l) : cntV v.frm (ofL l v.slot) + cntI v.frm (dblL l v.slot) = 1 ∧ ∀ x ∈ ofL l v.slot, x.frm = v.frm → x = v := by
  have ho := ofL_is l v.slot
  have hd := dblL_is l v.slot
  have hx : ∀ x ∈ ofL l v.slot, x.frm = v.frm → x = v := fun x hx hf => by
    obtain ⟨h1, h2, h3⟩ := (ho.2 x).1 hx
    exact dbl_one h1 hv hf h2 (by rw [h2]; exact h3)
  refine ⟨?_, hx⟩
  by_cases hD : Dbl l v.slot v.frm
  · have h1 : cntV v.frm (ofL l v.slot) = 0 := by
      unfold cntV
      rw [List.length_eq_zero_iff, List.filter_eq_nil_iff]
      intro x hx hp
      simp only [decide_eq_true_eq] at hp
      obtain ⟨_, _, h3⟩ := (ho.2 x).1 hx
      rw [hp] at h3
      exact h3 hD
    have h2 : cntI v.frm (dblL l v.slot) = 1 := one_of _ ⟨v.frm, (hd.2 _).2 hD, by simp⟩ (fun i j hi hj h1 h2 => by
      simp only [decide_eq_true_eq] at h1 h2
      exact rises_inj hd.1 i j hi hj (h1.trans h2.symm))
    omega
  · have h2 : cntI v.frm (dblL l v.slot) = 0 := by
      unfold cntI
      rw [List.length_eq_zero_iff, List.filter_eq_nil_iff]
      intro x hx hp
      simp only [decide_eq_true_eq] at hp
      rw [hp] at hx
      exact hD ((hd.2 _).1 hx)
    have h1 : cntV v.frm (ofL l v.slot) = 1 := one_of _ ⟨v, (ho.2 v).2 ⟨hv, rfl, hD⟩, by simp⟩ (fun i j hi hj h1 h2 => by
      simp only [decide_eq_true_eq] at h1 h2
      rcases Nat.lt_trichotomy i j with h | h | h
      · have := risesV_lt ho.1 i j hi hj h; omega
      · exact h
      · have := risesV_lt ho.1 j i hj hi h; omega)
    omega
end Go.Proofs.YtaohkcdfjjiggaaGreat
/-! marigoldref07.Same, Ints; marigoldlaw07.there, walked. -/
namespace Go.Proofs.YtaohkcdfjjiggaaGreat
open Go.RowKit
theorem take_same {α : Type} {a b : List α} {i : Nat} (ha : i < a.length) (hb : i < b.length) (h : a.take i = b.take i) (he : a[i] = b[i]) : a.take (i + 1) = b.take (i + 1) := by
  rw [List.take_succ_eq_append_getElem ha, List.take_succ_eq_append_getElem hb, h, he]
set_option maxRecDepth 100000 in
set_option maxHeartbeats 1000000 in
theorem same_any (a b : List Vote) (A B : Option Addr) (k kb : Nat) (w : World) (hr : Rd 4 encVote w A a) (hr2 : Rd 4 encVote w B b) :
    Calls Tryz.prog 18 #[.slice A a.length k, .slice B b.length kb] w fun e w' => e = .returned (.bool (decide (a = b))) ∧ Below w.heap.size w w' := by
  have hm := hr.1
  have hm2 := hr2.1
  by_cases hl : a.length = b.length
  · have hlb : ((a.length : Int) != (b.length : Int)) = false := by simp [hl]
    have hl' := Lib.hid hl
    obtain ⟨nb, hnb⟩ : ∃ nb, b.length = nb := ⟨_, rfl⟩
    rw [hnb] at hl hm2 hlb ⊢
    obtain ⟨na, hna⟩ : ∃ na, a.length = na := ⟨_, rfl⟩
    rw [hna] at hl hm hlb ⊢
    have hna' := Lib.hid hna
    have hnb' := Lib.hid hnb
    clear hna hnb
    go_enter Tryz.func18, Tryz.ntmps18
    go_wp2_with fail
    go_loopw [5] (fun i wr => ∃ j : Nat, j ≤ na ∧ i = .int .i64 j ∧ Hid (a.take j = b.take j) ∧ Below w.heap.size w wr) (fun i _ => na - (intOf i).toNat)
    case atStart => exact ⟨0, Nat.zero_le _, rfl, Lib.hid (by simp), Below.refl _ _⟩
    case round =>
      obtain ⟨j, hj, rfl, hs, hB⟩ := hrel
      by_cases hlt : j < na
      · have ha : j < a.length := by rw [hna'.out]; exact hlt
        have hb : j < b.length := by rw [hnb'.out, ← hl]; exact hlt
        have hj2 : j < nb := by omega
        obtain ⟨b1, o1, rfl, hbo1, d0, d1, d2, d3⟩ := (hr.below hB).atVote ha
        obtain ⟨b2, o2, rfl, hbo2, e0, e1, e2, e3⟩ := (hr2.below hB).atVote hb
        have hne := neq_votew a[j] b[j]
        have hstep := Lib.hid (fun h => take_same ha hb hs.out h)
        have hdiff := Lib.hid (fun (h : a[j] ≠ b[j]) (e : a = b) => h (by subst e; rfl))
        obtain ⟨x, hx⟩ : ∃ x, a[j] = x := ⟨_, rfl⟩
        obtain ⟨y, hy⟩ : ∃ y, b[j] = y := ⟨_, rfl⟩
        rw [hx] at d0 d1 d2 d3 hne hstep hdiff
        rw [hy] at e0 e1 e2 e3 hne hstep hdiff
        clear hx hy ha hb
        by_cases he : x = y
        · have hd : decide (x = y) = true := by simpa using he
          rw [hd] at hne
          have hs2 := Lib.hid (hstep.out he)
          clear hd he hstep hdiff
          go_wp2_with fail
          go_quiet (fail)
          go_wp2_with fail
          go_roundw
          case rel => exact ⟨j + 1, hlt, by go_num, hs2, pw_below_drewN hB _⟩
          case measure => simp [intOf]; omega
        · have hd : decide (x = y) = false := by simpa using he
          rw [hd] at hne
          have hs2 := Lib.hid (hdiff.out he)
          clear hd he hstep hdiff
          go_wp2_with fail
          go_quiet (fail)
          go_wp2_with fail
          go_ret
          exact ⟨ret_bool (by simpa using hs2.out), pw_below_drewN hB _⟩
      · obtain rfl : j = na := by omega
        have hab : a = b := by
          have := hs.out
          rwa [← hna'.out, List.take_length, hl'.out, List.take_length] at this
        go_wp2_with fail
        go_ret
        exact ⟨ret_bool (by simp [hab]), hB⟩
  · have hlb : ((a.length : Int) != (b.length : Int)) = true := by simp; omega
    have hab : a ≠ b := fun e => hl (by rw [e])
    have hab' := Lib.hid hab
    clear hab
    go_enter Tryz.func18, Tryz.ntmps18
    go_wp2_with fail
    go_ret
    exact ⟨ret_bool (by simpa using hab'.out), Below.refl _ _⟩
end Go.Proofs.YtaohkcdfjjiggaaGreat
/-! marigoldref07.double, walked. -/
namespace Go.Proofs.YtaohkcdfjjiggaaGreat
open Go.RowKit
/-- Two votes that make one double. -/
def Pv (s f : Int) (x y : Vote) : Prop := x.frm = f ∧ y.frm = f ∧ x.slot = s ∧ y.slot = s ∧ x.head ≠ y.head
theorem pv_dbl {l : List Vote} {s f : Int} {x y : Vote} (hx : x ∈ l) (hy : y ∈ l) (h : Pv s f x y) : Dbl l s f := ⟨x, hx, y, hy, h⟩
/-- No two of the first k make one double. -/
def Nop (l : List Vote) (s f : Int) (k : Nat) : Prop := ∀ a b (ha : a < l.length) (hb : b < l.length), b < a → a < k → ¬ Pv s f l[a] l[b]
theorem nop_zero (l : List Vote) (s f : Int) : Nop l s f 0 := fun a b _ _ _ h => by omega
theorem nop_all {l : List Vote} {s f : Int} (h : Nop l s f l.length) : ¬ Dbl l s f := by
  rintro ⟨x, hx, y, hy, h1, h2, h3, h4, h5⟩
  obtain ⟨a, ha, rfl⟩ := List.getElem_of_mem hx
  obtain ⟨b, hb, rfl⟩ := List.getElem_of_mem hy
  rcases Nat.lt_trichotomy a b with hab | hab | hab
  · exact h b a hb ha hab hb ⟨h2, h1, h4, h3, fun e => h5 e.symm⟩
  · subst hab; exact h5 rfl
  · exact h a b ha hb hab ha ⟨h1, h2, h3, h4, h5⟩
def Nop2 (l : List Vote) (s f : Int) (x : Vote) (k : Nat) : Prop := ∀ b (hb : b < l.length), b < k → ¬ Pv s f x l[b]
theorem nop2_step {l : List Vote} {s f : Int} {x y : Vote} {k : Nat} (hk : k < l.length) (h : Nop2 l s f x k) (hy : l[k] = y) (hn : ¬ Pv s f x y) : Nop2 l s f x (k + 1) := fun b hb hbk => by
  by_cases e : b = k
  · subst e; rw [hy]; exact hn
  · exact h b hb (by omega)
theorem nop_step {l : List Vote} {s f : Int} {x : Vote} {k : Nat} (hk : k < l.length) (h : Nop l s f k) (hx : l[k] = x) (h2 : Nop2 l s f x k) : Nop l s f (k + 1) := fun a b ha hb hba hak => by
  by_cases e : a = k
  · subst e; rw [hx]; exact h2 b hb hba
  · exact h a b ha hb hba (by omega)
set_option maxRecDepth 100000 in
set_option maxHeartbeats 4000000 in
theorem rdouble_any (l : List Vote) (s f : Int) (A : Option Addr) (k : Nat) (w : World) (hr : Rd 4 encVote w A l) :
    Calls Tryz.prog 78 #[.slice A l.length k, .int .i64 s, .int .i64 f] w fun e w' => e = .returned (.bool (decide (Dbl l s f))) ∧ Below w.heap.size w w' := by
  have hm := hr.1
  go_enter Tryz.func78, Tryz.ntmps78
  go_wp2_with fail
  go_loopw [7, 8] (fun i _u wr => ∃ j : Nat, j ≤ l.length ∧ i = .int .i64 j ∧ Hid (Nop l s f j) ∧ Below w.heap.size w wr) (fun i _ _ => l.length - (intOf i).toNat)
  case atStart => exact ⟨0, Nat.zero_le _, rfl, Lib.hid (nop_zero _ _ _), Below.refl _ _⟩
  case round =>
    obtain ⟨j, hj, rfl, hno, hB⟩ := hrel
    by_cases hlt : j < l.length
    · obtain ⟨b', o', rfl, hbo, -⟩ := (hr.below hB).atVote hlt
      have hxm := List.getElem_mem hlt
      obtain ⟨x, hx⟩ : ∃ x, l[j] = x := ⟨_, rfl⟩
      rw [hx] at hxm
      have hsx := Lib.hid (show ∀ V, Below w.heap.size w V → V.cell? ⟨b', o' + j * 4, none⟩ = some (.int .i64 x.frm) ∧ V.cell? ⟨b', o' + j * 4 + 1, none⟩ = some (.int .i64 x.slot) ∧ V.cell? ⟨b', o' + j * 4 + 2, none⟩ = some (.int .u64 x.head.hi) ∧ V.cell? ⟨b', o' + j * 4 + 3, none⟩ = some (.int .u64 x.head.lo) from fun V hV => by
        obtain ⟨b2, o2, he, _, q0, q1, q2, q3⟩ := (hr.below hV).atVote hlt
        cases he
        rw [hx] at q0 q1 q2 q3
        exact ⟨q0, q1, q2, q3⟩)
      have hstep := Lib.hid (fun h2 => nop_step hlt hno.out hx h2)
      clear hx
      rename World => w5
      go_wp2_with fail
      go_loopw [8] (fun i wr => ∃ q : Nat, q ≤ j ∧ i = .int .i64 q ∧ Hid (Nop2 l s f x q) ∧ Below w.heap.size w wr) (fun i _ => j - (intOf i).toNat)
      case atStart => exact ⟨0, Nat.zero_le _, rfl, Lib.hid (fun b _ hb => by omega), hB⟩
      case round =>
        clear hB
        obtain ⟨q, hq, rfl, hn2, hB⟩ := hrel
        by_cases hqj : q < j
        · have hql : q < l.length := by omega
          obtain ⟨b2, o2, he, hbo2, e0, e1, e2, e3⟩ := (hr.below hB).atVote hql
          cases he
          obtain ⟨d0, d1, d2, d3⟩ := hsx.out _ hB
          have hym := List.getElem_mem hql
          obtain ⟨y, hy⟩ : ∃ y, l[q] = y := ⟨_, rfl⟩
          rw [hy] at e0 e1 e2 e3 hym
          have hst2 := Lib.hid (fun h => nop2_step hql hn2.out hy h)
          clear hy
          have hq8 : q < 9223372036854775807 := by omega
          by_cases h1 : x.frm = f
          · have c1 : (x.frm == f) = true := by simpa using h1
            by_cases h2 : y.frm = f
            · have c2 : (y.frm == f) = true := by simpa using h2
              by_cases h3 : x.slot = s
              · have c3 : (x.slot == s) = true := by simpa using h3
                by_cases h4 : y.slot = s
                · have c4 : (y.slot == s) = true := by simpa using h4
                  have hne := neq_idw x.head y.head
                  by_cases h5 : x.head = y.head
                  · have hd : decide (x.head = y.head) = true := by simpa using h5
                    rw [hd] at hne
                    have hs2 := Lib.hid (hst2.out (fun h => h.2.2.2.2 h5))
                    clear h1 h2 h3 h4 h5 hd hxm hym
                    go_wp2_with fail
                    go_quiet (fail)
                    go_wp2_with fail
                    go_roundw
                    case rel => exact ⟨q + 1, hqj, by go_num, hs2, pw_below_drewN hB _⟩
                    case measure => simp [intOf]; omega
                  · have hd : decide (x.head = y.head) = false := by simpa using h5
                    rw [hd] at hne
                    have hyes := Lib.hid (pv_dbl hxm hym ⟨h1, h2, h3, h4, h5⟩)
                    clear h1 h2 h3 h4 h5 hd hxm hym
                    go_wp2_with fail
                    go_quiet (fail)
                    go_wp2_with fail
                    go_ret
                    exact ⟨ret_bool (by simpa using hyes.out), pw_below_drewN hB _⟩
                · have c4 : (y.slot == s) = false := by simpa using h4
                  have hs2 := Lib.hid (hst2.out (fun h => h4 h.2.2.2.1))
                  clear h1 h2 h3 h4 hxm hym
                  go_wp2_with fail
                  go_quiet (fail)
                  go_wp2_with fail
                  go_roundw
                  case rel => exact ⟨q + 1, hqj, by go_num, hs2, pw_below_drewN hB _⟩
                  case measure => simp [intOf]; omega
              · have c3 : (x.slot == s) = false := by simpa using h3
                have hs2 := Lib.hid (hst2.out (fun h => h3 h.2.2.1))
                clear h1 h2 h3 hxm hym
                go_wp2_with fail
                go_quiet (fail)
                go_wp2_with fail
                go_roundw
                case rel => exact ⟨q + 1, hqj, by go_num, hs2, pw_below_drewN hB _⟩
                case measure => simp [intOf]; omega
            · have c2 : (y.frm == f) = false := by simpa using h2
              have hs2 := Lib.hid (hst2.out (fun h => h2 h.2.1))
              clear h1 h2 hxm hym
              go_wp2_with fail
              go_quiet (fail)
              go_wp2_with fail
              go_roundw
              case rel => exact ⟨q + 1, hqj, by go_num, hs2, pw_below_drewN hB _⟩
              case measure => simp [intOf]; omega
          · have c1 : (x.frm == f) = false := by simpa using h1
            have hs2 := Lib.hid (hst2.out (fun h => h1 h.1))
            clear h1 hxm hym
            go_wp2_with fail
            go_quiet (fail)
            go_wp2_with fail
            go_roundw
            case rel => exact ⟨q + 1, hqj, by go_num, hs2, pw_below_drewN hB _⟩
            case measure => simp [intOf]; omega
        · obtain rfl : q = j := by omega
          have hs2 := Lib.hid (hstep.out hn2.out)
          go_wp2_with fail
          go_roundw
          case rel => exact ⟨q + 1, hlt, by go_num, hs2, hB⟩
          case measure => simp [intOf]; omega
    · obtain rfl : j = l.length := by omega
      have hno2 := Lib.hid (nop_all hno.out)
      go_wp2_with fail
      go_ret
      exact ⟨ret_bool (by simpa using hno2.out), hB⟩
end Go.Proofs.YtaohkcdfjjiggaaGreat
/-! marigoldref07.put, walked. (Printed by gen_put.py.) -/
namespace Go.Proofs.YtaohkcdfjjiggaaGreat
open Go.RowKit
/-- A slice of ints that comes in, or is a call's own. -/
structure Sl (w : World) (A : Option Addr) (k : Nat) (l : List Int) : Prop where
  rd : Rd 1 encI w A l
  le : l.length ≤ k
  mx : k ≤ maxLen
  nn : A = none → k = 0
  sh : A = none ∨ ∃ b o, A = some ⟨b, o, none⟩
theorem Sl.below {w W : World} {A : Option Addr} {k : Nat} {l : List Int} (h : Sl w A k l) (hb : Below w.heap.size w W) : Sl W A k l := ⟨h.rd.below hb, h.le, h.mx, h.nn, h.sh⟩
theorem sl_nil (w : World) : Sl w none 0 [] := ⟨Rd_nil _ _ _ _, Nat.le_refl _, Nat.zero_le _, fun _ => rfl, .inl rfl⟩
theorem own_sl {w : World} {base : Nat} {v : Value} {xs : List Int} (h : Own w base 3 1 encI v xs) : ∃ A c, v = .slice A xs.length c ∧ Sl w A c xs := by
  obtain ⟨A, c, hv, hc, hmx, hr⟩ := h.rdm encI_len
  refine ⟨A, c, hv, hr, hc, hmx, fun e => ?_, ?_⟩
  · rcases h.2 with ⟨h1, _⟩ | ⟨g, cap, cur, h1, _⟩
    · rw [hv] at h1; injection h1
    · rw [hv, e] at h1; injection h1 with h1 _ _; cases h1
  · rcases h.2 with ⟨h1, _⟩ | ⟨g, cap, cur, h1, _⟩
    · rw [hv] at h1; injection h1 with h1 _ _; exact .inl h1
    · rw [hv] at h1; injection h1 with h1 _ _; exact .inr ⟨g, 0, h1⟩
theorem ilay (w : World) (f : Int) : Below w.heap.size w (w.alloc (.cells #[.int .i64 f] 3)) ∧ (w.alloc (.cells #[.int .i64 f] 3)).heap[w.heap.size]? = some (.cells #[.int .i64 f] 3 (0, 0)) :=
  ⟨(Below.refl _ w).alloc (Nat.le_refl _) _, ha_at rfl⟩
theorem rises_parts {a b : List Int} (h : Rises (a ++ b)) : Rises a ∧ Rises b := by
  induction a with
  | nil => exact ⟨trivial, h⟩
  | cons x a ih => exact ⟨⟨fun y hy => h.1 y (List.mem_append_left _ hy), (ih h.2).1⟩, (ih h.2).2⟩
theorem rises_join {a b : List Int} (ha : Rises a) (hb : Rises b) (h : ∀ x ∈ a, ∀ y ∈ b, x < y) : Rises (a ++ b) := by
  induction a with
  | nil => exact hb
  | cons x a ih =>
    refine ⟨fun y hy => ?_, ih ha.2 (fun z hz => h z (by simp [hz]))⟩
    rcases List.mem_append.1 hy with hy | hy
    · exact ha.1 y hy
    · exact h x (by simp) y hy
/-- What a number put into a list that rises makes of it. -/
def PutOk (l : List Int) (f : Int) (r : List Int) : Prop := Rises r ∧ (∀ g, g ∈ r ↔ g ∈ l ∨ g = f) ∧ r.length ≤ l.length + 1
theorem put_same {l : List Int} {f : Int} (h : Rises l) (hf : f ∈ l) : PutOk l f l := ⟨h, fun g => ⟨.inl, fun e => e.elim id (fun e => e ▸ hf)⟩, by omega⟩
theorem ins_law {l hd rest : List Int} {f : Int} {m : Nat} (hl : l = hd ++ rest) (hr : Rises l) (hm : hd.length = m) (hgt : ∀ j, m ≤ j → (hj : j < l.length) → f < l[j]) (hlt : ∀ j, j < m → (hj : j < l.length) → l[j] < f) :
    PutOk l f (hd ++ [f] ++ rest) := by
  subst hl
  subst hm
  obtain ⟨h1, h2⟩ := rises_parts hr
  refine ⟨rises_join (rises_join h1 ⟨by simp, trivial⟩ ?_) h2 ?_, fun g => ?_, by simp; omega⟩
  · intro a ha b hb
    rw [List.mem_singleton.1 hb]
    obtain ⟨i, hi, rfl⟩ := List.getElem_of_mem ha
    have := hlt i hi (by simp; omega)
    rwa [List.getElem_append_left hi] at this
  · intro a ha b hb
    have hb' : f < b := by
      obtain ⟨i, hi, rfl⟩ := List.getElem_of_mem hb
      have := hgt (hd.length + i) (by omega) (by simp; omega)
      rwa [List.getElem_append_right (by omega), List.getElem_of_eq rfl, show (rest[hd.length + i - hd.length]'(by omega)) = rest[i] from by congr 1; omega] at this
    rcases List.mem_append.1 ha with ha | ha
    · obtain ⟨i, hi, rfl⟩ := List.getElem_of_mem ha
      have := hlt i hi (by simp; omega)
      rw [List.getElem_append_left hi] at this
      omega
    · rw [List.mem_singleton.1 ha]; exact hb'
  · simp only [List.mem_append, List.mem_singleton]
    constructor
    · rintro ((h | h) | h)
      · exact .inl (.inl h)
      · exact .inr h
      · exact .inl (.inr h)
    · rintro ((h | h) | h)
      · exact .inl (.inl h)
      · exact .inr h
      · exact .inl (.inr h)
end Go.Proofs.YtaohkcdfjjiggaaGreat
/-! marigoldref07.put, walked. (Printed by gen_put2.py.) -/
namespace Go.Proofs.YtaohkcdfjjiggaaGreat
open Go.RowKit
set_option maxRecDepth 100000 in
set_option maxHeartbeats 4000000 in
theorem put_any (l : List Int) (f : Int) (A : Option Addr) (k : Nat) (w : World) (h : Sl w A k l) (hri : Rises l) (hl : l.length ≤ 100000) :
    Calls Tryz.prog 112 #[.slice A l.length k, .int .i64 f] w fun e w' => ∃ r A' k', e = .returned (.slice A' r.length k') ∧ PutOk l f r ∧ Sl w' A' k' r ∧ Below w.heap.size w w' := by
  have hun := Tryz.underlying22
  have hrd := h.rd
  have hle := h.le
  have hmx := h.mx
  have hnn := h.nn
  have hsh := Lib.hid h.sh
  have hmx' : k ≤ 9223372036854775807 := by unfold maxLen at hmx; omega
  have hsame := Lib.hid (fun (hf : f ∈ l) => put_same hri hf)
  have hins0 := Lib.hid (fun (hd rest : List Int) (m : Nat) (hl : l = hd ++ rest) (hm : hd.length = m) hgt hlt => ins_law (f := f) hl hri hm hgt hlt)
  have hris' := Lib.hid hri
  clear hri
  go_enter Tryz.func112, Tryz.ntmps112
  go_wp2_with fail
  go_loopw [5] (fun i wr => ∃ m : Nat, m ≤ l.length ∧ i = .int .i64 m ∧ Hid (∀ j, m ≤ j → (hj : j < l.length) → f < l[j]) ∧ Below w.heap.size w wr) (fun i _ => (intOf i).toNat)
  case atStart => exact ⟨l.length, Nat.le_refl _, rfl, Lib.hid (fun j h1 h2 => by omega), Below.refl _ _⟩
  case round =>
    obtain ⟨m, hm, rfl, hgt, hB⟩ := hrel
    cases m with
    | zero =>
      have hins := Lib.hid (hins0.out [] l 0 rfl rfl hgt.out (fun j hj => by omega))
      rcases hsh.out with rfl | ⟨b, o, rfl⟩
      · obtain rfl : k = 0 := hnn rfl
        obtain rfl : l = [] := List.eq_nil_of_length_eq_zero (by omega)
        go_wp2_with (first
          | (at_builtin; refine wp_append_all rfl rfl hun infoI rfl (by decide) encI_len encI_one rfl (Own.nil wr wr.heap.size _ _ _) (A := none) (c := 0) (ys := ([] : List Int)) (rfl) (fun e => by first | exact hnn e | rfl | cases e) (Rd_nil _ _ _ _) (by first | omega | (simp; done) | (simp; omega)) (by unfold maxLen; first | omega | (simp; done) | (simp; omega)) (Nat.le_refl _) ?_; intro v1 w1 ho1 hg1 hat1; rw [List.nil_append] at ho1; have hb1 := below_step (Below.refl wr.heap.size wr) (Nat.le_refl _) hg1 (fun _ e => by cases e); have hx1 := ilay w1 f; have ho2 := ho1.below hx1.1; have hb2 := below_call hb1 hb1.size hx1.1; have hy2 := hx1.2; clear hx1)
          | (at_builtin; refine wp_append1 rfl rfl hun infoI rfl (by decide) encI_len encI_one rfl ho2 (g := w1.heap.size) (c := 1) rfl (y := f) hy2 rfl (by first | omega | (simp; done) | (simp; omega)) (by unfold maxLen; first | omega | (simp; done) | (simp; omega)) hb2.size ?_; intro v3 w3 ho3 hg3 hat3; have hb3 := below_step hb2 hb2.size hg3 (fun k e => (ho2.base k e).1); have hB3 := below_call hB hB.size hb3)
          | (at_builtin; refine wp_append_all rfl rfl hun infoI rfl (by decide) encI_len encI_one rfl ho3 (A := none) (c := 0) (ys := ([] : List Int)) (rfl) (fun e => by first | rfl | cases e) (Rd_nil _ _ _ _) (by first | omega | (simp; done) | (simp; omega)) (by unfold maxLen; first | omega | (simp; done) | (simp; omega)) hb3.size ?_; intro v4 w4 ho4 hg4 hat4; have hb4 := below_step hb3 hb3.size hg4 (fun k e => (ho3.base k e).1)))
        obtain ⟨A5, c5, rfl, hs5⟩ := own_sl ho4
        go_ret
        exact ⟨_, A5, c5, rfl, hins.out, hs5, below_call hB hB.size hb4⟩
      · have i0 : (l.length : Int) ≤ (k : Int) := by omega
        by_cases hk : k = 0
        · subst hk
          obtain rfl : l = [] := List.eq_nil_of_length_eq_zero (by omega)
          go_wp2_with (first
            | (at_builtin; refine wp_append_all rfl rfl hun infoI rfl (by decide) encI_len encI_one rfl (Own.nil wr wr.heap.size _ _ _) (A := _) (c := 0) (ys := ([] : List Int)) (rfl) (fun e => by first | exact hnn e | rfl | cases e) (Rd_nil _ _ _ _) (by first | omega | (simp; done) | (simp; omega)) (by unfold maxLen; first | omega | (simp; done) | (simp; omega)) (Nat.le_refl _) ?_; intro v1 w1 ho1 hg1 hat1; rw [List.nil_append] at ho1; have hb1 := below_step (Below.refl wr.heap.size wr) (Nat.le_refl _) hg1 (fun _ e => by cases e); have hx1 := ilay w1 f; have ho2 := ho1.below hx1.1; have hb2 := below_call hb1 hb1.size hx1.1; have hy2 := hx1.2; clear hx1)
            | (at_builtin; refine wp_append1 rfl rfl hun infoI rfl (by decide) encI_len encI_one rfl ho2 (g := w1.heap.size) (c := 1) rfl (y := f) hy2 rfl (by first | omega | (simp; done) | (simp; omega)) (by unfold maxLen; first | omega | (simp; done) | (simp; omega)) hb2.size ?_; intro v3 w3 ho3 hg3 hat3; have hb3 := below_step hb2 hb2.size hg3 (fun k e => (ho2.base k e).1); have hB3 := below_call hB hB.size hb3)
            | (at_builtin; refine wp_append_all rfl rfl hun infoI rfl (by decide) encI_len encI_one rfl ho3 (A := _) (c := _) (ys := ([] : List Int)) (rfl) (fun e => by first | rfl | cases e) (Rd_nil _ _ _ _) (by first | omega | (simp; done) | (simp; omega)) (by unfold maxLen; first | omega | (simp; done) | (simp; omega)) hb3.size ?_; intro v4 w4 ho4 hg4 hat4; have hb4 := below_step hb3 hb3.size hg4 (fun k e => (ho3.base k e).1)))
          obtain ⟨A5, c5, rfl, hs5⟩ := own_sl ho4
          go_ret
          exact ⟨_, A5, c5, rfl, hins.out, hs5, below_call hB hB.size hb4⟩
        · have i1 : (0 : Int) ≤ (k : Int) := by omega
          go_wp2_with (first
            | (at_builtin; refine wp_append_all rfl rfl hun infoI rfl (by decide) encI_len encI_one rfl (Own.nil wr wr.heap.size _ _ _) (A := (some ⟨b, o, none⟩)) (c := k) (ys := ([] : List Int)) (rfl) (fun e => by first | exact hnn e | rfl | cases e) (Rd_nil _ _ _ _) (by first | omega | (simp; done) | (simp; omega)) (by unfold maxLen; first | omega | (simp; done) | (simp; omega)) (Nat.le_refl _) ?_; intro v1 w1 ho1 hg1 hat1; rw [List.nil_append] at ho1; have hb1 := below_step (Below.refl wr.heap.size wr) (Nat.le_refl _) hg1 (fun _ e => by cases e); have hx1 := ilay w1 f; have ho2 := ho1.below hx1.1; have hb2 := below_call hb1 hb1.size hx1.1; have hy2 := hx1.2; clear hx1)
            | (at_builtin; refine wp_append1 rfl rfl hun infoI rfl (by decide) encI_len encI_one rfl ho2 (g := w1.heap.size) (c := 1) rfl (y := f) hy2 rfl (by first | omega | (simp; done) | (simp; omega)) (by unfold maxLen; first | omega | (simp; done) | (simp; omega)) hb2.size ?_; intro v3 w3 ho3 hg3 hat3; have hb3 := below_step hb2 hb2.size hg3 (fun k e => (ho2.base k e).1); have hB3 := below_call hB hB.size hb3)
            | (at_builtin; refine wp_append_all rfl rfl hun infoI rfl (by decide) encI_len encI_one rfl ho3 (A := (some ⟨b, o, none⟩)) (c := k) (ys := l) (rfl) (fun e => by first | rfl | cases e) (hrd.below hB3) (by first | omega | (simp; done) | (simp; omega)) (by unfold maxLen; first | omega | (simp; done) | (simp; omega)) hb3.size ?_; intro v4 w4 ho4 hg4 hat4; have hb4 := below_step hb3 hb3.size hg4 (fun k e => (ho3.base k e).1)))
          obtain ⟨A5, c5, rfl, hs5⟩ := own_sl ho4
          go_ret
          exact ⟨_, A5, c5, rfl, hins.out, hs5, below_call hB hB.size hb4⟩
    | succ m =>
      have hlt : m < l.length := by omega
      obtain ⟨b, o, rfl, hbo, d0⟩ := (hrd.below hB).atI hlt
      have hxm := List.getElem_mem hlt
      have hgt2 := Lib.hid (fun (h : f < l[m]) => show ∀ j, m ≤ j → (hj : j < l.length) → f < l[j] from fun j h1 h2 => by
        by_cases e : j = m
        · subst e; exact h
        · exact hgt.out j (by omega) h2)
      have hlow := Lib.hid (fun (h : l[m] < f) => show ∀ j, j < m + 1 → (hj : j < l.length) → l[j] < f from fun j h1 h2 => by
        by_cases e : j = m
        · subst e; exact h
        · have := rises_le hris'.out j m h2 hlt (by omega)
          omega)
      obtain ⟨x, hx⟩ : ∃ x, l[m] = x := ⟨_, rfl⟩
      rw [hx] at d0 hxm hgt2 hlow
      clear hx
      have i0 : (0 : Int) ≤ (m : Int) + 1 := by omega
      have i1 : (m : Int) + 1 ≤ (k : Int) := by omega
      have i2 : (m : Int) + 1 ≤ (l.length : Int) := by omega
      have i3 : (l.length : Int) ≤ (k : Int) := by omega
      have c0 : decide ((0 : Int) < (m : Int) + 1) = true := decide_eq_true (by omega)
      by_cases h1 : f < x
      · have c1 : decide (f < x) = true := by simpa using h1
        have hg2 := Lib.hid (hgt2.out h1)
        clear hxm h1
        go_wp2_with fail
        go_roundw
        case rel => exact ⟨m, by omega, by go_num, hg2, hB⟩
        case measure => simp [intOf]; try omega
      · have c1 : decide (f < x) = false := by simpa using h1
        by_cases h2 : x = f
        · have c2 : (x == f) = true := by simpa using h2
          have hs2 := Lib.hid (hsame.out (h2 ▸ hxm))
          clear hxm h1 h2
          go_wp2_with fail
          go_ret
          exact ⟨l, _, k, rfl, hs2.out, h.below hB, hB⟩
        · have c2 : (x == f) = false := by simpa using h2
          have hlo := hlow.out (by omega)
          have hdl : (l.take (m + 1)).length = m + 1 := by simp; omega
          have hrl : (l.drop (m + 1)).length = l.length - (m + 1) := by simp
          have hins := Lib.hid (hins0.out (l.take (m + 1)) (l.drop (m + 1)) (m + 1) (List.take_append_drop _ _).symm hdl hgt.out hlo)
          obtain ⟨hd, hhd⟩ : ∃ hd, l.take (m + 1) = hd := ⟨_, rfl⟩
          obtain ⟨rest, hrest⟩ : ∃ rest, l.drop (m + 1) = rest := ⟨_, rfl⟩
          rw [hhd] at hdl hins
          rw [hrest] at hrl hins
          have hRh := hhd ▸ (hrd.below hB).take (m + 1)
          have hRr := fun V (hV : Below w.heap.size w V) => show Rd 1 encI V (some ⟨b, o + (m + 1), none⟩) rest by rw [← hrest]; have := (hrd.below hV).drop (m + 1); rwa [Nat.mul_one] at this
          have hdl' := Lib.hid hdl
          have hrl' := Lib.hid hrl
          have hll : hd.length ≤ 100000 := by omega
          have hrr : rest.length ≤ 100000 := by omega
          have hk1 : m + 1 ≤ k := by omega
          clear hhd hrest hdl hlo hxm h1 h2
          by_cases hk : m + 1 = k
          · have hr0 : rest = [] := List.eq_nil_of_length_eq_zero (by omega)
            subst hk
            clear hrl
            go_wp2_with (first
              | (at_builtin; refine wp_append_all rfl rfl hun infoI rfl (by decide) encI_len encI_one rfl (Own.nil wr wr.heap.size _ _ _) (A := (some ⟨b, o, none⟩)) (c := (m + 1)) (ys := hd) (by rw [hdl'.out]; rfl) (fun e => by first | exact hnn e | rfl | cases e) hRh (by first | omega | (simp; done) | (simp; omega)) (by unfold maxLen; first | omega | (simp; done) | (simp; omega)) (Nat.le_refl _) ?_; intro v1 w1 ho1 hg1 hat1; rw [List.nil_append] at ho1; have hb1 := below_step (Below.refl wr.heap.size wr) (Nat.le_refl _) hg1 (fun _ e => by cases e); have hx1 := ilay w1 f; have ho2 := ho1.below hx1.1; have hb2 := below_call hb1 hb1.size hx1.1; have hy2 := hx1.2; clear hx1)
              | (at_builtin; refine wp_append1 rfl rfl hun infoI rfl (by decide) encI_len encI_one rfl ho2 (g := w1.heap.size) (c := 1) rfl (y := f) hy2 rfl (by first | omega | (simp; done) | (simp; omega)) (by unfold maxLen; first | omega | (simp; done) | (simp; omega)) hb2.size ?_; intro v3 w3 ho3 hg3 hat3; have hb3 := below_step hb2 hb2.size hg3 (fun k e => (ho2.base k e).1); have hB3 := below_call hB hB.size hb3)
              | (at_builtin; refine wp_append_all rfl rfl hun infoI rfl (by decide) encI_len encI_one rfl ho3 (A := (some ⟨b, o, none⟩)) (c := 0) (ys := rest) (by rw [hr0]; rfl) (fun e => by first | rfl | cases e) (by rw [hr0]; exact Rd_nil _ _ _ _) (by first | omega | (simp; done) | (simp; omega)) (by unfold maxLen; first | omega | (simp; done) | (simp; omega)) hb3.size ?_; intro v4 w4 ho4 hg4 hat4; have hb4 := below_step hb3 hb3.size hg4 (fun k e => (ho3.base k e).1)))
            obtain ⟨A5, c5, rfl, hs5⟩ := own_sl ho4
            go_ret
            exact ⟨_, A5, c5, rfl, hins.out, hs5, below_call hB hB.size hb4⟩
          · clear hrl
            go_wp2_with (first
              | (at_builtin; refine wp_append_all rfl rfl hun infoI rfl (by decide) encI_len encI_one rfl (Own.nil wr wr.heap.size _ _ _) (A := (some ⟨b, o, none⟩)) (c := k) (ys := hd) (by rw [hdl'.out]; rfl) (fun e => by first | exact hnn e | rfl | cases e) hRh (by first | omega | (simp; done) | (simp; omega)) (by unfold maxLen; first | omega | (simp; done) | (simp; omega)) (Nat.le_refl _) ?_; intro v1 w1 ho1 hg1 hat1; rw [List.nil_append] at ho1; have hb1 := below_step (Below.refl wr.heap.size wr) (Nat.le_refl _) hg1 (fun _ e => by cases e); have hx1 := ilay w1 f; have ho2 := ho1.below hx1.1; have hb2 := below_call hb1 hb1.size hx1.1; have hy2 := hx1.2; clear hx1)
              | (at_builtin; refine wp_append1 rfl rfl hun infoI rfl (by decide) encI_len encI_one rfl ho2 (g := w1.heap.size) (c := 1) rfl (y := f) hy2 rfl (by first | omega | (simp; done) | (simp; omega)) (by unfold maxLen; first | omega | (simp; done) | (simp; omega)) hb2.size ?_; intro v3 w3 ho3 hg3 hat3; have hb3 := below_step hb2 hb2.size hg3 (fun k e => (ho2.base k e).1); have hB3 := below_call hB hB.size hb3)
              | (at_builtin; refine wp_append_all rfl rfl hun infoI rfl (by decide) encI_len encI_one rfl ho3 (A := (some ⟨b, o + (m + 1), none⟩)) (c := (k - (m + 1))) (ys := rest) (by rw [hrl'.out]; rfl) (fun e => by first | rfl | cases e) (hRr w3 hB3) (by first | omega | (simp; done) | (simp; omega)) (by unfold maxLen; first | omega | (simp; done) | (simp; omega)) hb3.size ?_; intro v4 w4 ho4 hg4 hat4; have hb4 := below_step hb3 hb3.size hg4 (fun k e => (ho3.base k e).1)))
            obtain ⟨A5, c5, rfl, hs5⟩ := own_sl ho4
            go_ret
            exact ⟨_, A5, c5, rfl, hins.out, hs5, below_call hB hB.size hb4⟩
end Go.Proofs.YtaohkcdfjjiggaaGreat
/-! marigoldref07.who, Doubles, walked. -/
namespace Go.Proofs.YtaohkcdfjjiggaaGreat
open Go.RowKit
/-- Who has a vote. -/
def WhoOk (l : List Vote) (r : List Int) : Prop := Rises r ∧ (∀ g, g ∈ r ↔ ∃ x ∈ l, x.frm = g) ∧ r.length ≤ l.length
theorem who_nil : WhoOk [] [] := ⟨trivial, by simp, Nat.le_refl _⟩
theorem who_step {l : List Vote} {r r' : List Int} {j : Nat} (hj : j < l.length) (h : WhoOk (l.take j) r) {x : Vote} (hx : l[j] = x) (hp : PutOk r x.frm r') : WhoOk (l.take (j + 1)) r' := by
  rw [List.take_succ_eq_append_getElem hj, hx]
  refine ⟨hp.1, fun g => ?_, ?_⟩
  · rw [hp.2.1, h.2.1]
    constructor
    · rintro (⟨y, hy, e⟩ | e)
      · exact ⟨y, List.mem_append_left _ hy, e⟩
      · exact ⟨x, by simp, e.symm⟩
    · rintro ⟨y, hy, e⟩
      rcases List.mem_append.1 hy with hy | hy
      · exact .inl ⟨y, hy, e⟩
      · rw [List.mem_singleton.1 hy] at e; exact .inr e.symm
  · have h1 := hp.2.2
    have h2 := h.2.2
    simp only [List.length_append, List.length_singleton]
    omega
set_option maxRecDepth 100000 in
set_option maxHeartbeats 1000000 in
theorem rwho_any (l : List Vote) (A : Option Addr) (k : Nat) (w : World) (hr : Rd 4 encVote w A l) (hl : l.length ≤ 100000) :
    Calls Tryz.prog 77 #[.slice A l.length k] w fun e w' => ∃ r A' k', e = .returned (.slice A' r.length k') ∧ WhoOk l r ∧ Sl w' A' k' r ∧ Below w.heap.size w w' := by
  have hm := hr.1
  go_enter Tryz.func77, Tryz.ntmps77
  go_wp2_with fail
  go_loopw [3, 4] (fun u i wr => ∃ (j : Nat) (r : List Int) (A' : Option Addr) (k' : Nat), j ≤ l.length ∧ i = .int .i64 j ∧ u = .slice A' r.length k' ∧ Hid (WhoOk (l.take j) r) ∧ Sl wr A' k' r ∧ Below w.heap.size w wr) (fun _ i _ => l.length - (intOf i).toNat)
  case atStart => exact ⟨0, [], none, 0, Nat.zero_le _, rfl, rfl, Lib.hid (by simpa using who_nil), sl_nil _, Below.refl _ _⟩
  case round =>
    obtain ⟨j, r, A', k', hj, rfl, rfl, hw, hs, hB⟩ := hrel
    by_cases hlt : j < l.length
    · obtain ⟨b', o', rfl, hbo, d0, d1, d2, d3⟩ := (hr.below hB).atVote hlt
      obtain ⟨x, hx⟩ : ∃ x, l[j] = x := ⟨_, rfl⟩
      rw [hx] at d0 d1 d2 d3
      have hstep := Lib.hid (fun r' hp => who_step (r' := r') hlt hw.out hx hp)
      have hrl : r.length ≤ 100000 := by have := hw.out.2.2; simp at this; omega
      have hput := put_any r x.frm A' k' wr hs hw.out.1 hrl
      clear hx
      go_wp2_with (go_at_call 112; (with_reducible refine hput.mono ?_); clear hput; rintro e w2 ⟨r2, A2, k2, rfl, hp2, hs2, hb2⟩; have hst := Lib.hid (hstep.out r2 hp2); have hB2 := below_call hB hB.size hb2; clear hp2)
      go_roundw
      case rel => exact ⟨j + 1, r2, A2, k2, hlt, by go_num, rfl, hst, hs2, hB2⟩
      case measure => simp [intOf]; omega
    · obtain rfl : j = l.length := by omega
      have hw2 := hw.out
      rw [List.take_length] at hw2
      have hw3 := Lib.hid hw2
      clear hw2 hw
      go_wp2_with fail
      go_ret
      exact ⟨r, A', k', rfl, hw3.out, hs, hB⟩
theorem rises_filter (p : Int → Bool) : ∀ {l : List Int}, Rises l → Rises (l.filter p)
  | [], _ => trivial
  | x :: xs, h => by
    have ih := rises_filter p (l := xs) h.2
    by_cases e : p x = true
    · rw [List.filter_cons_of_pos e]
      exact ⟨fun z hz => h.1 z (List.mem_filter.1 hz).1, ih⟩
    · rw [List.filter_cons_of_neg e]
      exact ih
def dblF (l : List Vote) (s : Int) (r : List Int) : List Int := r.filter fun f => decide (Dbl l s f)
theorem dblF_snoc (l : List Vote) (s : Int) {r : List Int} {k : Nat} (h : k < r.length) : dblF l s (r.take (k + 1)) = dblF l s (r.take k) ++ (if Dbl l s r[k] then [r[k]] else []) := by
  unfold dblF
  rw [List.take_succ_eq_append_getElem h, List.filter_append]
  by_cases e : Dbl l s r[k] <;> simp [e]
theorem dblF_len (l : List Vote) (s : Int) (r : List Int) : (dblF l s r).length ≤ r.length := List.length_filter_le _ _
theorem dblF_all {l : List Vote} {s : Int} {r : List Int} (h : WhoOk l r) : dblF l s r = dblL l s :=
  dblL_eq ⟨rises_filter _ h.1, fun f => by
    unfold dblF
    rw [List.mem_filter, decide_eq_true_eq, h.2.1]
    exact ⟨fun h => h.2, fun hd => ⟨by obtain ⟨x, hx, hf, _⟩ := dbl_mem hd; exact ⟨x, hx, hf⟩, hd⟩⟩⟩
end Go.Proofs.YtaohkcdfjjiggaaGreat
/-! marigoldref07.Of, walked. -/
namespace Go.Proofs.YtaohkcdfjjiggaaGreat
open Go.RowKit
/-- The votes that count, of some. -/
def OfPart (l : List Vote) (s : Int) (rs : List Int) (out : List Vote) : Prop := RisesV out ∧ (∀ v, v ∈ out ↔ InOf l s v ∧ v.frm ∈ rs) ∧ out.length ≤ rs.length
theorem ofp_nil (l : List Vote) (s : Int) : OfPart l s [] [] := ⟨trivial, by simp, Nat.le_refl _⟩
theorem ofp_skip {l : List Vote} {s : Int} {rs : List Int} {out : List Vote} {f : Int} (h : OfPart l s rs out) (hn : ∀ v, InOf l s v → v.frm ≠ f) : OfPart l s (rs ++ [f]) out := by
  refine ⟨h.1, fun v => ?_, by have := h.2.2; simp; omega⟩
  rw [h.2.1, List.mem_append, List.mem_singleton]
  exact ⟨fun ⟨h1, h2⟩ => ⟨h1, .inl h2⟩, fun ⟨h1, h2⟩ => ⟨h1, h2.elim id (fun e => absurd e (hn v h1))⟩⟩
theorem risesV_snoc : ∀ {out : List Vote} {v : Vote}, RisesV out → (∀ x ∈ out, x.frm < v.frm) → RisesV (out ++ [v])
  | [], _, _, _ => ⟨by simp, trivial⟩
  | x :: xs, v, h, hl => by
    refine ⟨fun z hz => ?_, risesV_snoc (out := xs) h.2 (fun y hy => hl y (by simp [hy]))⟩
    obtain ⟨y, hy, rfl⟩ := List.mem_map.1 hz
    rcases List.mem_append.1 hy with hy | hy
    · exact h.1 _ (List.mem_map_of_mem hy)
    · rw [List.mem_singleton.1 hy]; exact hl x (by simp)
theorem ofp_take {l : List Vote} {s : Int} {rs : List Int} {out : List Vote} {v : Vote} (h : OfPart l s rs out) (hv : InOf l s v) (hlt : ∀ g ∈ rs, g < v.frm) : OfPart l s (rs ++ [v.frm]) (out ++ [v]) := by
  refine ⟨risesV_snoc h.1 (fun x hx => hlt _ ((h.2.1 x).1 hx).2), fun x => ?_, by have := h.2.2; simp; omega⟩
  rw [List.mem_append, List.mem_singleton, h.2.1, List.mem_append, List.mem_singleton]
  constructor
  · rintro (⟨h1, h2⟩ | rfl)
    · exact ⟨h1, .inl h2⟩
    · exact ⟨hv, .inr rfl⟩
  · rintro ⟨h1, h2 | h2⟩
    · exact .inl ⟨h1, h2⟩
    · exact .inr (dbl_one h1.1 hv.1 h2 (h1.2.1.trans hv.2.1.symm) (by rw [h1.2.1]; exact h1.2.2))
theorem ofp_all {l : List Vote} {s : Int} {r : List Int} {out : List Vote} (hw : WhoOk l r) (h : OfPart l s r out) : out = ofL l s :=
  ofL_eq ⟨h.1, fun v => by
    rw [h.2.1]
    exact ⟨fun h => h.1, fun hv => ⟨hv, (hw.2.1 _).2 ⟨v, hv.1, rfl⟩⟩⟩⟩
set_option maxRecDepth 100000 in
set_option maxHeartbeats 4000000 in
theorem rvof_any (l : List Vote) (s : Int) (A : Option Addr) (k : Nat) (w : World) (hr : Rd 4 encVote w A l) (hl : l.length ≤ 100000) :
    Calls Tryz.prog 46 #[.slice A l.length k, .int .i64 s] w fun e w' => ∃ u, e = .returned u ∧ Own w' w.heap.size 42 4 encVote u (ofL l s) ∧ Below w.heap.size w w' := by
  have hm := hr.1
  have hunV := Tryz.underlying27
  have hwho := rwho_any l A k w hr hl
  have hdb := fun V (hV : Below w.heap.size w V) (f : Int) => rdouble_any l s f A k V (hr.below hV)
  go_enter Tryz.func46, Tryz.ntmps46
  go_wp2_with (go_at_call 77; (with_reducible refine hwho.mono ?_); clear hwho; rintro e w1 ⟨r, A1, k1, rfl, hw, hs, hB1⟩; have hw' := Lib.hid hw; have hrl : r.length ≤ 100000 := Nat.le_trans hw.2.2 hl; have hR1 := hs.rd; have hm1 := hR1.1; clear hw)
  go_loopw [5, 7, 8, 9] (fun u i _u8 _u9 wr => ∃ (j : Nat) (out : List Vote), j ≤ r.length ∧ i = .int .i64 j ∧ Own wr w1.heap.size 42 4 encVote u out ∧ Hid (OfPart l s (r.take j) out) ∧ Below w1.heap.size w1 wr) (fun _ i _ _ _ => r.length - (intOf i).toNat)
  case atStart => exact ⟨0, [], Nat.zero_le _, rfl, Own.nil _ _ _ _ _, Lib.hid (by simpa using ofp_nil l s), Below.refl _ _⟩
  case round =>
    obtain ⟨j, out, hj, rfl, hu, hop, hBW⟩ := hrel
    have hB := below_call hB1 hB1.size hBW
    by_cases hlt : j < r.length
    · obtain ⟨b', o', rfl, hbo, d0⟩ := (hR1.below hBW).atI hlt
      have htk := Lib.hid (List.take_succ_eq_append_getElem hlt)
      have hst := Lib.hid (show ∀ V, Below w1.heap.size w1 V → V.cell? ⟨b', o' + j, none⟩ = some (.int .i64 r[j]) from fun V hV => by
        obtain ⟨b2, o2, he, _, q0⟩ := (hR1.below hV).atI hlt
        cases he
        exact q0)
      have hless := Lib.hid (show ∀ g ∈ r.take j, g < r[j] from fun g hg => by
        obtain ⟨i, hi, rfl⟩ := List.mem_take_iff_getElem.1 hg
        exact rises_le hw'.out.1 i j (by omega) hlt (by omega))
      obtain ⟨f, hfe⟩ : ∃ f, r[j] = f := ⟨_, rfl⟩
      rw [hfe] at d0 htk hst hless
      clear hfe
      have hub : ∀ k, u5.ownBlock = some k → w1.heap.size ≤ k := fun k hk => (hu.base k hk).1
      have hol : out.length ≤ 100000 := by have := hop.out.2.2; simp at this; omega
      have hdx := hdb wr hB f
      by_cases hD : Dbl l s f
      · rw [show decide (Dbl l s f) = true by simpa using hD] at hdx
        have hs2 := Lib.hid (show OfPart l s (r.take (j + 1)) out by rw [htk.out]; exact ofp_skip hop.out (fun v hv e => hv.2.2 (e ▸ hD)))
        clear hD
        go_wp2_with (go_at_call 78; (with_reducible refine hdx.mono ?_); clear hdx; rintro e w2 ⟨rfl, hb2⟩; have hB2 := below_call hBW hBW.size hb2)
        go_roundw
        case rel => exact ⟨j + 1, out, hlt, by go_num, hu.below hb2, hs2, hB2⟩
        case measure => simp [intOf]; omega
      · rw [show decide (Dbl l s f) = false by simpa using hD] at hdx
        have htake := Lib.hid (show ∀ v ∈ l, v.frm = f → v.slot = s → OfPart l s (r.take (j + 1)) (out ++ [v]) from fun v hv hf hs => by
          rw [htk.out, ← hf]
          exact ofp_take hop.out ⟨hv, hs, by rw [hf]; exact hD⟩ (by rw [hf]; exact hless.out))
        have hskip := Lib.hid (show (∀ v ∈ l, ¬ (v.frm = f ∧ v.slot = s)) → OfPart l s (r.take (j + 1)) out from fun hno => by
          rw [htk.out]
          exact ofp_skip hop.out (fun v hv e => hno v hv.1 ⟨e, hv.2.1⟩))
        clear hD
        go_wp2_with (go_at_call 78; (with_reducible refine hdx.mono ?_); clear hdx; rintro e w2 ⟨rfl, hb2⟩; have hB2 := below_call hBW hBW.size hb2)
        have hu2 := hu.below hb2
        have hB02 := below_call hB hB.size hb2
        clear hu hb2 hBW hB d0
        go_loopw [5, 9] (fun u i wr => ∃ q : Nat, q ≤ l.length ∧ i = .int .i64 q ∧ Own wr w1.heap.size 42 4 encVote u out ∧ Hid (∀ y ∈ l.take q, ¬ (y.frm = f ∧ y.slot = s)) ∧ Below w2.heap.size w2 wr) (fun _ i _ => l.length - (intOf i).toNat)
        case atStart => exact ⟨0, Nat.zero_le _, rfl, hu2, Lib.hid (by simp), Below.refl _ _⟩
        case round =>
          clear hu2 hub
          obtain ⟨q, hq, rfl, hu3, hno, hBX⟩ := hrel
          have hub : ∀ k, u5.ownBlock = some k → w1.heap.size ≤ k := fun k hk => (hu3.base k hk).1
          have hB1x := below_call hB2 hB2.size hBX
          have hBx := below_call hB02 hB02.size hBX
          have d0 := hst.out _ hB1x
          by_cases hql : q < l.length
          · obtain ⟨b3, o3, rfl, hbo3, e0, e1, e2, e3⟩ := (hr.below hBx).atVote hql
            have hym := List.getElem_mem hql
            have htq := Lib.hid (List.take_succ_eq_append_getElem hql)
            obtain ⟨y, hy⟩ : ∃ y, l[q] = y := ⟨_, rfl⟩
            rw [hy] at e0 e1 e2 e3 hym htq
            have hsy := Lib.hid (show ∀ V, Below w.heap.size w V → V.cell? ⟨b3, o3 + q * 4, none⟩ = some (.int .i64 y.frm) ∧ V.cell? ⟨b3, o3 + q * 4 + 1, none⟩ = some (.int .i64 y.slot) ∧ V.cell? ⟨b3, o3 + q * 4 + 2, none⟩ = some (.int .u64 y.head.hi) ∧ V.cell? ⟨b3, o3 + q * 4 + 3, none⟩ = some (.int .u64 y.head.lo) from fun V hV => by
              obtain ⟨b2, o2, he, _, q0, q1, q2, q3⟩ := (hr.below hV).atVote hql
              cases he
              rw [hy] at q0 q1 q2 q3
              exact ⟨q0, q1, q2, q3⟩)
            clear hy
            have hnext := Lib.hid (fun (h : ¬ (y.frm = f ∧ y.slot = s)) => show ∀ z ∈ l.take (q + 1), ¬ (z.frm = f ∧ z.slot = s) from fun z hz => by
              rw [htq.out] at hz
              rcases List.mem_append.1 hz with hz | hz
              · exact hno.out z hz
              · rw [List.mem_singleton.1 hz]; exact h)
            by_cases h1 : y.frm = f
            · have c1 : (y.frm == f) = true := by simpa using h1
              by_cases h2 : y.slot = s
              · have c2 : (y.slot == s) = true := by simpa using h2
                have ht2 := Lib.hid (htake.out y hym h1 h2)
                clear h1 h2 hym
                go_wp2_with fail
                go_quiet (fail)
                have hvl := vlay (wr.drewN nq) y
                have hu4 := (hu3.below (pw_below_drewN (Below.refl _ wr) nq)).below hvl.1
                have hB4 := below_call (pw_below_drewN hB1x nq) hB1x.size hvl.1
                have hx4 := hvl.2
                clear hvl
                go_wp2_with (at_builtin; refine wp_append1 rfl rfl hunV infoV rfl (by decide) encVote_len encVote_one rfl hu4 (g := (wr.drewN nq).heap.size) (c := 1) rfl (y := y) hx4 rfl (by omega) (by unfold maxLen; omega) hB4.size ?_; intro v6 w6 hu6 hg6 hat6)
                go_roundw
                case rel => exact ⟨j + 1, out ++ [y], hlt, by go_num, hu6, ht2, below_step hB4 hB4.size hg6 hub⟩
                case measure => simp [intOf]; omega
              · have c2 : (y.slot == s) = false := by simpa using h2
                have hn2 := Lib.hid (hnext.out (fun h => h2 h.2))
                clear h1 h2 hym
                go_wp2_with fail
                go_quiet (fail)
                go_wp2_with fail
                go_roundw
                case rel => exact ⟨q + 1, hql, by go_num, hu3.below (pw_below_drewN (Below.refl _ wr) _), hn2, pw_below_drewN hBX _⟩
                case measure => simp [intOf]; omega
            · have c1 : (y.frm == f) = false := by simpa using h1
              have hn2 := Lib.hid (hnext.out (fun h => h1 h.1))
              clear h1 hym
              go_wp2_with fail
              go_quiet (fail)
              go_wp2_with fail
              go_roundw
              case rel => exact ⟨q + 1, hql, by go_num, hu3.below (pw_below_drewN (Below.refl _ wr) _), hn2, pw_below_drewN hBX _⟩
              case measure => simp [intOf]; omega
          · obtain rfl : q = l.length := by omega
            have hno2 := hno.out
            rw [List.take_length] at hno2
            have hs2 := Lib.hid (hskip.out hno2)
            clear hno2
            go_wp2_with fail
            go_roundw
            case rel => exact ⟨j + 1, out, hlt, by go_num, hu3, hs2, hB1x⟩
            case measure => simp [intOf]; omega
    · obtain rfl : j = r.length := by omega
      have ho := hop.out
      rw [List.take_length] at ho
      have he := ofp_all hw'.out ho
      subst he
      obtain ⟨A2, k2, rfl, _⟩ := hu.rd encVote_len
      clear ho
      go_wp2_with fail
      go_ret
      exact ⟨_, rfl, hu.mono hB1.size, hB⟩
end Go.Proofs.YtaohkcdfjjiggaaGreat
