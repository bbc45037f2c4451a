/- marigoldref07.double, walked. -/
import Derived.Test.YtkccakaaklemdaaEachP
namespace Go.Proofs.Ytkccakaaklemdaa
open Go.RowKit
/-- Two votes that make one double. -/
def Pv (s f : Int) (x y : Vote) : Prop := x.frm = f ∧ y.frm = f ∧ x.slot = s ∧ y.slot = s ∧ x.head ≠ y.head
theorem pv_dbl {l : List Vote} {s f : Int} {x y : Vote} (hx : x ∈ l) (hy : y ∈ l) (h : Pv s f x y) : Dbl l s f := ⟨x, hx, y, hy, h⟩
/-- No two of the first k make one double. -/
def Nop (l : List Vote) (s f : Int) (k : Nat) : Prop := ∀ a b (ha : a < l.length) (hb : b < l.length), b < a → a < k → ¬ Pv s f l[a] l[b]
theorem nop_zero (l : List Vote) (s f : Int) : Nop l s f 0 := fun a b _ _ _ h => by omega
theorem nop_all {l : List Vote} {s f : Int} (h : Nop l s f l.length) : ¬ Dbl l s f := by
  rintro ⟨x, hx, y, hy, h1, h2, h3, h4, h5⟩
  obtain ⟨a, ha, rfl⟩ := List.getElem_of_mem hx
  obtain ⟨b, hb, rfl⟩ := List.getElem_of_mem hy
  rcases Nat.lt_trichotomy a b with hab | hab | hab
  · exact h b a hb ha hab hb ⟨h2, h1, h4, h3, fun e => h5 e.symm⟩
  · subst hab; exact h5 rfl
  · exact h a b ha hb hab ha ⟨h1, h2, h3, h4, h5⟩
def Nop2 (l : List Vote) (s f : Int) (x : Vote) (k : Nat) : Prop := ∀ b (hb : b < l.length), b < k → ¬ Pv s f x l[b]
theorem nop2_step {l : List Vote} {s f : Int} {x y : Vote} {k : Nat} (hk : k < l.length) (h : Nop2 l s f x k) (hy : l[k] = y) (hn : ¬ Pv s f x y) : Nop2 l s f x (k + 1) := fun b hb hbk => by
  by_cases e : b = k
  · subst e; rw [hy]; exact hn
  · exact h b hb (by omega)
theorem nop_step {l : List Vote} {s f : Int} {x : Vote} {k : Nat} (hk : k < l.length) (h : Nop l s f k) (hx : l[k] = x) (h2 : Nop2 l s f x k) : Nop l s f (k + 1) := fun a b ha hb hba hak => by
  by_cases e : a = k
  · subst e; rw [hx]; exact h2 b hb hba
  · exact h a b ha hb hba (by omega)
set_option maxRecDepth 100000 in
set_option maxHeartbeats 4000000 in
theorem rdouble_any (l : List Vote) (s f : Int) (A : Option Addr) (k : Nat) (w : World) (hr : Rd 4 encVote w A l) :
    Calls Try.prog 43 #[.slice A l.length k, .int .i64 s, .int .i64 f] w fun e w' => e = .returned (.bool (decide (Dbl l s f))) ∧ Below w.heap.size w w' := by
  have hm := hr.1
  go_enter Try.func43, Try.ntmps43
  go_wp2_with fail
  go_loopw [7, 8] (fun i _u wr => ∃ j : Nat, j ≤ l.length ∧ i = .int .i64 j ∧ Hid (Nop l s f j) ∧ Below w.heap.size w wr) (fun i _ _ => l.length - (intOf i).toNat)
  case atStart => exact ⟨0, Nat.zero_le _, rfl, Lib.hid (nop_zero _ _ _), Below.refl _ _⟩
  case round =>
    obtain ⟨j, hj, rfl, hno, hB⟩ := hrel
    by_cases hlt : j < l.length
    · obtain ⟨b', o', rfl, hbo, -⟩ := (hr.below hB).atVote hlt
      have hxm := List.getElem_mem hlt
      obtain ⟨x, hx⟩ : ∃ x, l[j] = x := ⟨_, rfl⟩
      rw [hx] at hxm
      have hsx := Lib.hid (show ∀ V, Below w.heap.size w V → V.cell? ⟨b', o' + j * 4, none⟩ = some (.int .i64 x.frm) ∧ V.cell? ⟨b', o' + j * 4 + 1, none⟩ = some (.int .i64 x.slot) ∧ V.cell? ⟨b', o' + j * 4 + 2, none⟩ = some (.int .u64 x.head.hi) ∧ V.cell? ⟨b', o' + j * 4 + 3, none⟩ = some (.int .u64 x.head.lo) from fun V hV => by
        obtain ⟨b2, o2, he, _, q0, q1, q2, q3⟩ := (hr.below hV).atVote hlt
        cases he
        rw [hx] at q0 q1 q2 q3
        exact ⟨q0, q1, q2, q3⟩)
      have hstep := Lib.hid (fun h2 => nop_step hlt hno.out hx h2)
      clear hx
      rename World => w5
      go_wp2_with fail
      go_loopw [8] (fun i wr => ∃ q : Nat, q ≤ j ∧ i = .int .i64 q ∧ Hid (Nop2 l s f x q) ∧ Below w.heap.size w wr) (fun i _ => j - (intOf i).toNat)
      case atStart => exact ⟨0, Nat.zero_le _, rfl, Lib.hid (fun b _ hb => by omega), hB⟩
      case round =>
        clear hB
        obtain ⟨q, hq, rfl, hn2, hB⟩ := hrel
        by_cases hqj : q < j
        · have hql : q < l.length := by omega
          obtain ⟨b2, o2, he, hbo2, e0, e1, e2, e3⟩ := (hr.below hB).atVote hql
          cases he
          obtain ⟨d0, d1, d2, d3⟩ := hsx.out _ hB
          have hym := List.getElem_mem hql
          obtain ⟨y, hy⟩ : ∃ y, l[q] = y := ⟨_, rfl⟩
          rw [hy] at e0 e1 e2 e3 hym
          have hst2 := Lib.hid (fun h => nop2_step hql hn2.out hy h)
          clear hy
          have hq8 : q < 9223372036854775807 := by omega
          by_cases h1 : x.frm = f
          · have c1 : (x.frm == f) = true := by simpa using h1
            by_cases h2 : y.frm = f
            · have c2 : (y.frm == f) = true := by simpa using h2
              by_cases h3 : x.slot = s
              · have c3 : (x.slot == s) = true := by simpa using h3
                by_cases h4 : y.slot = s
                · have c4 : (y.slot == s) = true := by simpa using h4
                  have hne := neq_idw x.head y.head
                  by_cases h5 : x.head = y.head
                  · have hd : decide (x.head = y.head) = true := by simpa using h5
                    rw [hd] at hne
                    have hs2 := Lib.hid (hst2.out (fun h => h.2.2.2.2 h5))
                    clear h1 h2 h3 h4 h5 hd hxm hym
                    go_wp2_with fail
                    go_quiet (fail)
                    go_wp2_with fail
                    go_roundw
                    case rel => exact ⟨q + 1, hqj, by go_num, hs2, pw_below_drewN hB _⟩
                    case measure => simp [intOf]; omega
                  · have hd : decide (x.head = y.head) = false := by simpa using h5
                    rw [hd] at hne
                    have hyes := Lib.hid (pv_dbl hxm hym ⟨h1, h2, h3, h4, h5⟩)
                    clear h1 h2 h3 h4 h5 hd hxm hym
                    go_wp2_with fail
                    go_quiet (fail)
                    go_wp2_with fail
                    go_ret
                    exact ⟨ret_bool (by simpa using hyes.out), pw_below_drewN hB _⟩
                · have c4 : (y.slot == s) = false := by simpa using h4
                  have hs2 := Lib.hid (hst2.out (fun h => h4 h.2.2.2.1))
                  clear h1 h2 h3 h4 hxm hym
                  go_wp2_with fail
                  go_quiet (fail)
                  go_wp2_with fail
                  go_roundw
                  case rel => exact ⟨q + 1, hqj, by go_num, hs2, pw_below_drewN hB _⟩
                  case measure => simp [intOf]; omega
              · have c3 : (x.slot == s) = false := by simpa using h3
                have hs2 := Lib.hid (hst2.out (fun h => h3 h.2.2.1))
                clear h1 h2 h3 hxm hym
                go_wp2_with fail
                go_quiet (fail)
                go_wp2_with fail
                go_roundw
                case rel => exact ⟨q + 1, hqj, by go_num, hs2, pw_below_drewN hB _⟩
                case measure => simp [intOf]; omega
            · have c2 : (y.frm == f) = false := by simpa using h2
              have hs2 := Lib.hid (hst2.out (fun h => h2 h.2.1))
              clear h1 h2 hxm hym
              go_wp2_with fail
              go_quiet (fail)
              go_wp2_with fail
              go_roundw
              case rel => exact ⟨q + 1, hqj, by go_num, hs2, pw_below_drewN hB _⟩
              case measure => simp [intOf]; omega
          · have c1 : (x.frm == f) = false := by simpa using h1
            have hs2 := Lib.hid (hst2.out (fun h => h1 h.1))
            clear h1 hxm hym
            go_wp2_with fail
            go_quiet (fail)
            go_wp2_with fail
            go_roundw
            case rel => exact ⟨q + 1, hqj, by go_num, hs2, pw_below_drewN hB _⟩
            case measure => simp [intOf]; omega
        · obtain rfl : q = j := by omega
          have hs2 := Lib.hid (hstep.out hn2.out)
          go_wp2_with fail
          go_roundw
          case rel => exact ⟨q + 1, hlt, by go_num, hs2, hB⟩
          case measure => simp [intOf]; omega
    · obtain rfl : j = l.length := by omega
      have hno2 := Lib.hid (nop_all hno.out)
      go_wp2_with fail
      go_ret
      exact ⟨ret_bool (by simpa using hno2.out), hB⟩
end Go.Proofs.Ytkccakaaklemdaa
