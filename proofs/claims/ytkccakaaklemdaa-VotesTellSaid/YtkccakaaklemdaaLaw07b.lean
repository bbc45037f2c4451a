/- marigoldref07.Same, Ints; marigoldlaw07.there, walked. -/
import Derived.Test.YtkccakaaklemdaaEachP
import Derived.Test.YtkccakaaklemdaaName
namespace Go.Proofs.Ytkccakaaklemdaa
open Go.RowKit
theorem take_same {α : Type} {a b : List α} {i : Nat} (ha : i < a.length) (hb : i < b.length) (h : a.take i = b.take i) (he : a[i] = b[i]) : a.take (i + 1) = b.take (i + 1) := by
  rw [List.take_succ_eq_append_getElem ha, List.take_succ_eq_append_getElem hb, h, he]
set_option maxRecDepth 100000 in
set_option maxHeartbeats 1000000 in
theorem same_any (a b : List Vote) (A B : Option Addr) (k kb : Nat) (w : World) (hr : Rd 4 encVote w A a) (hr2 : Rd 4 encVote w B b) :
    Calls Try.prog 23 #[.slice A a.length k, .slice B b.length kb] w fun e w' => e = .returned (.bool (decide (a = b))) ∧ Below w.heap.size w w' := by
  have hm := hr.1
  have hm2 := hr2.1
  by_cases hl : a.length = b.length
  · have hlb : ((a.length : Int) != (b.length : Int)) = false := by simp [hl]
    have hl' := Lib.hid hl
    obtain ⟨nb, hnb⟩ : ∃ nb, b.length = nb := ⟨_, rfl⟩
    rw [hnb] at hl hm2 hlb ⊢
    obtain ⟨na, hna⟩ : ∃ na, a.length = na := ⟨_, rfl⟩
    rw [hna] at hl hm hlb ⊢
    have hna' := Lib.hid hna
    have hnb' := Lib.hid hnb
    clear hna hnb
    go_enter Try.func23, Try.ntmps23
    go_wp2_with fail
    go_loopw [5] (fun i wr => ∃ j : Nat, j ≤ na ∧ i = .int .i64 j ∧ Hid (a.take j = b.take j) ∧ Below w.heap.size w wr) (fun i _ => na - (intOf i).toNat)
    case atStart => exact ⟨0, Nat.zero_le _, rfl, Lib.hid (by simp), Below.refl _ _⟩
    case round =>
      obtain ⟨j, hj, rfl, hs, hB⟩ := hrel
      by_cases hlt : j < na
      · have ha : j < a.length := by rw [hna'.out]; exact hlt
        have hb : j < b.length := by rw [hnb'.out, ← hl]; exact hlt
        have hj2 : j < nb := by omega
        obtain ⟨b1, o1, rfl, hbo1, d0, d1, d2, d3⟩ := (hr.below hB).atVote ha
        obtain ⟨b2, o2, rfl, hbo2, e0, e1, e2, e3⟩ := (hr2.below hB).atVote hb
        have hne := neq_votew a[j] b[j]
        have hstep := Lib.hid (fun h => take_same ha hb hs.out h)
        have hdiff := Lib.hid (fun (h : a[j] ≠ b[j]) (e : a = b) => h (by subst e; rfl))
        obtain ⟨x, hx⟩ : ∃ x, a[j] = x := ⟨_, rfl⟩
        obtain ⟨y, hy⟩ : ∃ y, b[j] = y := ⟨_, rfl⟩
        rw [hx] at d0 d1 d2 d3 hne hstep hdiff
        rw [hy] at e0 e1 e2 e3 hne hstep hdiff
        clear hx hy ha hb
        by_cases he : x = y
        · have hd : decide (x = y) = true := by simpa using he
          rw [hd] at hne
          have hs2 := Lib.hid (hstep.out he)
          clear hd he hstep hdiff
          go_wp2_with fail
          go_quiet (fail)
          go_wp2_with fail
          go_roundw
          case rel => exact ⟨j + 1, hlt, by go_num, hs2, pw_below_drewN hB _⟩
          case measure => simp [intOf]; omega
        · have hd : decide (x = y) = false := by simpa using he
          rw [hd] at hne
          have hs2 := Lib.hid (hdiff.out he)
          clear hd he hstep hdiff
          go_wp2_with fail
          go_quiet (fail)
          go_wp2_with fail
          go_ret
          exact ⟨ret_bool (by simpa using hs2.out), pw_below_drewN hB _⟩
      · obtain rfl : j = na := by omega
        have hab : a = b := by
          have := hs.out
          rwa [← hna'.out, List.take_length, hl'.out, List.take_length] at this
        go_wp2_with fail
        go_ret
        exact ⟨ret_bool (by simp [hab]), hB⟩
  · have hlb : ((a.length : Int) != (b.length : Int)) = true := by simp; omega
    have hab : a ≠ b := fun e => hl (by rw [e])
    have hab' := Lib.hid hab
    clear hab
    go_enter Try.func23, Try.ntmps23
    go_wp2_with fail
    go_ret
    exact ⟨ret_bool (by simpa using hab'.out), Below.refl _ _⟩
set_option maxRecDepth 100000 in
set_option maxHeartbeats 1000000 in
theorem ints_any (a b : List Int) (A B : Option Addr) (k kb : Nat) (w : World) (hr : Rd 1 encI w A a) (hr2 : Rd 1 encI w B b) :
    Calls Try.prog 20 #[.slice A a.length k, .slice B b.length kb] w fun e w' => e = .returned (.bool (decide (a = b))) ∧ Below w.heap.size w w' := by
  have hm := hr.1
  have hm2 := hr2.1
  by_cases hl : a.length = b.length
  · have hlb : ((a.length : Int) != (b.length : Int)) = false := by simp [hl]
    have hl' := Lib.hid hl
    obtain ⟨nb, hnb⟩ : ∃ nb, b.length = nb := ⟨_, rfl⟩
    rw [hnb] at hl hm2 hlb ⊢
    obtain ⟨na, hna⟩ : ∃ na, a.length = na := ⟨_, rfl⟩
    rw [hna] at hl hm hlb ⊢
    have hna' := Lib.hid hna
    have hnb' := Lib.hid hnb
    clear hna hnb
    go_enter Try.func20, Try.ntmps20
    go_wp2_with fail
    go_loopw [5] (fun i wr => ∃ j : Nat, j ≤ na ∧ i = .int .i64 j ∧ Hid (a.take j = b.take j) ∧ Below w.heap.size w wr) (fun i _ => na - (intOf i).toNat)
    case atStart => exact ⟨0, Nat.zero_le _, rfl, Lib.hid (by simp), Below.refl _ _⟩
    case round =>
      obtain ⟨j, hj, rfl, hs, hB⟩ := hrel
      by_cases hlt : j < na
      · have ha : j < a.length := by rw [hna'.out]; exact hlt
        have hb : j < b.length := by rw [hnb'.out, ← hl]; exact hlt
        have hj2 : j < nb := by omega
        obtain ⟨b1, o1, rfl, hbo1, d0⟩ := (hr.below hB).atI ha
        obtain ⟨b2, o2, rfl, hbo2, e0⟩ := (hr2.below hB).atI hb
        have hstep := Lib.hid (fun h => take_same ha hb hs.out h)
        have hdiff := Lib.hid (fun (h : a[j] ≠ b[j]) (e : a = b) => h (by subst e; rfl))
        obtain ⟨x, hx⟩ : ∃ x, a[j] = x := ⟨_, rfl⟩
        obtain ⟨y, hy⟩ : ∃ y, b[j] = y := ⟨_, rfl⟩
        rw [hx] at d0 hstep hdiff
        rw [hy] at e0 hstep hdiff
        clear hx hy ha hb
        by_cases he : x = y
        · have hd : (x != y) = false := by simp [he]
          have hs2 := Lib.hid (hstep.out he)
          clear he hstep hdiff
          go_wp2_with fail
          go_quiet (fail)
          go_wp2_with fail
          go_roundw
          case rel => exact ⟨j + 1, hlt, by go_num, hs2, pw_below_drewN hB _⟩
          case measure => simp [intOf]; omega
        · have hd : (x != y) = true := by simpa using he
          have hs2 := Lib.hid (hdiff.out he)
          clear he hstep hdiff
          go_wp2_with fail
          go_quiet (fail)
          go_wp2_with fail
          go_ret
          exact ⟨ret_bool (by simpa using hs2.out), pw_below_drewN hB _⟩
      · obtain rfl : j = na := by omega
        have hab : a = b := by
          have := hs.out
          rwa [← hna'.out, List.take_length, hl'.out, List.take_length] at this
        go_wp2_with fail
        go_ret
        exact ⟨ret_bool (by simp [hab]), hB⟩
  · have hlb : ((a.length : Int) != (b.length : Int)) = true := by simp; omega
    have hab : a ≠ b := fun e => hl (by rw [e])
    have hab' := Lib.hid hab
    clear hab
    go_enter Try.func20, Try.ntmps20
    go_wp2_with fail
    go_ret
    exact ⟨ret_bool (by simpa using hab'.out), Below.refl _ _⟩
set_option maxRecDepth 100000 in
set_option maxHeartbeats 1000000 in
theorem there_any (a : List Vote) (v : Vote) (A : Option Addr) (k : Nat) (w : World) (hr : Rd 4 encVote w A a) :
    Calls Try.prog 27 #[.slice A a.length k, .agg #[.int .i64 v.frm, .int .i64 v.slot, .int .u64 v.head.hi, .int .u64 v.head.lo]] w fun e w' => e = .returned (.bool (decide (v ∈ a))) ∧ Below w.heap.size w w' := by
  have hm := hr.1
  have hvl := vlay w v
  have hB0 := hvl.1
  have x0 := hvl.2
  clear hvl
  go_enter Try.func27, Try.ntmps27
  go_wp2_with fail
  go_loopw [5] (fun i wr => ∃ j : Nat, j ≤ a.length ∧ i = .int .i64 j ∧ Hid (v ∉ a.take j) ∧ wr.heap[w.heap.size]? = some (.cells #[.int .i64 v.frm, .int .i64 v.slot, .int .u64 v.head.hi, .int .u64 v.head.lo] 38 (0, 0)) ∧ Below w.heap.size w wr) (fun i _ => a.length - (intOf i).toNat)
  case atStart => exact ⟨0, Nat.zero_le _, rfl, Lib.hid (by simp), x0, hB0⟩
  case round =>
    clear x0 hB0
    obtain ⟨j, hj, rfl, hs, hx0, hB⟩ := hrel
    obtain ⟨c0, c1, c2, c3⟩ := blk4 hx0
    by_cases hlt : j < a.length
    · obtain ⟨b1, o1, rfl, hbo1, d0, d1, d2, d3⟩ := (hr.below hB).atVote hlt
      have hne := eql_votew a[j] v
      have hstep := Lib.hid (fun (h : ¬ a[j] = v) => not_mem_step hlt hs.out (fun e => h e.symm))
      have hyes := Lib.hid (fun (h : a[j] = v) => show v ∈ a from h ▸ List.getElem_mem hlt)
      obtain ⟨x, hx⟩ : ∃ x, a[j] = x := ⟨_, rfl⟩
      rw [hx] at d0 d1 d2 d3 hne hstep hyes
      clear hx
      by_cases he : x = v
      · have hd : decide (x = v) = true := by simpa using he
        rw [hd] at hne
        have hs2 := Lib.hid (hyes.out he)
        clear hd he hstep hyes
        go_wp2_with fail
        go_quiet (fail)
        go_wp2_with fail
        go_ret
        exact ⟨ret_bool (by simpa using hs2.out), pw_below_drewN hB _⟩
      · have hd : decide (x = v) = false := by simpa using he
        rw [hd] at hne
        have hs2 := Lib.hid (hstep.out he)
        clear hd he hstep hyes
        go_wp2_with fail
        go_quiet (fail)
        go_wp2_with fail
        go_roundw
        case rel => exact ⟨j + 1, hlt, by go_num, hs2, hx0, pw_below_drewN hB _⟩
        case measure => simp [intOf]; omega
    · obtain rfl : j = a.length := by omega
      have hno : v ∉ a := by have := hs.out; rwa [List.take_length] at this
      have hno' := Lib.hid hno
      clear hno
      go_wp2_with fail
      go_ret
      exact ⟨ret_bool (by simpa using hno'.out), hB⟩
end Go.Proofs.Ytkccakaaklemdaa
