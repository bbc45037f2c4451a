/- Votes sorted by who it is: the walk of votes.sorted. -/
import Derived.Test.YtkccakaaklemdaaSortK
import Derived.Test.YtkccakaaklemdaaVoteC
import Derived.Shelf.SlSortCmp.WholeK
import Derived.Shelf.SlSortCmp.NoneTotal
namespace Go.Proofs.Ytkccakaaklemdaa
open Go.RowKit
instance instInhVt : Inhabited Vote := ⟨⟨0, 0, ⟨0, 0⟩⟩⟩
set_option maxHeartbeats 400000 in
theorem isnan_any (a : Int) (w : World) : Calls Try.prog 61 #[.int .i64 a] w fun e w' => e = .returned (.bool false) ∧ w' = w := by
  go_enter Try.func61, Try.ntmps61
  go_wp2
  go_ret
  exact ⟨rfl, rfl⟩
def cmpI (x y : Int) : Int := if x < y then -1 else if y < x then 1 else 0
set_option maxHeartbeats 400000 in
theorem compare_any (a b : Int) (w : World) : Calls Try.prog 50 #[.int .i64 a, .int .i64 b] w fun e w' => e = .returned (.int .i64 (cmpI a b)) ∧ w' = w := by
  unfold cmpI
  by_cases h1 : a < b
  · rw [if_pos h1]
    go_enter Try.func50, Try.ntmps50
    go_wp2_with (go_at_call 61; refine (isnan_any _ _).mono ?_; rintro e w' ⟨rfl, rfl⟩)
    go_ret
    exact ⟨rfl, rfl⟩
  · rw [if_neg h1]
    by_cases h2 : b < a
    · rw [if_pos h2]
      go_enter Try.func50, Try.ntmps50
      go_wp2_with (go_at_call 61; refine (isnan_any _ _).mono ?_; rintro e w' ⟨rfl, rfl⟩)
      go_ret
      exact ⟨rfl, rfl⟩
    · rw [if_neg h2]
      go_enter Try.func50, Try.ntmps50
      go_wp2_with (go_at_call 61; refine (isnan_any _ _).mono ?_; rintro e w' ⟨rfl, rfl⟩)
      go_ret
      exact ⟨rfl, rfl⟩
def cmpV (x y : Vote) : Int := cmpI x.frm y.frm
theorem ltV (x y : Vote) : ltOf cmpV x y = decide (x.frm < y.frm) := by
  unfold ltOf cmpV cmpI
  by_cases h1 : x.frm < y.frm
  · simp [h1]
  · by_cases h2 : y.frm < x.frm <;> simp [h1, h2]
theorem swoV : Sort.SWO (ltOf cmpV) where
  irrefl x := by rw [ltV]; simp
  trans x y z h1 h2 := by rw [ltV] at *; simp at *; omega
  ntrans x y z h1 h2 := by rw [ltV] at *; simp at *; omega
set_option maxHeartbeats 1000000 in
theorem cmp_any (x y : Vote) (W : World) : Calls Try.prog 49 #[.agg (encVote x).toArray, .agg (encVote y).toArray] W fun e w' => e = .returned (.int .i64 (cmpV x y)) ∧ ∃ q os', w' = Sort.grow (W.drewN q) os' := by
  have hcon := fun W' => compare_any x.frm y.frm W'
  unfold cmpV
  obtain ⟨r, hr⟩ : ∃ r, cmpI x.frm y.frm = r := ⟨_, rfl⟩
  rw [hr] at hcon ⊢
  clear hr
  unfold encVote
  go_enter Try.func49, Try.ntmps49
  go_wp2_with (go_at_call 50; refine (hcon _).mono ?_; rintro e w' ⟨rfl, rfl⟩)
  go_ret
  exact ⟨rfl, 0, _, by rw [Sort.alloc_eq_grow, Sort.alloc_eq_grow, Sort.grow_grow]; rfl⟩
theorem vsortf_any (l : List Vote) (v : Value) (base : Nat) (w : World) (hown : Own w base 38 4 encVote v l) (hl : l.length < 4611686018427387904) :
    Calls Try.prog 48 #[v, .func (.func 49) #[] #[]] w fun e w' => e = .returned (.tuple #[]) ∧ ∃ l', Own w' base 38 4 encVote v l' ∧ l'.Perm l ∧ l'.Pairwise (fun x y => x.frm ≤ y.frm) ∧ w.grownBy w' v.ownBlock := by
  rcases hown.block with ⟨rfl, rfl⟩ | ⟨g, cap, cur, rfl, hb, hh, hle, hm, hs, ht⟩
  · have hcon := AnyF.slices_SortFunc_none sh_sortV none 0 (.func (.func 49) #[] #[]) w
    change Calls Try.prog 48 _ _ _ at hcon
    refine hcon.mono fun e w' ⟨he, hw⟩ => ?_
    subst hw
    exact ⟨he, [], Own.nil _ _ _ _ _, List.Perm.refl _, List.Pairwise.nil, rfl, rfl, rfl, Nat.le_refl _, fun _ _ _ => rfl⟩
  · have eg : ∀ args w, (callFunc 49 args).run Try.prog w = .ok (.enter 49 args) w := enters_of Try.func49 (by kernel_rfl) rfl
    have hcon := AnyQ.slices_SortFunc sh_sortV 4 Try.isAgg38 Try.sizeOf38 encVote encVote_len (fun x v hv => encVote_one x v hv) cmpV swoV 49 #[] g 0 cap l.toArray w eg (fun _ _ _ _ x y => cmp_any x y _) (Own.holdsK encVote_len (by decide) hh ht) (lt_of_block hh) (by simpa using hl)
    change Calls Try.prog 48 _ _ _ at hcon
    refine hcon.mono fun e w' ⟨he, d', n, os, hp, hso, hw⟩ => ?_
    subst hw
    have hsz : d'.size = l.length := by simpa using hp.1
    have ho := Own.relaidK encVote_len (by decide) hb hh hm hs d' (by omega) n os
    rw [hsz] at ho
    refine ⟨he, d'.toList, ho, by simpa using permIn_whole hp, ?_, grownBy_rowK d' n os⟩
    have := sortedIn_pairwise (n := l.toArray.size) (by simpa using hsz) hso
    refine this.imp fun {x y} h => ?_
    rw [ltV] at h
    simp at h
    exact h
set_option maxHeartbeats 1000000 in
theorem sorted_any (l : List Vote) (v : Value) (base : Nat) (w : World) (hown : Own w base 38 4 encVote v l) (hl : l.length < 4611686018427387904) :
    Calls Try.prog 33 #[v] w fun e w' => e = .returned v ∧ ∃ l', Own w' base 38 4 encVote v l' ∧ l'.Perm l ∧ l'.Pairwise (fun x y => x.frm ≤ y.frm) ∧ w.grownBy w' v.ownBlock := by
  have hcon := vsortf_any l v base w hown hl
  obtain ⟨A, c, hv, _⟩ := hown.rd encVote_len
  obtain ⟨n, hn⟩ : ∃ n, l.length = n := ⟨_, rfl⟩
  rw [hn] at hv
  subst hv
  have hcon' := Lib.hid hcon
  clear hcon hn hown hl
  go_enter Try.func33, Try.ntmps33
  go_wp2_with (go_at_call 48; with_reducible refine hcon'.out.mono ?_; rintro e w1 ⟨rfl, h⟩; have h' := Lib.hid h; clear h)
  go_ret
  exact ⟨rfl, h'.out⟩
/-- Sorted by who it is, where nobody is there twice. -/
theorem sortedV_rises {l : List Vote} (h : l.Pairwise (fun x y => x.frm ≤ y.frm)) (hn : (l.map (·.frm)).Nodup) : RisesV l := by
  unfold RisesV
  refine rises_of fun i hi => ?_
  have hi' : i + 1 < l.length := by simpa using hi
  have h1 := List.pairwise_iff_getElem.1 h i (i + 1) (by omega) hi' (by omega)
  have h2 := List.pairwise_iff_getElem.1 hn i (i + 1) (by simpa using Nat.lt_of_succ_lt hi') hi (by omega)
  simp only [List.getElem_map] at h2 ⊢
  omega
end Go.Proofs.Ytkccakaaklemdaa
