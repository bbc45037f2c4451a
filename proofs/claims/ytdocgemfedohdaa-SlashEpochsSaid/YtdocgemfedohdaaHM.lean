/- HM: several texts in one. -/
import Derived.Test.YtdocgemfedohdaaHI
import Derived.Test.YtdocgemfedohdaaHL
import Derived.Shelf.SlSortCmp.WholeK
import Derived.Shelf.SlSortCmp.NoneTotal
import Derived.Deep.QuietTactic
import Derived.BigQuiet
import Derived.Test.YtdocgemfedohdaaHH
import Derived.Shelf.SlIter.Collect
import Derived.RangeFuncNested
import Derived.RangeFuncBound
import Derived.RangeFuncCalls
import Derived.RangeFuncLeaves
import Derived.Shelf.Abstract
import Derived.Shelf.RegionOpen
import Derived.WalkKit
import Derived.OwnWalkIn
import Derived.TacticsInMore
import Derived.LoopNIn
import Derived.LoopIn
import Derived.Sort.MapsRangeIn
/-! Checkpoints in order: ffg.order, walked, and slices.SortFunc by it. -/
namespace Go.Proofs.Ytdocgemfedohdaa
open Go.RowKit
set_option maxHeartbeats 400000 in
theorem isnanS_any (x : Int) (w : World) : Calls Try.prog 131 #[.int .u64 x] w fun e w' => e = .returned (.bool false) ∧ w' = w := by
  go_enter Try.func131, Try.ntmps131
  go_wp2
  go_ret
  exact ⟨ret_bool (by simp), rfl⟩
set_option maxHeartbeats 400000 in
theorem cmpuS_any (x y : Int) (w : World) : Calls Try.prog 114 #[.int .u64 x, .int .u64 y] w fun e w' => e = .returned (.int .i64 (cmpU x y)) ∧ w' = w := by
  go_enter Try.func114, Try.ntmps114
  go_wp2_with (go_at_call 131; (with_reducible refine (isnanS_any _ _).mono ?_); rintro e w' ⟨rfl, rfl⟩)
  all_goals
    go_ret
    refine ⟨?_, rfl⟩
    unfold cmpU
    (first | rw [if_pos (by omega)] | rw [if_neg (by omega), if_pos (by omega)] | rw [if_neg (by omega), if_neg (by omega)])
    try rfl
set_option maxRecDepth 100000 in
set_option maxHeartbeats 1000000 in
theorem scmpS_any (x y : ID) (A B : Option Addr) (c d : Nat) (w : World) (hA : Rd 1 encU w A [x.hi, x.lo]) (hB : Rd 1 encU w B [y.hi, y.lo]) :
    Calls Try.prog 90 #[.slice A 2 c, .slice B 2 d] w fun e w' => e = .returned (.int .i64 (cmpID x y)) ∧ w' = w := by
  have h0 := fun V => cmpuS_any x.hi y.hi V
  have h1 := fun V => cmpuS_any x.lo y.lo V
  have hq : ∃ q, cmpID x y = q := ⟨_, rfl⟩
  obtain ⟨q, hq⟩ := hq
  rw [hq]
  unfold cmpID at hq
  obtain ⟨m, hm⟩ : ∃ m, cmpU x.hi y.hi = m := ⟨_, rfl⟩
  obtain ⟨n, hn⟩ : ∃ n, cmpU x.lo y.lo = n := ⟨_, rfl⟩
  rw [hm] at h0 hq
  rw [hn] at h1 hq
  clear hm hn
  have hq' := Lib.hid hq
  clear hq
  obtain ⟨b, o, rfl, hb, c0, c1⟩ := at0 hA
  obtain ⟨b', o', rfl, hb', d0, d1⟩ := at0 hB
  clear hA hB
  go_enter Try.func90, Try.ntmps90
  go_wp2_with fail
  go_loop [5, 6, 7, 8, 11] (fun x5 x6 x7 x8 i => ∃ k : Nat, k ≤ 2 ∧ i = .int .i64 k ∧ (1 ≤ k → m = 0) ∧ (k = 2 → n = 0)) (fun _ _ _ _ i => 2 - (intOf i).toNat)
  case atStart => exact ⟨0, by omega, rfl, by omega, by omega⟩
  case round =>
    obtain ⟨k, hk, rfl, hm0, hn0⟩ := hrel
    rcases (show k = 0 ∨ k = 1 ∨ k = 2 by omega) with rfl | rfl | rfl
    · by_cases hz : m = 0
      · clear hm0 hn0
        go_wp2_with (go_at_call 114; with_reducible refine (h0 _).mono ?_; clear h0; rintro e w1 ⟨rfl, rfl⟩)
        go_round
        case rel => exact ⟨1, by omega, rfl, fun _ => hz, by omega⟩
        case measure => simp [intOf]
      · clear hm0 hn0
        go_wp2_with (go_at_call 114; with_reducible refine (h0 _).mono ?_; clear h0; rintro e w1 ⟨rfl, rfl⟩)
        go_ret
        exact ⟨ret_int (by rw [← hq'.out, if_neg hz]), rfl⟩
    · have hz := hm0 (Nat.le_refl _)
      by_cases hy : n = 0
      · clear hm0 hn0
        go_wp2_with (go_at_call 114; with_reducible refine (h1 _).mono ?_; clear h1; rintro e w1 ⟨rfl, rfl⟩)
        go_round
        case rel => exact ⟨2, by omega, rfl, fun _ => hz, fun _ => hy⟩
        case measure => simp [intOf]
      · clear hm0 hn0
        go_wp2_with (go_at_call 114; with_reducible refine (h1 _).mono ?_; clear h1; rintro e w1 ⟨rfl, rfl⟩)
        go_ret
        exact ⟨ret_int (by rw [← hq'.out, if_pos hz]), rfl⟩
    · have hz := hm0 (by omega)
      have hy := hn0 rfl
      clear hm0 hn0
      go_wp2_with fail
      go_ret
      exact ⟨ret_int (by rw [← hq'.out, if_pos hz, hy]), rfl⟩
/-- What a quiet call that lays blocks leaves. -/
def Grows (w w' : World) : Prop := ∃ q os', w' = Sort.grow (w.drewN q) os'
theorem Grows.refl (w : World) : Grows w w := ⟨0, #[], by rw [Sort.grow_empty]; rfl⟩
theorem Grows.alloc {w w' : World} (h : Grows w w') (o : Obj) : Grows w (w'.alloc o) := by
  obtain ⟨q, os', rfl⟩ := h
  exact ⟨q, os' ++ #[o], by rw [Sort.alloc_eq_grow, Sort.grow_grow]⟩
theorem Grows.drewN {w w' : World} (h : Grows w w') (n : Nat) : Grows w (w'.drewN n) := by
  obtain ⟨q, os', rfl⟩ := h
  refine ⟨q + n, os', ?_⟩
  unfold Sort.grow World.drewN
  simp [Nat.add_assoc]
theorem Grows.trans {w w' w'' : World} (h : Grows w w') (h2 : Grows w' w'') : Grows w w'' := by
  obtain ⟨q, os', rfl⟩ := h
  obtain ⟨q2, os2, rfl⟩ := h2
  refine ⟨q + q2, os' ++ os2, ?_⟩
  unfold Sort.grow World.drewN
  simp [Nat.add_assoc]
set_option maxRecDepth 100000 in
set_option maxHeartbeats 1000000 in
theorem mlessS_any (x y : ID) (w : World) : Calls Try.prog 87 #[idv x, idv y] w fun e w' => e = .returned (.bool (idLess x y)) ∧ Grows w w' := by
  have hs := fun V A B c d hA hB => scmpS_any x y A B c d V hA hB
  rw [← cmpID_less]
  obtain ⟨q, hq⟩ : ∃ q, cmpID x y = q := ⟨_, rfl⟩
  rw [hq] at hs ⊢
  clear hq
  unfold idv
  have hW : ∃ W, (w.alloc (.cells #[.int .u64 x.hi, .int .u64 x.lo] 29)).alloc (.cells #[.int .u64 y.hi, .int .u64 y.lo] 29) = W := ⟨_, rfl⟩
  obtain ⟨W, hW⟩ := hW
  have hG : ∀ n, Grows w (W.drewN n) := fun n => by subst hW; exact (((Grows.refl w).alloc _).alloc _).drewN n
  have b0 : W.heap[w.heap.size]? = some (.cells #[.int .u64 x.hi, .int .u64 x.lo] 29 (0, 0)) := by subst hW; exact ha_lt (ha_at rfl)
  have b1 : W.heap[w.heap.size + 1]? = some (.cells #[.int .u64 y.hi, .int .u64 y.lo] 29 (0, 0)) := by subst hW; exact ha_at (by simp)
  have hR0 : ∀ p, Rd 1 encU (W.drewN p) (some ⟨w.heap.size, 0, none⟩) [x.hi, x.lo] := fun p => Rd_blk (by simp) b0 (fun i z hz j u hu => by
    rcases i with _ | _ | i <;> rcases j with _ | j <;> simp [encU] at hz hu <;> subst hz <;> simpa using hu)
  have hR1 : ∀ p, Rd 1 encU (W.drewN p) (some ⟨w.heap.size + 1, 0, none⟩) [y.hi, y.lo] := fun p => Rd_blk (by simp) b1 (fun i z hz j u hu => by
    rcases i with _ | _ | i <;> rcases j with _ | j <;> simp [encU] at hz hu <;> subst hz <;> simpa using hu)
  have h1 := fun p c d => hs (W.drewN p) _ _ c d (hR0 p) (hR1 p)
  clear hs hR0 hR1
  go_enter Try.func87, Try.ntmps87
  go_wp2_with fail
  go_quiet ((go_at_call 90; with_reducible exact Calls.quiet_of_same (h1 _ _ _)))
  go_wp2
  go_ret
  exact ⟨rfl, hG _⟩
def cmpC (x y : Chk) : Int := if x.epoch ≠ y.epoch then (if x.epoch < y.epoch then -1 else if y.epoch < x.epoch then 1 else 0) else if x = y then 0 else if idLess x.root y.root then -1 else 1
def cmpE (x y : Int) : Int := if x < y then -1 else if y < x then 1 else 0
set_option maxHeartbeats 400000 in
theorem isnanI_any (a : Int) (w : World) : Calls Try.prog 109 #[.int .i64 a] w fun e w' => e = .returned (.bool false) ∧ w' = w := by
  go_enter Try.func109, Try.ntmps109
  go_wp2
  go_ret
  exact ⟨rfl, rfl⟩
set_option maxHeartbeats 400000 in
theorem compareI_any (a b : Int) (w : World) : Calls Try.prog 86 #[.int .i64 a, .int .i64 b] w fun e w' => e = .returned (.int .i64 (cmpE a b)) ∧ w' = w := by
  unfold cmpE
  by_cases h1 : a < b
  · rw [if_pos h1]
    go_enter Try.func86, Try.ntmps86
    go_wp2_with (go_at_call 109; refine (isnanI_any _ _).mono ?_; rintro e w' ⟨rfl, rfl⟩)
    go_ret
    exact ⟨rfl, rfl⟩
  · rw [if_neg h1]
    by_cases h2 : b < a
    · rw [if_pos h2]
      go_enter Try.func86, Try.ntmps86
      go_wp2_with (go_at_call 109; refine (isnanI_any _ _).mono ?_; rintro e w' ⟨rfl, rfl⟩)
      go_ret
      exact ⟨rfl, rfl⟩
    · rw [if_neg h2]
      go_enter Try.func86, Try.ntmps86
      go_wp2_with (go_at_call 109; refine (isnanI_any _ _).mono ?_; rintro e w' ⟨rfl, rfl⟩)
      go_ret
      exact ⟨rfl, rfl⟩
theorem cmpC_ne {x y : Chk} (h : x.epoch ≠ y.epoch) : cmpC x y = cmpE x.epoch y.epoch := if_pos h
theorem cmpC_eq {x y : Chk} (h : x = y) : cmpC x y = 0 := by unfold cmpC; rw [if_neg (by rw [h]; simp), if_pos h]
theorem cmpC_le {x y : Chk} (h1 : x.epoch = y.epoch) (h2 : x ≠ y) : cmpC x y = if idLess x.root y.root then -1 else 1 := by unfold cmpC; rw [if_neg (by simp [h1]), if_neg h2]
theorem ltOf_cmpC (x y : Chk) : ltOf cmpC x y = ltC x y := by
  unfold ltOf ltC
  by_cases h : x.epoch ≠ y.epoch
  · rw [cmpC_ne h]
    unfold cmpE
    by_cases h1 : x.epoch < y.epoch
    · simp [h1]
    · by_cases h2 : y.epoch < x.epoch <;> simp [h1, h2, h]
  · have h : x.epoch = y.epoch := Classical.byContradiction h
    by_cases he : x = y
    · subst he
      rw [cmpC_eq rfl]
      simp
      cases hb : idLess x.root x.root with
      | false => rfl
      | true => rw [idLess_iff] at hb; omega
    · rw [cmpC_le h he, h]
      by_cases hl : idLess x.root y.root = true <;> simp [hl]
theorem swoC : Sort.SWO (ltOf cmpC) where
  irrefl x := by rw [ltOf_cmpC]; exact ltC_irrefl x
  trans x y z h1 h2 := by rw [ltOf_cmpC] at *; exact ltC_trans h1 h2
  ntrans x y z h1 h2 := by
    rw [ltOf_cmpC] at *
    cases h : ltC x z with
    | false => rfl
    | true =>
      cases h3 : ltC y z with
      | true => rw [h3] at h2; cases h2
      | false =>
        cases h4 : ltC z y with
        | true => rw [ltC_trans h h4] at h1; cases h1
        | false => have := ltC_total h3 h4; subst this; rw [h] at h1; cases h1
set_option maxRecDepth 100000 in
set_option maxHeartbeats 1000000 in
theorem order_any (x y : Chk) (w : World) : Calls Try.prog 66 #[chkv x, chkv y] w fun e w' => e = .returned (.int .i64 (cmpC x y)) ∧ Grows w w' := by
  have hless := fun V => mlessS_any x.root y.root V
  have hcmp := fun V => compareI_any x.epoch y.epoch V
  have heq := eql_chk x y
  obtain ⟨W, hW⟩ : ∃ W, (w.alloc (.cells #[.int .i64 x.epoch, .int .u64 x.root.hi, .int .u64 x.root.lo] 31)).alloc (.cells #[.int .i64 y.epoch, .int .u64 y.root.hi, .int .u64 y.root.lo] 31) = W := ⟨_, rfl⟩
  have hG : Grows w W := by subst hW; exact ((Grows.refl w).alloc _).alloc _
  have b0 : W.heap[w.heap.size]? = some (.cells #[.int .i64 x.epoch, .int .u64 x.root.hi, .int .u64 x.root.lo] 31 (0, 0)) := by subst hW; exact ha_lt (ha_at rfl)
  have b1 : W.heap[w.heap.size + 1]? = some (.cells #[.int .i64 y.epoch, .int .u64 y.root.hi, .int .u64 y.root.lo] 31 (0, 0)) := by subst hW; exact ha_at (by simp)
  obtain ⟨c0, c1, c2⟩ := blk3 b0
  obtain ⟨d0, d1, d2⟩ := blk3 b1
  by_cases h1 : x.epoch = y.epoch
  · have e1 : (x.epoch != y.epoch) = false := by simpa using h1
    by_cases h2 : x = y
    · have hres := Lib.hid (cmpC_eq h2)
      rw [decide_eq_true h2] at heq
      clear h1 h2 hless hcmp
      unfold chkv
      go_enter Try.func66, Try.ntmps66
      go_wp2
      go_ret
      exact ⟨ret_int hres.out.symm, hG⟩
    · have hres := Lib.hid (cmpC_le h1 h2)
      rw [decide_eq_false h2] at heq
      clear h1 h2 hcmp
      cases hl : idLess x.root y.root
      all_goals
        rw [hl] at hless hres
        clear hl
        unfold chkv idv at *
        go_enter Try.func66, Try.ntmps66
        go_wp2_with (go_at_call 87; (with_reducible refine (hless _).mono ?_); clear hless; rintro e w1 ⟨rfl, hg1⟩)
        go_ret
        exact ⟨ret_int (by rw [hres.out]; rfl), hG.trans hg1⟩
  · have e1 : (x.epoch != y.epoch) = true := by simpa using h1
    have hres := Lib.hid (cmpC_ne h1)
    clear h1 hless heq
    obtain ⟨q, hq⟩ : ∃ q, cmpE x.epoch y.epoch = q := ⟨_, rfl⟩
    rw [hq] at hcmp hres
    clear hq
    unfold chkv
    go_enter Try.func66, Try.ntmps66
    go_wp2_with (go_at_call 86; (with_reducible refine (hcmp _).mono ?_); clear hcmp; rintro e w1 ⟨rfl, rfl⟩)
    go_ret
    exact ⟨ret_int hres.out.symm, hG⟩
theorem csortf_any (l : List Chk) (v : Value) (base : Nat) (w : World) (hown : Own w base 31 3 encChk v l) (hl : l.length < 4611686018427387904) :
    Calls Try.prog 84 #[v, .func (.func 66) #[] #[]] w fun e w' => e = .returned (.tuple #[]) ∧ ∃ l', Own w' base 31 3 encChk v l' ∧ l'.Perm l ∧ l'.Pairwise (fun x y => ltC y x = false) ∧ w.grownBy w' v.ownBlock := by
  rcases hown.block with ⟨rfl, rfl⟩ | ⟨g, cap, cur, rfl, hb, hh, hle, hm, hs, ht⟩
  · have hcon := AnyF.slices_SortFunc_none sh_sortC none 0 (.func (.func 66) #[] #[]) w
    change Calls Try.prog 84 _ _ _ at hcon
    refine hcon.mono fun e w' ⟨he, hw⟩ => ?_
    subst hw
    exact ⟨he, [], Own.nil _ _ _ _ _, List.Perm.refl _, List.Pairwise.nil, rfl, rfl, rfl, Nat.le_refl _, fun _ _ _ => rfl⟩
  · have eg : ∀ args w, (callFunc 66 args).run Try.prog w = .ok (.enter 66 args) w := enters_of Try.func66 (by kernel_rfl) rfl
    have hcon := AnyQ.slices_SortFunc sh_sortC 3 Try.isAgg31 Try.sizeOf31 encChk encChk_len (fun x v hv => encChk_one x v hv) cmpC swoC 66 #[] g 0 cap l.toArray w eg (fun _ _ _ _ x y => order_any x y _) (Own.holdsK encChk_len (by decide) hh ht) (lt_of_block hh) (by simpa using hl)
    change Calls Try.prog 84 _ _ _ at hcon
    refine hcon.mono fun e w' ⟨he, d', n, os, hp, hso, hw⟩ => ?_
    subst hw
    have hsz : d'.size = l.length := by simpa using hp.1
    have ho := Own.relaidK encChk_len (by decide) hb hh hm hs d' (by omega) n os
    rw [hsz] at ho
    refine ⟨he, d'.toList, ho, by simpa using permIn_whole hp, ?_, grownBy_rowK d' n os⟩
    have := sortedIn_pairwise (n := l.toArray.size) (by simpa using hsz) hso
    refine this.imp fun {x y} h => ?_
    rw [ltOf_cmpC] at h
    exact h
/-- Sorted, where nobody is there twice. -/
theorem sortedC_of {l : List Chk} (h : l.Pairwise (fun x y => ltC y x = false)) (hn : l.Nodup) : SortedC l := by
  unfold SortedC
  have := List.Pairwise.and h hn
  refine this.imp fun {x y} ⟨h1, h2⟩ => ?_
  cases h3 : ltC x y with
  | true => rfl
  | false => exact absurd (ltC_total h3 h1) h2
end Go.Proofs.Ytdocgemfedohdaa
/-! What the reference finds justified, and final (the plain law). -/
namespace Go.Proofs.Ytdocgemfedohdaa
def hasC (g : List Chk) (x : Chk) : Bool := g.any fun y => decide (y = x)
theorem hasC_iff {g : List Chk} {x : Chk} : hasC g x = true ↔ x ∈ g := by simp [hasC]
def fineL (c : Cfg) (l : List Blk) (v : List Lnk) : List Lnk := v.filter fun x => decide (MayL c l x)
/-- Who have a link of that way. -/
def whoR (v : List Lnk) (s t : Chk) : List Int := (v.filter fun x => decide (x.src = s) && decide (x.tgt = t)).map (·.frm)
def strR (c : Cfg) (v : List Lnk) (s t : Chk) : Bool := decide (0 < (whoR v s t).length) && decide (2 * totalC c ≤ 3 * weightC c (whoR v s t))
theorem whoR_fine (c : Cfg) (l : List Blk) (v : List Lnk) (s t : Chk) : whoR (fineL c l v) s t = whoW c l v ⟨s, t⟩ := by
  unfold whoR whoW fineL
  rw [List.filter_filter]
  congr 1
  refine List.filter_congr fun x _ => ?_
  have : decide (wayOf x = ⟨s, t⟩) = (decide (x.src = s) && decide (x.tgt = t)) := by
    rw [Bool.eq_iff_iff]
    simp [wayOf]
  rw [this, Bool.and_comm]
theorem strR_iff {c : Cfg} {l : List Blk} {v : List Lnk} {s t : Chk} : strR c (fineL c l v) s t = true ↔ StrongW c l v ⟨s, t⟩ := by
  unfold strR StrongW
  rw [whoR_fine]
  simp only [Bool.and_eq_true, decide_eq_true_eq, List.length_pos_iff, ne_eq]
/-- Where one is laid into a list in order. -/
def putAt (x : Chk) (g : List Chk) : Nat → Nat
  | 0 => 0
  | k + 1 => match g[k]? with
    | some y => if ltC x y = true then putAt x g k else k + 1
    | none => k + 1
theorem putAt_le (x : Chk) (g : List Chk) : ∀ k, putAt x g k ≤ k
  | 0 => Nat.le_refl _
  | k + 1 => by
    unfold putAt
    split
    · split
      · exact Nat.le_trans (putAt_le x g k) (Nat.le_succ _)
      · exact Nat.le_refl _
    · exact Nat.le_refl _
def putC (x : Chk) (g : List Chk) : List Chk := g.take (putAt x g g.length) ++ [x] ++ g.drop (putAt x g g.length)
theorem mem_putC {x y : Chk} {g : List Chk} : y ∈ putC x g ↔ y = x ∨ y ∈ g := by
  unfold putC
  simp only [List.mem_append, List.mem_singleton]
  constructor
  · rintro ((h | h) | h)
    · exact .inr (List.mem_of_mem_take h)
    · exact .inl h
    · exact .inr (List.mem_of_mem_drop h)
  · rintro (h | h)
    · exact .inl (.inr h)
    · have h' := h
      rw [← List.take_append_drop (putAt x g g.length) g, List.mem_append] at h'
      rcases h' with h' | h'
      · exact .inl (.inl h')
      · exact .inr h'
theorem putC_len (x : Chk) (g : List Chk) : (putC x g).length = g.length + 1 := by
  unfold putC
  have := putAt_le x g g.length
  simp
  omega
/-- All from there on are behind it; the one ahead is not. -/
theorem putAt_spec (x : Chk) (g : List Chk) : ∀ k, k ≤ g.length → (∀ i (hi : i < g.length), putAt x g k ≤ i → i < k → ltC x g[i] = true) ∧ (∀ _ : 0 < putAt x g k, ∃ hj : putAt x g k - 1 < g.length, ltC x g[putAt x g k - 1] = false)
  | 0, _ => ⟨fun i _ _ h => absurd h (by omega), fun h => absurd h (by simp [putAt])⟩
  | k + 1, hk => by
    have hlt : k < g.length := by omega
    have ih := putAt_spec x g k (by omega)
    by_cases hc : ltC x g[k] = true
    · have e : putAt x g (k + 1) = putAt x g k := by
        show (match g[k]? with | some y => if ltC x y = true then putAt x g k else k + 1 | none => k + 1) = _
        rw [List.getElem?_eq_getElem hlt]
        simp [hc]
      rw [e]
      refine ⟨fun i hi h1 h2 => ?_, ih.2⟩
      by_cases he : i = k
      · subst he; exact hc
      · exact ih.1 i hi h1 (by omega)
    · have e : putAt x g (k + 1) = k + 1 := by
        show (match g[k]? with | some y => if ltC x y = true then putAt x g k else k + 1 | none => k + 1) = _
        rw [List.getElem?_eq_getElem hlt]
        simp [hc]
      rw [e]
      exact ⟨fun i hi h1 h2 => absurd h2 (by omega), fun _ => ⟨by simpa using hlt, by simpa using hc⟩⟩
theorem sorted_putC {x : Chk} {g : List Chk} (hs : SortedC g) (hx : x ∉ g) : SortedC (putC x g) := by
  have h1 := putAt_spec x g g.length (Nat.le_refl _)
  have hle := putAt_le x g g.length
  obtain ⟨n, hn⟩ : ∃ n, putAt x g g.length = n := ⟨_, rfl⟩
  unfold putC
  rw [hn] at h1 hle ⊢
  unfold SortedC at *
  have hdrop : ∀ y ∈ g.drop n, ltC x y = true := by
    intro y hy
    obtain ⟨i, hi, rfl⟩ := List.getElem_of_mem hy
    rw [List.getElem_drop]
    have : n + i < g.length := by simp at hi; omega
    exact h1.1 (n + i) this (by omega) this
  have htake : ∀ y ∈ g.take n, ltC y x = true := by
    intro y hy
    obtain ⟨i, hi, rfl⟩ := List.getElem_of_mem hy
    rw [List.getElem_take]
    have hin : i < n := by simp at hi; omega
    obtain ⟨hj, hjf⟩ := h1.2 (by omega)
    have hlast : ltC g[n - 1] x = true := by
      cases h3 : ltC g[n - 1] x with
      | true => rfl
      | false => exact absurd (ltC_total hjf h3) (fun e => hx (by rw [e]; exact List.getElem_mem hj))
    by_cases he : i = n - 1
    · subst he; exact hlast
    · exact ltC_trans (List.pairwise_iff_getElem.1 hs i (n - 1) (by omega) hj (by omega)) hlast
  rw [List.append_assoc, List.pairwise_append]
  refine ⟨hs.sublist (List.take_sublist _ _), ?_, fun y hy z hz => ?_⟩
  · simp only [List.singleton_append, List.pairwise_cons]
    exact ⟨hdrop, hs.sublist (List.drop_sublist _ _)⟩
  · rcases List.mem_append.1 hz with hz | hz
    · rw [List.mem_singleton.1 hz]; exact htake y hy
    · exact ltC_trans (htake y hy) (hdrop z hz)
/-! ## The rounds -/
def jStep (c : Cfg) (f : List Lnk) (J : List Chk) (x : Lnk) : List Chk := if hasC J x.src && !hasC J x.tgt && strR c f x.src x.tgt then putC x.tgt J else J
def jRound (c : Cfg) (f : List Lnk) (J : List Chk) : List Chk := f.foldl (jStep c f) J
def jRounds (c : Cfg) (f : List Lnk) : Nat → List Chk
  | 0 => [zchk]
  | k + 1 => jRound c f (jRounds c f k)
structure JInv (c : Cfg) (l : List Blk) (v : List Lnk) (J : List Chk) : Prop where
  sorted : SortedC J
  sound : ∀ x ∈ J, JustC c l v x
  zero : zchk ∈ J
theorem jInv_step {c : Cfg} {l : List Blk} {v : List Lnk} {J : List Chk} (h : JInv c l v J) (x : Lnk) : JInv c l v (jStep c (fineL c l v) J x) := by
  unfold jStep
  split
  · rename_i hc
    simp only [Bool.and_eq_true, Bool.not_eq_true', hasC_iff, strR_iff] at hc
    obtain ⟨⟨h1, h2⟩, h3⟩ := hc
    have hx : x.tgt ∉ J := fun hm => by rw [hasC_iff.2 hm] at h2; cases h2
    refine ⟨sorted_putC h.sorted hx, fun y hy => ?_, mem_putC.2 (.inr h.zero)⟩
    rcases mem_putC.1 hy with rfl | hy
    · exact ComeTo.step (p := ⟨x.src, x.tgt⟩) (h.sound _ h1) h3
    · exact h.sound y hy
  · exact h
theorem jStep_len (c : Cfg) (f : List Lnk) (J : List Chk) (x : Lnk) : J.length ≤ (jStep c f J x).length ∧ ((jStep c f J x).length = J.length → jStep c f J x = J ∧ (x.src ∈ J → strR c f x.src x.tgt = true → x.tgt ∈ J)) := by
  unfold jStep
  split
  · rw [putC_len]; exact ⟨by omega, fun h => absurd h (by omega)⟩
  · rename_i hc
    refine ⟨Nat.le_refl _, fun _ => ⟨rfl, fun h1 h2 => Classical.byContradiction fun h3 => hc ?_⟩⟩
    have h4 : hasC J x.tgt = false := by
      cases h : hasC J x.tgt with
      | false => rfl
      | true => exact absurd (hasC_iff.1 h) h3
    rw [hasC_iff.2 h1, h2, h4]
    rfl
theorem jFold_inv {c : Cfg} {l : List Blk} {v : List Lnk} : ∀ (f : List Lnk) {J : List Chk}, JInv c l v J → JInv c l v (f.foldl (jStep c (fineL c l v)) J)
  | [], _, h => h
  | x :: xs, _, h => jFold_inv xs (jInv_step h x)
theorem jFold_len (c : Cfg) (f0 : List Lnk) : ∀ (f : List Lnk) (J : List Chk), J.length ≤ (f.foldl (jStep c f0) J).length ∧
    ((f.foldl (jStep c f0) J).length = J.length → f.foldl (jStep c f0) J = J ∧ ∀ x ∈ f, x.src ∈ J → strR c f0 x.src x.tgt = true → x.tgt ∈ J)
  | [], _ => ⟨Nat.le_refl _, fun _ => ⟨rfl, fun _ h => by cases h⟩⟩
  | x :: xs, J => by
    have h1 := jStep_len c f0 J x
    have h2 := jFold_len c f0 xs (jStep c f0 J x)
    refine ⟨Nat.le_trans h1.1 h2.1, fun he => ?_⟩
    simp only [List.foldl_cons] at he ⊢
    have h3 := h1.2 (by omega)
    have h4 := h2.2 (by omega)
    rw [h3.1] at h4 ⊢
    refine ⟨h4.1, fun y hy => ?_⟩
    rcases List.mem_cons.1 hy with rfl | hy
    · exact h3.2
    · exact h4.2 y hy
theorem jRounds_inv (c : Cfg) (l : List Blk) (v : List Lnk) : ∀ k, JInv c l v (jRounds c (fineL c l v) k)
  | 0 => ⟨by simp [jRounds, SortedC], fun x hx => by rw [jRounds, List.mem_singleton] at hx; subst hx; exact .zero, by simp [jRounds]⟩
  | k + 1 => jFold_inv _ (jRounds_inv c l v k)
def JClosed (c : Cfg) (f : List Lnk) (J : List Chk) : Prop := ∀ x ∈ f, x.src ∈ J → strR c f x.src x.tgt = true → x.tgt ∈ J
theorem jRound_fix {c : Cfg} {f : List Lnk} {J : List Chk} (h : JClosed c f J) : jRound c f J = J := by
  unfold jRound
  have : ∀ (g : List Lnk), (∀ x ∈ g, x ∈ f) → g.foldl (jStep c f) J = J := by
    intro g
    induction g with
    | nil => intro _; rfl
    | cons x xs ih =>
      intro hg
      simp only [List.foldl_cons]
      have e : jStep c f J x = J := by
        unfold jStep
        split
        · rename_i hc
          simp only [Bool.and_eq_true, Bool.not_eq_true', hasC_iff] at hc
          have := h x (hg x (by simp)) hc.1.1 hc.2
          rw [hasC_iff.2 this] at hc
          simp at hc
        · rfl
      rw [e]
      exact ih fun y hy => hg y (by simp [hy])
  exact this f fun _ h => h
theorem jRounds_grow (c : Cfg) (f : List Lnk) : ∀ k, JClosed c f (jRounds c f k) ∨ k + 1 ≤ (jRounds c f k).length
  | 0 => .inr (by simp [jRounds])
  | k + 1 => by
    rcases jRounds_grow c f k with h | h
    · left
      show JClosed c f (jRound c f _)
      rw [jRound_fix h]; exact h
    · have h1 := jFold_len c f f (jRounds c f k)
      by_cases he : (jRound c f (jRounds c f k)).length = (jRounds c f k).length
      · left
        have h2 := h1.2 he
        show JClosed c f (jRound c f _)
        rw [show jRound c f (jRounds c f k) = jRounds c f k from h2.1]
        exact h2.2
      · right
        have h3 := h1.1
        show _ ≤ (jRound c f _).length
        unfold jRound at he ⊢
        omega
theorem sortedC_nodup {g : List Chk} (h : SortedC g) : g.Nodup := h.imp fun {a b} h1 e => by
  subst e
  rw [ltC_irrefl] at h1
  cases h1
theorem fineL_len (c : Cfg) (l : List Blk) (v : List Lnk) : (fineL c l v).length ≤ v.length := List.length_filter_le _ _
theorem mem_fineL {c : Cfg} {l : List Blk} {v : List Lnk} {x : Lnk} : x ∈ fineL c l v ↔ x ∈ v ∧ MayL c l x := by simp [fineL]
theorem nodup_len {α : Type} [DecidableEq α] : ∀ {a b : List α}, a.Nodup → (∀ x ∈ a, x ∈ b) → a.length ≤ b.length
  | [], _, _, _ => Nat.zero_le _
  | x :: xs, b, hn, h => by
    have hx := h x (by simp)
    have hn' := List.nodup_cons.1 hn
    have := nodup_len (a := xs) (b := b.erase x) hn'.2 (fun y hy => (List.mem_erase_of_ne (fun e => hn'.1 (by rw [← e]; exact hy))).2 (h y (by simp [hy])))
    rw [List.length_erase_of_mem hx] at this
    have : 0 < b.length := List.length_pos_of_mem hx
    simp
    omega
theorem just_fine {c : Cfg} {l : List Blk} {v : List Lnk} {x : Chk} (h : JustC c l v x) : x ∈ zchk :: (fineL c l v).map (·.tgt) := by
  cases h with
  | zero => simp
  | step _ h =>
    obtain ⟨y, h1, h2, rfl⟩ := strong_link h
    exact List.mem_cons.2 (.inr (List.mem_map.2 ⟨y, mem_fineL.2 ⟨h1, h2⟩, rfl⟩))
/-- As long as one more is found: all are. -/
theorem jRounds_just (c : Cfg) (l : List Blk) (v : List Lnk) : ∀ x, x ∈ jRounds c (fineL c l v) ((fineL c l v).length + 1) ↔ JustC c l v x := by
  have hi := jRounds_inv c l v ((fineL c l v).length + 1)
  intro x
  refine ⟨hi.sound x, fun hx => ?_⟩
  have hcl : JClosed c (fineL c l v) (jRounds c (fineL c l v) ((fineL c l v).length + 1)) := by
    rcases jRounds_grow c (fineL c l v) ((fineL c l v).length + 1) with h | h
    · exact h
    · have := nodup_len (sortedC_nodup hi.sorted) fun y hy => just_fine (hi.sound y hy)
      simp at this
      omega
  induction hx with
  | zero => exact hi.zero
  | @step p h1 h2 ih =>
    obtain ⟨y, y1, y2, rfl⟩ := strong_link h2
    exact hcl y (mem_fineL.2 ⟨y1, y2⟩) ih (strR_iff.2 h2)
theorem jRounds_len (c : Cfg) (l : List Blk) (v : List Lnk) (k : Nat) : (jRounds c (fineL c l v) k).length ≤ v.length + 1 := by
  have hi := jRounds_inv c l v k
  have := nodup_len (sortedC_nodup hi.sorted) fun y hy => just_fine (hi.sound y hy)
  have h2 := fineL_len c l v
  simp at this
  omega
theorem refJust_eq {c : Cfg} {l : List Blk} (h : MayC c ∧ Tree l) (v : List Lnk) : jRounds c (fineL c l v) ((fineL c l v).length + 1) = justL c l v :=
  justL_eq h (jRounds_inv c l v _).sorted (jRounds_just c l v)
/-! ## Final -/
def finR (c : Cfg) (l : List Blk) (f : List Lnk) (J : List Chk) (x : Chk) : Bool :=
  decide (x = zchk) || f.any fun y => decide (y.src = x) && decide (y.tgt.epoch ≤ x.epoch + 2) && strR c f x y.tgt &&
    (decide (y.tgt.epoch = x.epoch + 1) || J.any fun m => decide (m.epoch = x.epoch + 1) && decide (x.root ∈ chain l m.root) && decide (m.root ∈ chain l y.tgt.root))
theorem finR_iff {c : Cfg} {l : List Blk} (h : MayC c ∧ Tree l) {v : List Lnk} {x : Chk} (hx : JustC c l v x) : finR c l (fineL c l v) (justL c l v) x = true ↔ FinalC c l v x := by
  unfold finR FinalC
  simp only [Bool.or_eq_true, decide_eq_true_eq, List.any_eq_true, Bool.and_eq_true]
  refine or_congr Iff.rfl ⟨?_, ?_⟩
  · rintro ⟨y, hy, ⟨⟨h1, h2⟩, h3⟩, h4⟩
    have hs := strR_iff.1 h3
    have ho := strong_ok hs
    refine ⟨hx, y.tgt, hs, ?_⟩
    rcases h4 with h4 | ⟨m, hm, ⟨h5, h6⟩, h7⟩
    · exact .inl h4
    · by_cases he : y.tgt.epoch = x.epoch + 1
      · exact .inl he
      · have hlt : x.epoch < y.tgt.epoch := ho.lt
        exact .inr ⟨by show y.tgt.epoch = x.epoch + 2; omega, m, (mem_justL h).1 hm, h5, h6, h7⟩
  · rintro ⟨_, t, hs, he⟩
    obtain ⟨y, h1, h2, h3⟩ := strong_link hs
    obtain ⟨e1, e2⟩ : y.src = x ∧ y.tgt = t := by
      have := h3
      unfold wayOf at this
      exact ⟨congrArg Way.src this, congrArg Way.tgt this⟩
    subst e2
    refine ⟨y, mem_fineL.2 ⟨h1, h2⟩, ⟨⟨e1, ?_⟩, strR_iff.2 hs⟩, ?_⟩
    · rcases he with he | ⟨he, _⟩
      · have : y.tgt.epoch = x.epoch + 1 := he
        omega
      · have : y.tgt.epoch = x.epoch + 2 := he
        omega
    · rcases he with he | ⟨he, m, h5, h6, h7, h8⟩
      · exact .inl he
      · exact .inr ⟨m, (mem_justL h).2 h5, ⟨h6, h7⟩, h8⟩
def finsR (c : Cfg) (l : List Blk) (f : List Lnk) (J : List Chk) : List Chk := J.filter (finR c l f J)
theorem refFinal_eq (c : Cfg) (l : List Blk) (v : List Lnk) : finsR c l (fineL c l v) (justL c l v) = finalL c l v := by
  by_cases h : MayC c ∧ Tree l
  · refine finalL_eq h ((sorted_justL c l v).sublist List.filter_sublist) fun x => ?_
    unfold finsR
    rw [List.mem_filter, mem_justL h]
    constructor
    · rintro ⟨h1, h2⟩; exact (finR_iff h h1).1 h2
    · intro h1; exact ⟨final_just h1, (finR_iff h (final_just h1)).2 h1⟩
  · rw [justL_no h, finalL_no h]; rfl
end Go.Proofs.Ytdocgemfedohdaa
/-! maps.Keys's iterator over a set of checkpoints, and slices.AppendSeq over it. -/
namespace Go.Proofs.Ytdocgemfedohdaa
open Go.RowKit Go.Shelf Go.ChangeMaps Go.MapKept
section
variable {κ ν : Type} [DecidableEq κ] {ek : κ → Value} {ev : ν → Value} {F : Fence} {n : Nat} {P : Program} {ops : Array Oper} {rest : List Oper} {o : Oper} {a : Act} {Q : Exit → Act → World → Prop}
theorem wpi_range (hg : o.guard = none) {mo : Operand} {MT kt et : TypeId} (hop : o.op = Op.range MT mo) (ht : P.underlying MT = some (.map kt et)) {w : World} {B : Nat} (hm : a.eval mo = .map (some B)) {m : List (κ × ν)} (hM : MapIs ek ev w B m) {r : Nat} (hr : w.heap.size = r)
    (hK : ∀ w', RIs ek ev w' B r m [] → Below w.heap.size w w' → w'.heap.size = w.heap.size + 1 → wpListIn F n P ops Q rest (a.put o.dst (.pointer (some ⟨r, 0, none⟩))) w') : wpListIn F n P ops Q (o :: rest) a w := by
  subst hr
  refine wpListIn_plain hg fun K' hK' => ?_
  obtain ⟨w', hrun, r1, r2, r3⟩ := range_run ht hM
  unfold Oper.wpIn
  refine ⟨by simp [Oper.about, hop], ?_⟩
  rw [Oper.semAt_plain F _ _ (by rw [hop]; intro c hc'; cases hc')]
  simp [execOp, hop, hm, hrun, Result.andThen]
  exact hK' _ _ (hK w' r1 r2 r3)
theorem wpi_next (hg : o.guard = none) {it : Operand} (hop : o.op = Op.next it false) {w : World} {B r : Nat} {m : List (κ × ν)} {came : List κ} (hit : a.eval it = .pointer (some ⟨r, 0, none⟩)) (h : RIs ek ev w B r m came)
    (hDone : Hid (∀ p ∈ m, p.1 ∈ came) → wpListIn F n P ops Q rest (a.put o.dst (.tuple #[.bool false])) w)
    (hMore : ∀ (x : κ) (v : ν) (w' : World), Came ek ev w w' B r m came x v → (Instr.entry (.pointer (some ⟨r, 0, none⟩))).run P w' = .ok (.tuple #[ek x, ev v]) w' → wpListIn F n P ops Q rest (a.put o.dst (.tuple #[.bool true, ek x, ev v])) w') : wpListIn F n P ops Q (o :: rest) a w := by
  refine wpListIn_plain hg fun K' hK' => ?_
  unfold Oper.wpIn
  refine ⟨by simp [Oper.about, hop], ?_⟩
  rw [Oper.semAt_plain F _ _ (by rw [hop]; intro c hc'; cases hc')]
  rcases next_run (P := P) h o.type with ⟨h0, hrun⟩ | ⟨x, v, w', h1, h2, hrun, h3, h4, h5, h6, h7⟩
  · simp [execOp, hop, hit, hrun, Result.andThen]
    exact hK' _ _ (hDone (Lib.hid h0))
  · simp [execOp, hop, hit, hrun, Result.andThen]
    exact hK' _ _ (hMore x v w' ⟨h1, h2, h3, h4, h5, h6⟩ h7)
theorem RIs.of_walks {w w' : World} {B r : Nat} {m : List (κ × ν)} {came : List κ} (h : RIs ek ev w B r m came) (hk : KeepsWalks w w') : RIs ek ev w' B r m came ∧ w'.rangeLeft B r = w.rangeLeft B r := by
  have h' := h
  obtain ⟨es, clk, since, seen, c0, hb, _, _, _, _, hr, _⟩ := h
  exact h'.same ((hk.same B _ hb rfl).trans hb.symm) ((hk.same r _ hr rfl).trans hr.symm)
omit [DecidableEq κ] in
theorem part_all {m : List (κ × ν)} (hm : (m.map (·.1)).Nodup) {came : List κ} (hc : came.Nodup) (hs : ∀ x ∈ came, x ∈ m.map (·.1)) (hall : ∀ p ∈ m, p.1 ∈ came) : came.reverse.Perm (m.map (·.1)) :=
  (List.reverse_perm came).trans ((List.perm_ext_iff_of_nodup hc hm).2 fun x => ⟨hs x, fun hx => by
    obtain ⟨p, hp, rfl⟩ := List.mem_map.1 hx
    exact hall p hp⟩)
/-- What has come of a set. -/
def PartK (m : List (κ × ν)) (came : List κ) : Prop := came.Nodup ∧ ∀ x ∈ came, x ∈ m.map (·.1)
omit [DecidableEq κ] in
theorem part_nil (m : List (κ × ν)) : PartK m [] := ⟨List.nodup_nil, fun _ h => (by cases h)⟩
omit [DecidableEq κ] in
theorem part_step {m : List (κ × ν)} {came : List κ} (h : PartK m came) {x : κ} {v : ν} (hm : (x, v) ∈ m) (hx : x ∉ came) : PartK m (x :: came) :=
  ⟨List.nodup_cons.2 ⟨hx, h.1⟩, fun y hy => by
    rcases List.mem_cons.1 hy with rfl | hy
    · exact List.mem_map_of_mem hm
    · exact h.2 y hy⟩
theorem part_lt {m : List (κ × ν)} {came : List κ} (h : PartK m came) {x : κ} {v : ν} (hm : (x, v) ∈ m) (hx : x ∉ came) : came.length < m.length := by
  have h2 := part_step h hm hx
  have := nodup_len h2.1 h2.2
  simp at this
  omega
end
theorem gb_none {w w' : World} (h : Below w.heap.size w w') (row : Option Nat) : w.grownBy w' row := ⟨h.os, h.tape, h.output, h.size, fun k hk _ => h.block k hk⟩
theorem ris_walk {κ ν : Type} [DecidableEq κ] {ek : κ → Value} {ev : ν → Value} {w : World} {B r : Nat} {m : List (κ × ν)} {came : List κ} (h : RIs ek ev w B r m came) : ∃ o : Obj, w.heap[r]? = some o ∧ o.isWalk = true := by
  obtain ⟨es, clk, since, seen, c0, hb, _, _, _, _, hr, _⟩ := h
  exact ⟨_, hr, rfl⟩
set_option maxRecDepth 100000 in
set_option maxHeartbeats 2000000 in
/-- maps.Keys's iterator: all of the set come, in some order. -/
theorem keys1_in (F : Fence) (n : Nat) (h57 : F.fn 85) (hro : F.round = none) (hn : 1 ≤ n) (l Bm M : Nat) (m : List (Chk × Bool)) (J : List Chk → World → Prop)
    (hY : ∀ pre x W, J pre W → pre.length < m.length → YieldAt F (n - 1) Try.prog l #[chkv x] W fun e W' => e = .returned (.bool true) ∧ J (pre ++ [x]) W' ∧ KeepsWalks W W')
    (W : World) (hJ : AbidesFrom W.heap.size J) (hm : W.cell? ⟨Bm, 0, none⟩ = some (.map (some M))) (hM : MapIs chkv Value.bool W M m) (h0 : J [] W) :
    CallsIn F n Try.prog 85 #[.func (.yield l) #[] #[], .pointer (some ⟨Bm, 0, none⟩)] W fun e W' => (∃ v, e = .returned v) ∧ ∃ ys : List Chk, ys.Perm (m.map (·.1)) ∧ J ys W' := by
  have hNd : (m.map (·.1)).Nodup := by obtain ⟨_, _, _, _, _, _, h⟩ := hM; exact h
  have hNd' := Lib.hid hNd
  clear hNd
  refine callsIn_of_wp Try.func85 rfl h57 ?_ hro
  simp only [Try.ntmps85, List.size_toArray, List.length_cons, List.length_nil, Nat.reduceAdd, Nat.reduceSub, Array.replicate_succ, Array.replicate_zero, List.push_toArray, List.append_toArray, List.nil_append, List.cons_append]
  gi_wp2_with (first
    | (gi_at_range; refine wpi_range rfl rfl Try.underlying57 rfl hM rfl ?_; intro w0 hR0 hB0 hs0)
    | gi_in)
  go_frame
  gi_loopw [3] (fun _ wr => ∃ came : List Chk, RIs chkv Value.bool wr M W.heap.size m came ∧ Hid (PartK m came) ∧ J came.reverse wr) (fun _ wr => wr.rangeLeft M W.heap.size)
  case atStart =>
    exact ⟨[], hR0, Lib.hid (part_nil m), hJ [] W w0 none h0 (gb_none hB0 none) (fun r e => by cases e)⟩
  case round =>
    obtain ⟨came, hR, hP, hJs⟩ := hrel
    gi_wp2_with (first
      | (gi_at_next; refine wpi_next rfl rfl rfl hR ?_ ?_; rotate_left; (intro v b w3 hcm hen; have hJ3 : J came.reverse w3 := hJ _ wr w3 (some W.heap.size) hJs hcm.grown (fun r e => by cases e; exact ⟨Nat.le_refl _, ris_walk hR⟩); have hlt := Lib.hid (part_lt hP.out hcm.mem hcm.fresh); obtain ⟨W4, hW4⟩ : ∃ W4, w3.alloc (.cells #[.int .i64 v.epoch, .int .u64 v.root.hi, .int .u64 v.root.lo] 31) = W4 := ⟨_, rfl⟩; (have hB4 : Below w3.heap.size w3 W4 := by subst hW4; exact (Below.refl _ w3).alloc (Nat.le_refl _) _); (have x4 : W4.heap[w3.heap.size]? = some (.cells #[.int .i64 v.epoch, .int .u64 v.root.hi, .int .u64 v.root.lo] 31 (0, 0)) := by subst hW4; exact ha_at rfl); obtain ⟨d0, d1, d2⟩ := blk3 x4; have hJ4 : J came.reverse W4 := hJ _ w3 W4 none hJ3 (gb_none hB4 none) (fun r e => by cases e); have hr4 := hcm.ris.below hB4; obtain ⟨fn, tmps, assign, body, hy, hRd⟩ := hY came.reverse v W4 hJ4 (by simpa using hlt.out); unfold chkv at hy hen); rotate_left)
      | gi_in)
    · intro hall
      have hallB : ∀ p ∈ m, p.1 ∈ came := fun p hp => by
        obtain ⟨d, x⟩ := p
        cases x
        · exact (hall.out d).1 hp
        · exact (hall.out d).2 hp
      have hallB := Lib.hid hallB
      clear hall
      gi_wp2
      go_end0
      exact ⟨⟨_, rfl⟩, came.reverse, part_all hNd'.out hP.out.1 hP.out.2 hallB.out, hJs⟩
    · refine hRd.mono ?_
      rintro e W5 ⟨rfl, hJ5, hk5⟩
      gi_wp2
      have hr5 := hr4.1.of_walks hk5
      go_roundw
      case rel => exact ⟨v :: came, hr5.1, Lib.hid (part_step hP.out hcm.mem hcm.fresh), by simpa using hJ5⟩
      case measure => rw [hr5.2, hr4.2]; exact hcm.less

/-- maps.Values(m): the map is boxed. -/
theorem keys_in (F : Fence) (n : Nat) (hf : F.fn 65) (hro : F.round = none) (mb : Option Nat) (w : World) :
    CallsIn F n Try.prog 65 #[.map mb] w fun e w' => e = .returned (.func (.func 85) #[] #[.pointer (some ⟨w.heap.size, 0, none⟩)]) ∧ w' = w.alloc (.cells #[.map mb] 57) := by
  refine callsIn_of_wp Try.func65 rfl hf ?_ hro
  simp only [Try.ntmps65, List.size_toArray, List.length_cons, List.length_nil, Nat.reduceAdd, Nat.reduceSub, Array.replicate_succ, Array.replicate_zero, List.push_toArray, List.append_toArray, List.nil_append, List.cons_append]
  gi_wp2
  go_ret
  exact ⟨rfl, rfl⟩
/-! ## slices.AppendSeq -/
section
variable {F : Fence} {n : Nat} {P : Program} {ops : Array Oper} {rest : List Oper} {o : Oper} {a : Act} {Q : Exit → Act → World → Prop} {α : Type}
theorem wpi_append1 {enc : α → List Value} {k base : Nat} {w : World} (hgd : o.guard = none) {s x : Operand} {t e : TypeId} (ho : o.op = .call { callee := .builtin .append, args := #[s, x], argTypes := #[t, t] })
    (ht : P.underlying t = some (.slice e)) {z : Value} {bytes : Nat} (hinfo : (P.info? e).map (fun i => (i.zero, i.size, i.bytes)) = some (some z, k, bytes)) (hz : z.cells.size = k) (hk0 : 0 < k) (hk : ∀ x, (enc x).length = k) (h1 : ∀ x, ∀ u ∈ enc x, u.oneCell' = true)
    {v : Value} {xs : List α} (hs : a.eval s = v) (hown : Own w base e k enc v xs) {g : Nat} {c : Nat} (hx : a.eval x = .slice (some ⟨g, 0, none⟩) 1 c) {y : α} {cs : Array Value} {T : TypeId} (hg : w.heap[g]? = some (.cells cs T (0, 0))) (hcs : cs = (enc y).toArray)
    (hb : (xs.length + 1) * bytes ≤ 140737488355328) (hl : xs.length + 1 ≤ maxLen) (hbase : base ≤ w.heap.size)
    (h : ∀ v' w', Own w' base e k enc v' (xs ++ [y]) → w.grownBy w' v.ownBlock → wpListIn F n P ops Q rest (a.put o.dst v') w') : wpListIn F n P ops Q (o :: rest) a w := by
  obtain ⟨i0, hi, hz0, hz1, hz2⟩ := info_parts hinfo
  subst hcs
  refine wpListIn_append_own w hgd s x t ho base e i0 z k bytes ht hi hz0 hz1 hz2 hz hk0 v xs.length _ hs hown ⟨g, 0, none⟩ 1 c (enc y) hx (by rw [hk]; omega) (fun j u hu => ?_) (h1 y) hl hb hbase (fun v' w' h2 h3 _ => h v' w' ?_ h3)
  · have e1 : (⟨g, 0, none⟩ : Addr).add j = ⟨g, j, none⟩ := by unfold Addr.add; split <;> simp_all
    rw [e1, blk_cell hg]
    simpa using hu
  · show w'.ownsRow _ _ _ _ _ _
    rw [List.length_append, List.flatMap_append]
    simpa using h2
end
def apAssign : Code := (Code.region 2 #[{ dst := some 5, op := Op.alloc 31, type := 0, pos := "iter.go:51", after := #[], guard := none }, { dst := none, op := Op.store 31 (Operand.tmp 5) (Operand.tmp 7), type := 0, pos := "iter.go:51", after := #[{ on := 0, ground := Ground.data }, { on := 0, ground := Ground.phase }], guard := none }] false)
def apBody : Code := (Code.block 1 (Code.region 3 #[{ dst := some 8, op := Op.load 39 (Operand.tmp 2), type := 39, pos := "iter.go:52", after := #[], guard := none }, { dst := some 9, op := Op.load 31 (Operand.tmp 5), type := 31, pos := "iter.go:52", after := #[], guard := none }, { dst := some 10, op := Op.buildSlice 39 1 #[(0, Operand.tmp 9)], type := 39, pos := "iter.go:52", after := #[{ on := 1, ground := Ground.data }], guard := none }, { dst := some 11, op := Op.call { callee := Callee.builtin Builtin.append, args := #[Operand.tmp 8, Operand.tmp 10], argTypes := #[39, 39] }, type := 39, pos := "iter.go:52", after := #[{ on := 0, ground := Ground.data }, { on := 2, ground := Ground.data }], guard := none }, { dst := none, op := Op.store 39 (Operand.tmp 2) (Operand.tmp 11), type := 0, pos := "iter.go:52", after := #[{ on := 3, ground := Ground.data }, { on := 3, ground := Ground.chain }, { on := 0, ground := Ground.phase }, { on := 1, ground := Ground.phase }, { on := 2, ground := Ground.phase }, { on := 3, ground := Ground.phase }], guard := none }] false))
def apRec (fn : FuncId) (s0 sv : Value) (Bs D : Nat) (st : LoopState) (pend : Option Code) : Loop :=
  { state := st, pending := pend, fn, tmps := #[s0, sv, .pointer (some ⟨Bs, 0, none⟩), undef, .slice none 0 0, undef, sv, undef, undef, undef, undef, undef, undef], params := #[7], assign := apAssign, body := apBody, defers := D }
/-- Between two rounds. -/
structure ApAt (base : Nat) (w0 : World) (fn : FuncId) (s0 sv : Value) (Bs l D : Nat) (ss : List Chk) (W : World) : Prop where
  box : ∃ v, W.heap[Bs]? = some (.cells #[v] 39 (0, 0)) ∧ Own W base 31 3 encChk v ss
  L : W.heap[l]? = some (.loop (apRec fn s0 sv Bs D .ready none))
  K : W.heap[D]? = some (.deferred (some []))
  below : Below base w0 W
theorem own_ne {W : World} {base : Nat} {v : Value} {ss : List Chk} (h : Own W base 31 3 encChk v ss) {j : Nat} {o : Obj} (hj : W.heap[j]? = some o) (hno : ∀ cur, o ≠ .cells cur 31 (0, 0)) : v.ownBlock = none ∨ v.ownBlock ≠ some j := ownsRow_ne_a h hj hno
theorem own_ne2 {W : World} {base : Nat} {v : Value} {ss : List Chk} (h : Own W base 31 3 encChk v ss) {j : Nat} {o : Obj} (hj : W.heap[j]? = some o) (hno : ∀ cur, o ≠ .cells cur 31 (0, 0)) : some j ≠ v.ownBlock := by
  rcases own_ne h hj hno with e | e
  · rw [e]; simp
  · exact fun e' => e e'.symm
theorem ap_abides (base : Nat) (w0 : World) (fn : FuncId) (s0 sv : Value) (Bs l D B : Nat) (hb0 : base ≤ w0.heap.size) (hB : w0.heap.size ≤ B) : AbidesFrom B (ApAt base w0 fn s0 sv Bs l D) := fun s W W' row h hg hrow => by
  have hrow' : ∀ r, row = some r → ∃ o : Obj, W.heap[r]? = some o ∧ o.isWalk = true := fun r e => (hrow r e).2
  obtain ⟨v, hv, hr⟩ := h.box
  exact ⟨⟨v, (grownBy_keeps hg hrow' hv rfl).trans hv, ownsRow_abides_a hr hg hrow'⟩, (grownBy_keeps hg hrow' h.L rfl).trans h.L, (grownBy_keeps hg hrow' h.K rfl).trans h.K,
    h.below.grown hg (Nat.le_trans hb0 h.below.size) (fun k e => Nat.le_trans hb0 (Nat.le_trans hB (hrow k e).1))⟩
theorem clay (w : World) (x : Chk) : Below w.heap.size w (w.alloc (.cells #[.int .i64 x.epoch, .int .u64 x.root.hi, .int .u64 x.root.lo] 31)) ∧ (w.alloc (.cells #[.int .i64 x.epoch, .int .u64 x.root.hi, .int .u64 x.root.lo] 31)).heap[w.heap.size]? = some (.cells #[.int .i64 x.epoch, .int .u64 x.root.hi, .int .u64 x.root.lo] 31 (0, 0)) :=
  ⟨(Below.refl _ w).alloc (Nat.le_refl _) _, ha_at rfl⟩
set_option maxRecDepth 100000 in
set_option maxHeartbeats 2000000 in
theorem ap_yield (F : Fence) (m base : Nat) (w0 : World) (fn : FuncId) (hfn : F.fn fn) (s0 sv : Value) (Bs l D : Nat) (hBl : Bs ≠ l) (hDl : D ≠ l) (hDB : D ≠ Bs) (hb0 : base ≤ w0.heap.size) (h0B : w0.heap.size ≤ Bs) (h0l : w0.heap.size ≤ l)
    (ss : List Chk) (x : Chk) (W : World) (h : ApAt base w0 fn s0 sv Bs l D ss W) (hlen : ss.length < 100000) :
    YieldAt F m Try.prog l #[chkv x] W fun e W' => e = .returned (.bool true) ∧ ApAt base w0 fn s0 sv Bs l D (ss ++ [x]) W' ∧ KeepsWalks W W' := by
  have hun := Try.underlying39
  obtain ⟨v, hv, hrow⟩ := h.box
  refine ⟨fn, #[s0, sv, .pointer (some ⟨Bs, 0, none⟩), undef, .slice none 0 0, undef, sv, chkv x, undef, undef, undef, undef, undef], apAssign, apBody, by simpa [apRec] using run_yield (P := Try.prog) (args := #[chkv x]) h.L rfl, roundIn_of_wpIn hfn ?_⟩
  have hl : l < W.heap.size := (Array.getElem?_eq_some_iff.1 h.L).1
  obtain ⟨W1, hW1⟩ : ∃ W1, W.alloc (.cells #[.int .i64 x.epoch, .int .u64 x.root.hi, .int .u64 x.root.lo] 31) = W1 := ⟨_, rfl⟩
  have hB1 : Below W.heap.size W W1 := by subst hW1; exact (Below.refl _ W).alloc (Nat.le_refl _) _
  have x1 : W1.heap[W.heap.size]? = some (.cells #[.int .i64 x.epoch, .int .u64 x.root.hi, .int .u64 x.root.lo] 31 (0, 0)) := by subst hW1; exact ha_at rfl
  have hk1 : KeepsWalks W W1 := by subst hW1; exact KeepsWalks.alloc _ _
  have hL1 := bl_own hB1 h.L
  have hK1 := bl_own hB1 h.K
  have hv1 := bl_own hB1 hv
  have hrow1 : Own W1 base 31 3 encChk v ss := hrow.below hB1
  have hBW := h.below.size
  have hbr := run_beginRound (P := Try.prog) hL1 rfl
  obtain ⟨W2, hW2⟩ : ∃ W2, W1.putObj l (.loop { apRec fn s0 sv Bs D .ready none with state := .busy }) = W2 := ⟨_, rfl⟩
  rw [hW2] at hbr
  have hg2 : W1.grownBy W2 (some l) := by rw [← hW2]; exact grownBy_putObj_a _ _ _
  have hk2 : KeepsWalks W1 W2 := by rw [← hW2]; exact KeepsWalks.putObj _ hL1 rfl
  have hv2 := grown_own hg2 hv1 (fun e => hBl (Option.some.inj e))
  have hK2 := grown_own hg2 hK1 (fun e => hDl (Option.some.inj e))
  have x2 := grown_own hg2 x1 (fun e => by have := Option.some.inj e; omega)
  have hL2 : W2.heap[l]? = some (.loop { apRec fn s0 sv Bs D .ready none with state := .busy }) := by rw [← hW2]; exact World.putObj_heap_same (by have := hB1.size; omega)
  have hrow2 : Own W2 base 31 3 encChk v ss := hrow1.grown hg2 (.inr (fun e => own_ne2 hrow1 hL1 (fun cur e => by cases e) e.symm))
  have hb1 : Below base w0 W1 := h.below.grown (gb_none hB1 none) (by omega) (fun k e => by cases e)
  have hb2 : Below base w0 W2 := hb1.grown hg2 (by have := hB1.size; omega) (fun k e => by cases e; omega)
  obtain ⟨hc2, hf2⟩ := cell_of_box_a hv2
  obtain ⟨d0, d1, d2⟩ := blk3 x2
  have hs2 := hb2.size
  have hbw := clay W2 x
  have hB3 := hbw.1
  have x3 := hbw.2
  have hk3 : KeepsWalks W2 (W2.alloc (.cells #[.int .i64 x.epoch, .int .u64 x.root.hi, .int .u64 x.root.lo] 31)) := KeepsWalks.alloc _ _
  have hrow3 := hrow2.below hB3
  have hv3 := bl_own hB3 hv2
  have hL3 := bl_own hB3 hL2
  have hK3 := bl_own hB3 hK2
  have hb3 := hb2.grown (gb_none hB3 none) (by omega) (fun k e => by cases e)
  have hs3 := hb3.size
  clear hbw
  clear hW2
  unfold apAssign chkv
  gi_wp2_with gi_round_op_a
  unfold apBody
  gi_wp2_with (first
    | (gi_at_builtin; refine wpi_append1 rfl rfl hun infoC rfl (by decide) encChk_len encChk_one rfl hrow3 (g := W2.heap.size) (c := 1) rfl (y := x) x3 rfl (by omega) (by unfold maxLen; omega) (by omega) ?_; intro v' W4 hown' hg4
       obtain ⟨A', c', rfl, _⟩ := hown'.rd encChk_len
       have hv4 := grown_own hg4 hv3 (own_ne2 hrow3 hv3 (fun cur e => by cases e))
       obtain ⟨hc4, hf4⟩ := cell_of_box_a hv4
       go_frame)
    | gi_round_op_a)
  have hL4 := grown_own hg4 hL3 (own_ne2 hrow3 hL3 (fun cur e => by cases e))
  have hK4 := grown_own hg4 hK3 (own_ne2 hrow3 hK3 (fun cur e => by cases e))
  obtain ⟨u', hu'⟩ : ∃ u', Value.slice A' (ss.length + 1) c' = u' := ⟨_, rfl⟩
  rw [show (ss ++ [x]).length = ss.length + 1 by simp, hu'] at hown'
  rw [hu']
  obtain ⟨W5, hW5⟩ : ∃ W5, W4.setCell ⟨Bs, 0, none⟩ u' = W5 := ⟨_, rfl⟩
  rw [hW5]
  have hg5 : W4.grownBy W5 (some Bs) := by rw [← hW5]; exact grownBy_setCell0_a _ _ _
  have hv5 : W5.heap[Bs]? = some (.cells #[u'] 39 (0, 0)) := by rw [← hW5]; exact heap_setCell_box_a _ hv4
  have hL5 := grown_own hg5 hL4 (fun e => hBl (Option.some.inj e).symm)
  have hK5 := grown_own hg5 hK4 (fun e => hDB (Option.some.inj e))
  have hown5 : Own W5 base 31 3 encChk u' (ss ++ [x]) := hown'.grown hg5 (.inr (fun e => own_ne2 hown' hv4 (fun cur e => by cases e) e.symm))
  have hb4 : Below base w0 W4 := hb3.grown hg4 (by omega) (fun k e => (hrow3.base k e).1)
  have hb5 : Below base w0 W5 := hb4.grown hg5 (by have := hb4.size; omega) (fun k e => by cases e; omega)
  have hk5 : KeepsWalks W W5 := (((hk1.trans hk2).trans hk3).trans (KeepsWalks.of_grownBy hg4 (ownsRow_not_walk_a hrow3))).trans (by rw [← hW5]; exact KeepsWalks.setCell _ _ _)
  have hl5 : l < W5.heap.size := lt_of_block hL5
  clear hW5
  have hg6 := grownBy_putObj_a W5 l (.loop { { apRec fn s0 sv Bs D .ready none with state := .busy } with state := if (none : Option Code).isNone then .ready else .done, pending := none })
  exact ⟨_, _, run_endRound none hL5, rfl, ⟨⟨_, (World.putObj_heap_other hBl).trans hv5, hown5.grown hg6 (.inr (fun e => own_ne2 hown5 hL5 (fun cur e => by cases e) e.symm))⟩, World.putObj_heap_same hl5, (World.putObj_heap_other hDl).trans hK5, hb5.grown hg6 (by have := hb5.size; omega) (fun k e => by cases e; omega)⟩, hk5.trans (KeepsWalks.putObj _ hL5 rfl)⟩
set_option maxRecDepth 100000 in
set_option maxHeartbeats 2000000 in
/-- slices.AppendSeq(s, seq), where s has nothing, and the sequence gives checkpoints. -/
theorem appendSeq_in (F : Fence) (n : Nat) (h44 : F.fn 107) (hro : F.round = none) (hn : 2 ≤ n) (g : Nat) (lb : Array Value) (hFg : F.fn g) (eg : ∀ args w, (callFunc g args).run Try.prog w = .ok (.enter g args) w)
    (S : List Chk → Prop) (N base : Nat) (hN : N ≤ 100000) (s0 : Value) (w : World) (hb0 : base ≤ w.heap.size) (hs0 : Own w base 31 3 encChk s0 []) (hseq : SeqGives F (n - 1) Try.prog g lb chkv S N w) :
    CallsIn F n Try.prog 107 #[s0, .func (.func g) #[] lb] w fun e w' => ∃ (v : Value) (ss : List Chk), e = .returned v ∧ S ss ∧ Own w' base 31 3 encChk v ss ∧ Below base w w' := by
  have h1 : 1 ≤ n := by omega
  obtain ⟨A0, c0, e0, _⟩ := hs0.rd encChk_len
  have e1 : s0 = .slice A0 0 c0 := e0
  subst e1
  clear e0
  refine callsIn_of_wp_marks Try.func107 rfl h44 ?_ hro
  simp only [Try.ntmps107, List.size_toArray, List.length_cons, List.length_nil, Nat.reduceAdd, Nat.reduceSub, Array.replicate_succ, Array.replicate_zero, List.push_toArray, List.append_toArray, List.nil_append, List.cons_append]
  gi_wp2
  refine wpIn_rangeFunc ?_
  intro fn hfn
  rw [hro]
  obtain ⟨W0, hW0⟩ : ∃ W0, w.alloc (.cells #[.slice A0 0 c0] 39) = W0 := ⟨_, rfl⟩
  have hz0 : W0.heap.size = w.heap.size + 1 := by rw [← hW0]; simp
  have hv0 : W0.heap[w.heap.size]? = some (.cells #[.slice A0 0 c0] 39 (0, 0)) := by rw [← hW0]; exact ha_at rfl
  have hB0 : Below w.heap.size w W0 := by rw [← hW0]; exact (Below.refl _ w).alloc (Nat.le_refl _) _
  have ho0 := hs0.below hB0
  rw [hW0]
  obtain ⟨W1, hW1⟩ : ∃ W1, (W0.alloc (.deferred (some []))).alloc (.loop (apRec fn (.slice A0 0 c0) (.func (.func g) #[] lb) w.heap.size W0.heap.size .ready none)) = W1 := ⟨_, rfl⟩
  have hB1 : Below W0.heap.size W0 W1 := by rw [← hW1]; exact ((Below.refl _ W0).alloc (Nat.le_refl _) _).alloc (by simp) _
  have hb1 : Below w.heap.size w W1 := below_call hB0 hB0.size hB1
  have hs1 : W1.heap.size = W0.heap.size + 2 := by rw [← hW1]; simp
  have hM : ApAt base w fn (.slice A0 0 c0) (.func (.func g) #[] lb) w.heap.size (W0.heap.size + 1) W0.heap.size [] W1 :=
    ⟨⟨_, bl_own hB1 hv0, ho0.below hB1⟩, by rw [← hW1]; exact ha_at (by simp), by rw [← hW1]; exact ha_lt (ha_at rfl), hb1.mono hb0⟩
  refine ⟨W0.heap.size + 1, [{ target := .collected W0.heap.size, args := #[] }], W1, { target := .fn (.func g) lb, args := #[.func (.yield (W0.heap.size + 1)) #[] #[]] }, W1, g,
    #[.func (.yield (W0.heap.size + 1)) #[] #[]] ++ lb, W1, ?_, ?_, ?_, ?_, fun _ => h1, ?_⟩
  · rw [← hW1]; exact run_enterLoop_outer _ _ _ _ _
  · simp [resolve, go_sem]
  · intro f' hf'; simp [Target.leads] at hf'; subst hf'; exact hFg
  · simp [invoke, go_sem, eg]
  · refine (hseq (W0.heap.size + 1) (ApAt base w fn (.slice A0 0 c0) (.func (.func g) #[] lb) w.heap.size (W0.heap.size + 1) W0.heap.size) W1 hb1 (ap_abides _ _ _ _ _ _ _ _ _ hb0 hb1.size)
      (fun pre x W hJ hl => ap_yield F (n - 1 - 1) base w fn hfn _ _ w.heap.size (W0.heap.size + 1) W0.heap.size (by omega) (by omega) (by omega) hb0 (Nat.le_refl _) (by omega) pre x W hJ (by omega)) hM).mono ?_
    rintro e W2 ⟨⟨v0, rfl⟩, ss, hS, h2⟩
    obtain ⟨v, hv, hrow⟩ := h2.box
    have hend := run_endLoop (P := Try.prog) h2.L (by simp [apRec])
    obtain ⟨W3, hW3⟩ : ∃ W3, W2.putObj (W0.heap.size + 1) (.loop { apRec fn (.slice A0 0 c0) (.func (.func g) #[] lb) w.heap.size W0.heap.size .ready none with state := .exhausted }) = W3 := ⟨_, rfl⟩
    rw [hW3] at hend
    have hg3 : W2.grownBy W3 (some (W0.heap.size + 1)) := by rw [← hW3]; exact grownBy_putObj_a _ _ _
    have hv3 := grown_own hg3 hv (fun e => by have := Option.some.inj e; omega)
    have hK3 := grown_own hg3 h2.K (fun e => by have := Option.some.inj e; omega)
    have hrow3 := hrow.grown hg3 (.inr (fun e => own_ne2 hrow h2.L (fun cur e => by cases e) e.symm))
    have hs2 := h2.below.size
    have hb3 : Below base w W3 := h2.below.grown hg3 (by omega) (fun k e => by cases e; omega)
    obtain ⟨hc3, hf3⟩ := cell_of_box_a hv3
    obtain ⟨Av, cv, rfl, _⟩ := hrow.rd encChk_len
    clear hW3
    refine ⟨none, W3, hend, ?_⟩
    gi_wp2
    rw [← hz0]
    refine ⟨by simp, .inl ⟨_, _, rfl, run_takeDeferred hK3, ?_⟩⟩
    have hg4 := grownBy_putObj_a W3 W0.heap.size (.deferred none)
    exact ⟨_, results_tmp rfl _ _ _, .slice Av ss.length cv, ss, rfl, hS, hrow3.grown hg4 (.inr (fun e => own_ne2 hrow3 hK3 (fun cur e => by cases e) e.symm)), hb3.grown hg4 (by have := hb3.size; omega) (fun k e => by cases e; omega)⟩
end Go.Proofs.Ytdocgemfedohdaa
