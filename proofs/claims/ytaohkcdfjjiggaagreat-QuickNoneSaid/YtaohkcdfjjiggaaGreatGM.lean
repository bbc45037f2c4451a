/- GM: several texts in one. -/
import Derived.Test.YtaohkcdfjjiggaaGreatGC
import Derived.Test.YtaohkcdfjjiggaaGreatGK
import Derived.Test.YtaohkcdfjjiggaaGreatGD
import Derived.Deep.RegionHeld3
/-! Who votes in a slot: the closures, walked. -/
namespace Go.Proofs.YtaohkcdfjjiggaaGreat
open Go.RowKit Go.Shelf
attribute [local go_sem] Oper.semAt_some
set_option maxRecDepth 100000 in
set_option maxHeartbeats 1000000 in
theorem cm1_any (c : Cfg) (A A2 : Option Addr) (k k2 Ba Bk Bs : Nat) (s : Int) (i : Nat) (seed : Int) (w : World) (hM : MayC c) (hs : SlotOk s) (hi : i < c.W.length) (hsd : seed = mixStep c.seed (s / c.epoch))
    (hc : ConfAt w Bk A k c) (ha : w.cell? ⟨Ba, 0, none⟩ = some (.slice A2 c.W.length k2)) (hR : Rd 1 encI w A2 (permTo seed c.W.length c.W.length)) (hS : w.cell? ⟨Bs, 0, none⟩ = some (.int .i64 s)) :
    Calls Tryz.prog 60 #[.int .i64 i, .pointer (some ⟨Ba, 0, none⟩), .pointer (some ⟨Bk, 0, none⟩), .pointer (some ⟨Bs, 0, none⟩)] w fun e w' => e = .returned (.bool (comP c s i)) ∧ w' = w.drew := by
  obtain ⟨c0, c1, c2, c3, c4⟩ := blk5 hc
  obtain ⟨b, o, rfl, hb, hx⟩ := hR.atI (i := i) (by rw [permTo_len]; exact hi)
  have he : (permTo seed c.W.length c.W.length)[i]'(by rw [permTo_len]; exact hi) = shufAt seed c.W.length i := by simp [permTo, hi]
  rw [he] at hx
  have hbd := shufAt_bd (seed := seed) (n := c.W.length) (i := i) (by omega) (by omega) (by omega)
  have hep := hM.2.1
  obtain ⟨y, hy⟩ : ∃ y, shufAt seed c.W.length i = y := ⟨_, rfl⟩
  have e1 : y.tmod c.epoch = y % c.epoch := Int.tmod_eq_emod_of_nonneg (by rw [← hy]; exact hbd.1)
  have e2 : s.tmod c.epoch = s % c.epoch := Int.tmod_eq_emod_of_nonneg (by have := hs.1; omega)
  have e3 : comP c s i = (y % c.epoch == s % c.epoch) := by
    unfold comP
    rw [← hsd, hy]
    rfl
  rw [hy] at hx
  rw [e3]
  have hne : ¬ c.epoch = 0 := by omega
  clear e3 he hbd hy hsd hM hs hc hR hep
  go_enter Tryz.func60, Tryz.ntmps60
  go_wp2_with fail
  go_still (by kernel_rfl)
  change Exit.then _ _ _ _ w.drew
  go_wp2
  go_ret
  exact ⟨rfl, rfl⟩
set_option maxRecDepth 100000 in
set_option maxHeartbeats 2000000 in
/-- duty.those's closure, where what is asked of each is whether it votes in a slot. -/
theorem those1_cm (F : Fence) (n : Nat) (h47 : F.fn 97) (hpf : F.fn 60) (hro : F.round = none) (hn : 1 ≤ n) (l Bc Bf n₀ : Nat) (c : Cfg) (A : Option Addr) (kc : Nat) (Ba Bk Bs : Nat) (p : Nat → Bool) (J Jx : List (Fin c.W.length) → World → Prop)
    (W : World) (hA : Rd 1 encI W A c.W) (hc : ConfAt W Bc A kc c) (hf : W.heap[Bf]? = some (.cells #[.func (.func 60) #[] #[.pointer (some ⟨Ba, 0, none⟩), .pointer (some ⟨Bk, 0, none⟩), .pointer (some ⟨Bs, 0, none⟩)]] 86 (0, 0))) (_ : n₀ ≤ W.heap.size) (_ : Bc < n₀) (hfn : Bf < n₀)
    (hP : ∀ (i : Nat) W', i < c.W.length → Below n₀ W W' → CallsIn F (n - 1) Tryz.prog 60 #[.int .i64 (i : Int), .pointer (some ⟨Ba, 0, none⟩), .pointer (some ⟨Bk, 0, none⟩), .pointer (some ⟨Bs, 0, none⟩)] W' fun e w' => e = .returned (.bool (p i)) ∧ w' = W'.drew)
    (hY : ∀ pre (x : Fin c.W.length) W, J pre W → pre.length < c.W.length → YieldAt F (n - 1) Tryz.prog l #[.int .i64 (x.val : Int)] W fun e W' =>
      (e = .returned (.bool true) ∧ J (pre ++ [x]) W' ∧ Below n₀ W W') ∨ (e = .returned (.bool false) ∧ Jx (pre ++ [x]) W')) (h0 : J [] W) (hD : ∀ pre W, J pre W → J pre W.drew) :
    CallsIn F n Tryz.prog 97 #[.func (.yield l) #[] #[], .pointer (some ⟨Bc, 0, none⟩), .pointer (some ⟨Bf, 0, none⟩)] W fun e W' => (∃ v, e = .returned v) ∧
      ((∃ ys, ys = those c.W.length p c.W.length ∧ J ys W') ∨ (∃ pre, (∃ k, k < c.W.length ∧ p k = true ∧ pre = those c.W.length p (k + 1)) ∧ Jx pre W')) := by
  have hm := hA.1
  have c0 := blk_cell hc 0
  have hf0 := blk_cell hf 0
  refine callsIn_of_wp Tryz.func97 rfl h47 ?_ hro
  simp only [Tryz.ntmps97, List.size_toArray, List.length_cons, List.length_nil, Nat.reduceAdd, Nat.reduceSub, Array.replicate_succ, Array.replicate_zero, List.push_toArray, List.append_toArray, List.nil_append, List.cons_append]
  gi_wp2
  gi_loopw [8, 4] (fun i _x wr => ∃ k : Nat, k ≤ c.W.length ∧ i = .int .i64 k ∧ J (those c.W.length p k) wr ∧ Below n₀ W wr)
    (fun i _ _ => c.W.length - (intOf i).toNat)
  case atStart => exact ⟨0, Nat.zero_le _, rfl, h0, Below.refl _ _⟩
  case round =>
    obtain ⟨k, hk, rfl, hJs, hnx⟩ := hrel
    have hfx : wr.heap[Bf]? = some (.cells #[.func (.func 60) #[] #[.pointer (some ⟨Ba, 0, none⟩), .pointer (some ⟨Bk, 0, none⟩), .pointer (some ⟨Bs, 0, none⟩)]] 86 (0, 0)) := bl_blk hnx hf hfn
    have e0 := blk_cell hfx 0
    by_cases hlt : k < c.W.length
    · have hPk := hP k wr hlt hnx
      have hlen := those_len c.W.length p k
      cases hpk : p k with
      | true =>
        rw [hpk] at hPk
        obtain ⟨fn, tmps, assign, body, hy, hR⟩ := hY _ ⟨k, hlt⟩ wr.drew (hD _ _ hJs) (Nat.lt_of_le_of_lt hlen hlt)
        dsimp only at hy
        have hth := Lib.hid (those_yes hlt hpk)
        have hpk' := Lib.hid hpk
        clear hpk hlen
        gi_wp2_with (gi_at_call 60; refine hPk.mono ?_; clear hPk; rintro e w' ⟨rfl, rfl⟩)
        refine hR.mono ?_
        rintro e W3 (⟨rfl, hJ3, hk3⟩ | ⟨rfl, hJx3⟩)
        · gi_wp2
          go_roundw
          case rel => exact ⟨k + 1, hlt, by go_num, by rw [hth.out]; exact hJ3, hnx.drew.trans hk3⟩
          case measure => simp [intOf]; omega
        · gi_wp2
          refine bodyPost_ret (results_none rfl _ _ _) rfl ?_
          exact ⟨⟨_, rfl⟩, .inr ⟨_, ⟨k, hlt, hpk'.out, hth.out.symm⟩, hJx3⟩⟩
      | false =>
        rw [hpk] at hPk
        have hth := Lib.hid (those_no (m := c.W.length) hpk)
        clear hpk hlen
        gi_wp2_with (gi_at_call 60; refine hPk.mono ?_; clear hPk; rintro e w' ⟨rfl, rfl⟩)
        refine ⟨fun _ h => (by cases h), ?_⟩
        gi_wp2
        go_roundw
        case rel => exact ⟨k + 1, hlt, by go_num, by rw [hth.out]; exact hD _ _ hJs, hnx.drew⟩
        case measure => simp [intOf]; omega
    · obtain rfl : k = c.W.length := by omega
      gi_wp2
      go_end0
      exact ⟨⟨_, rfl⟩, .inl ⟨_, rfl, hJs⟩⟩
end Go.Proofs.YtaohkcdfjjiggaaGreat
/-! slices.AppendSeq and Collect over duty.those, walked. -/
namespace Go.Proofs.YtaohkcdfjjiggaaGreat
open Go.RowKit Go.Shelf
attribute [local go_sem] Oper.semAt_some
theorem infoInt : (Tryz.prog.info? 3).map (fun i => (i.zero, i.size, i.bytes)) = some (some (.int .i64 0), 1, 8) := by kernel_rfl
theorem own_neI {W : World} {base : Nat} {v : Value} {ss : List Int} (h : Own W base 3 1 encI v ss) {j : Nat} {o : Obj} (hj : W.heap[j]? = some o) (hno : ∀ cur, o ≠ .cells cur 3 (0, 0)) : some j ≠ v.ownBlock := by
  rcases ownsRow_ne_a h hj hno with e | e
  · rw [e]; simp
  · exact fun e' => e e'.symm
theorem own_cells {W : World} {base : Nat} {v : Value} {ss : List Int} (h : Own W base 3 1 encI v ss) : ∀ (j : Nat) (o : Obj), v.ownBlock = some j → W.heap[j]? = some o → o.isCells = true := by
  intro j o hj ho
  rcases h.2 with ⟨rfl, _⟩ | ⟨g, cap, cur, rfl, _, hgb, _⟩
  · simp [Value.ownBlock] at hj
  · have : g = j := by simpa [Value.ownBlock] using hj
    subst this; rw [hgb] at ho; cases ho; rfl
def finI {m : Nat} (l : List (Fin m)) : List Int := l.map fun i => (i.val : Int)
set_option maxRecDepth 100000 in
set_option maxHeartbeats 2000000 in
theorem appendSeqI_any (m Bc Bf : Nat) (hm : m ≤ 1000) (p : Nat → Bool) (w : World) (hseq : ∀ W, Below w.heap.size w W → ThoseK Fence.wide 2 Bc Bf w.heap.size m p W) :
    Calls Tryz.prog 96 #[.slice none 0 0, .func (.func 97) #[] #[.pointer (some ⟨Bc, 0, none⟩), .pointer (some ⟨Bf, 0, none⟩)]] w fun e w' => ∃ v, e = .returned v ∧ Own w' w.heap.size 3 1 encI v (finI (those m p m)) ∧ Below w.heap.size w w' := by
  have hmx : Tryz.prog.follows .mixedOrders = true := by kernel_rfl
  obtain ⟨V, hV⟩ : ∃ V, w.alloc (.cells #[.slice none 0 0] 22) = V := ⟨_, rfl⟩
  have hB : Below w.heap.size w V := by subst hV; exact (Below.refl _ w).alloc (Nat.le_refl _) _
  have hb : V.heap[w.heap.size]? = some (.cells #[.slice none 0 0] 22 (0, 0)) := by subst hV; exact ha_at rfl
  have hun := Tryz.underlying22
  refine (callsIn_wide (n := 3)).1 ?_
  refine callsIn_of_wp_marks Tryz.func96 rfl trivial ?_ rfl
  simp only [Tryz.ntmps96, List.size_toArray, List.length_cons, List.length_nil, Nat.reduceAdd, Nat.reduceSub, Array.replicate_succ, Array.replicate_zero, List.push_toArray, List.append_toArray, List.nil_append, List.cons_append]
  gi_wp2
  refine wpIn_rangeFunc_ownG rfl (by decide) (gf := 97) (lb := #[.pointer (some ⟨Bc, 0, none⟩), .pointer (some ⟨Bf, 0, none⟩)]) rfl trivial (enters_of Tryz.func97 (by kernel_rfl) rfl)
      (hseq V hB) belowK_t (belowK_b hB.size) (Below.refl _ _) (fun _ => rfl)
      (fun pre W => (∃ v, W.heap[w.heap.size]? = some (.cells #[v] 22 (0, 0)) ∧ Own W w.heap.size 3 1 encI v (finI pre)) ∧ Below w.heap.size w W)
      (fun _ _ _ => False)
      ?own
      (fun _ _ _ _ _ hs _ _ => hs)
      ⟨⟨_, hb, Own.nil _ _ _ _ _⟩, hB⟩
      (fun x => { tmps := #[.slice none 0 0, .func (.func 97) #[] #[.pointer (some ⟨Bc, 0, none⟩), .pointer (some ⟨Bf, 0, none⟩)], .pointer (some ⟨w.heap.size, 0, none⟩), undef, .slice none 0 0, .int .i64 (x.val : Int), .func (.func 97) #[] #[.pointer (some ⟨Bc, 0, none⟩), .pointer (some ⟨Bf, 0, none⟩)], .int .i64 (x.val : Int), undef, undef, undef, undef, undef], defers := [] }) ?assign ?body ?done ?stop
  case own =>
    rintro s A B' row ⟨⟨v, hv, ho⟩, hb⟩ hg hr
    refine ⟨⟨v, grown_own hg hv (fun e => ?_), ho.grown hg ?_⟩, hb.grown hg hb.size (fun k e => Nat.le_trans hB.size (hr k e).1)⟩
    · obtain ⟨_, o, h1, h2⟩ := hr _ e.symm
      rw [hv] at h1; cases h1; cases h2
    · cases row with
      | none => exact .inl rfl
      | some r =>
        obtain ⟨_, o, h1, h2⟩ := hr r rfl
        rcases ownsRow_ne_a ho h1 (fun cur e => by subst e; cases h2) with h3 | h3
        · exact .inr (by rw [h3]; simp)
        · exact .inr h3
  case assign =>
    intro l x W K hK
    unfold encF
    gi_wp2
    exact hK
  case body =>
    rintro l pre x W ⟨⟨v, hv, ho⟩, hBW⟩ hpl
    have hBs := hBW.size
    obtain ⟨W3, hW3⟩ : ∃ W3, W.alloc (.cells #[.int .i64 (x.val : Int)] 3) = W3 := ⟨_, rfl⟩
    have hB3 : Below W.heap.size W W3 := by subst hW3; exact (Below.refl _ W).alloc (Nat.le_refl _) _
    have x3 : W3.heap[W.heap.size]? = some (.cells #[.int .i64 (x.val : Int)] 3 (0, 0)) := by subst hW3; exact ha_at rfl
    have hko : KeepsOthers W W3 := by subst hW3; exact KeepsOthers.alloc _ _
    have hv3 := bl_own hB3 hv
    have ho3 := ho.below hB3
    have hs3 := hB3.size
    obtain ⟨d0, e0⟩ := blk1 hv
    have hlen : (finI pre).length = pre.length := by simp [finI]
    gi_wp2_with (first
      | (gi_at_builtin; refine wpi_append1 rfl rfl hun infoInt rfl (by decide) encI_len encI_one rfl ho3 (g := W.heap.size) (c := 1) rfl (y := (x.val : Int)) x3 rfl (by rw [hlen]; omega) (by rw [hlen]; unfold maxLen; omega) (by omega) ?_; intro v' W4 hown' hg4; replace hg4 : W3.grownBy W4 v.ownBlock := hg4; obtain ⟨A', c', rfl, _⟩ := hown'.rd encI_len; have hv4 := grown_own hg4 hv3 (own_neI ho3 hv3 (fun cur e => (by cases e))); obtain ⟨hc4, hf4⟩ := blk1 hv4)
      | gi_in)
    have hs4 := hg4.size
    have hg5 := grown_setC W4 ⟨w.heap.size, 0, none⟩ (.slice A' (finI pre ++ [(x.val : Int)]).length c')
    have hap : finI (pre ++ [x]) = finI pre ++ [(x.val : Int)] := by simp [finI]
    have hl2 : pre.length + 1 = (finI pre ++ [(x.val : Int)]).length := by simp [finI]
    have hK : Below w.heap.size W (W4.setCell ⟨w.heap.size, 0, none⟩ (.slice A' (finI pre ++ [(x.val : Int)]).length c')) := ((hB3.mono hBs).grown hg4 (by omega) (fun k e => (ho3.base k e).1)).setCell (p := ⟨w.heap.size, 0, none⟩) (Nat.le_refl _) _
    rw [hl2]
    refine ⟨((hko.trans (KeepsOthers.of_grownBy hg4 (own_cells ho3))).trans (KeepsOthers.setCell _ _ _)).from _, hK, ⟨_, Boxed.set _ hv4, ?_⟩, hBW.trans hK⟩
    rw [hap]
    exact hown'.grown hg5 (.inr (own_neI hown' hv4 (fun cur e => by cases e)).symm)
  case done =>
    rintro D ys W hD rfl ⟨⟨v, hv, ho⟩, hBW⟩ hK
    obtain ⟨d0, e0⟩ := blk1 hv
    obtain ⟨A', c', rfl, _⟩ := ho.rd encI_len
    gi_wp2
    refine ⟨by simp, .inl ⟨_, _, rfl, run_takeDeferred hK, ?_⟩⟩
    have hg5 := grownBy_putObj_a W D (.deferred none)
    exact ⟨_, results_tmp rfl _ _ _, .slice A' (finI (those m p m)).length c', rfl, ho.grown hg5 (.inr (own_neI ho hK (fun cur e => by cases e)).symm), hBW.trans (belowK_b (w := V) hB.size W D _ _ hD hK rfl rfl)⟩
  case stop =>
    rintro D c pre W _ _ h _
    exact h.elim
set_option maxRecDepth 100000 in
theorem collectI_any (m Bc Bf : Nat) (hm : m ≤ 1000) (p : Nat → Bool) (w : World) (hseq : ∀ W, Below w.heap.size w W → ThoseK Fence.wide 2 Bc Bf w.heap.size m p W) :
    Calls Tryz.prog 58 #[.func (.func 97) #[] #[.pointer (some ⟨Bc, 0, none⟩), .pointer (some ⟨Bf, 0, none⟩)]] w fun e w' => ∃ v, e = .returned v ∧ Own w' w.heap.size 3 1 encI v (finI (those m p m)) ∧ Below w.heap.size w w' := by
  have ha := appendSeqI_any m Bc Bf hm p w hseq
  go_enter Tryz.func58, Tryz.ntmps58
  go_wp2_with (go_at_call 96; refine ha.mono ?_; clear ha; rintro e w' ⟨v, rfl, ho, hb⟩; obtain ⟨A', c', rfl, _⟩ := ho.rd encI_len)
  go_ret
  exact ⟨_, rfl, ho, hb⟩
end Go.Proofs.YtaohkcdfjjiggaaGreat
/-! Who votes in a slot, walked. -/
namespace Go.Proofs.YtaohkcdfjjiggaaGreat
open Go.RowKit Go.Shelf
theorem thoseK_cm (c : Cfg) (A A2 : Option Addr) (k k2 Bc Bf Ba Bk Bs : Nat) (s seed : Int) (w2 W : World) (hM : MayC c) (hs : SlotOk s) (hsd : seed = mixStep c.seed (s / c.epoch)) (hA : Rd 1 encI w2 A c.W) (hc : ConfAt w2 Bc A k c)
    (hf : w2.heap[Bf]? = some (.cells #[.func (.func 60) #[] #[.pointer (some ⟨Ba, 0, none⟩), .pointer (some ⟨Bk, 0, none⟩), .pointer (some ⟨Bs, 0, none⟩)]] 86 (0, 0)))
    (hk : ConfAt w2 Bk A k c) (ha : w2.heap[Ba]? = some (.cells #[.slice A2 c.W.length k2] 22 (0, 0))) (hR : Rd 1 encI w2 A2 (permTo seed c.W.length c.W.length)) (hS : w2.heap[Bs]? = some (.cells #[.int .i64 s] 3 (0, 0)))
    (hW : Below w2.heap.size w2 W) : ThoseK Fence.wide 2 Bc Bf w2.heap.size c.W.length (comP c s) W := by
  intro l J Jx W' hW' hJ _ hY h0
  have hB := hW.trans (hW'.mono hW.size)
  refine those1_cm Fence.wide 2 trivial trivial rfl (by decide) l Bc Bf w2.heap.size c A k Ba Bk Bs (comP c s) J Jx W' (hA.below hB) (bl_own hB hc) (bl_own hB hf) hB.size (lt_of_block hc) (lt_of_block hf) ?_ hY h0 (fun pre V h => hJ pre V V.drew none h ⟨rfl, rfl, rfl, Nat.le_refl _, fun _ _ _ => rfl⟩ (fun r e => by cases e))
  intro i W'' hi hb''
  have hB2 := hB.trans hb''
  exact callsIn_wide.2 (cm1_any c A A2 k k2 Ba Bk Bs s i seed W'' hM hs hi hsd (bl_own hB2 hk) (blk_cell (bl_own hB2 ha) 0) (hR.below hB2) (blk_cell (bl_own hB2 hS) 0))
set_option maxRecDepth 100000 in
set_option maxHeartbeats 1000000 in
theorem dmays_any (c : Cfg) (s : Int) (A : Option Addr) (k : Nat) (w : World) (hr : Rd 1 encI w A c.W) :
    Calls Tryz.prog 55 #[cfgv A k c, .int .i64 s] w fun e w' => e = .returned (.bool (decide (MayC c ∧ SlotOk s))) ∧ Below w.heap.size w w' := by
  have hmay := fun W (hW : Below w.heap.size w W) => dmay_any c A k W (hr.below hW)
  have hm := hr.1
  have e1 : decide (MayC c ∧ SlotOk s) = (decide (MayC c) && decide (s > 0) && decide (s ≤ 1048576)) := by
    unfold SlotOk
    rw [Bool.eq_iff_iff]
    simp only [Bool.and_eq_true, decide_eq_true_eq]
    exact ⟨fun ⟨h, a, b⟩ => ⟨⟨h, by omega⟩, b⟩, fun ⟨⟨h, a⟩, b⟩ => ⟨h, by omega, b⟩⟩
  rw [e1]
  clear e1
  unfold cfgv at *
  have hW : ∃ W, w.alloc (.cells #[.slice A c.W.length k, .int .u64 c.seed, .int .i64 c.epoch, .int .i64 c.num, .int .i64 c.den] 25) = W := ⟨_, rfl⟩
  obtain ⟨W, hW⟩ := hW
  have hB : Below w.heap.size w W := by subst hW; exact (Below.refl _ w).alloc (Nat.le_refl _) _
  have hb : W.heap[w.heap.size]? = some (.cells #[.slice A c.W.length k, .int .u64 c.seed, .int .i64 c.epoch, .int .i64 c.num, .int .i64 c.den] 25 (0, 0)) := by subst hW; exact ha_at rfl
  obtain ⟨c0, c1, c2, c3, c4⟩ := blk5 hb
  have hmay := hmay W hB
  generalize decide (MayC c) = d at hmay ⊢
  generalize hd1 : decide (s > 0) = d1
  generalize hd2 : decide (s ≤ 1048576) = d2
  cases d
  · go_enter Tryz.func55, Tryz.ntmps55
    go_wp2_with (go_at_call 23; refine hmay.mono ?_; clear hmay; rintro e w1 ⟨rfl, hb1⟩; have hB1 := below_call hB hB.size hb1)
    go_ret
    exact ⟨rfl, hB1⟩
  · cases d1
    · go_enter Tryz.func55, Tryz.ntmps55
      go_wp2_with (go_at_call 23; refine hmay.mono ?_; clear hmay; rintro e w1 ⟨rfl, hb1⟩; have hB1 := below_call hB hB.size hb1)
      go_ret
      exact ⟨rfl, hB1⟩
    · go_enter Tryz.func55, Tryz.ntmps55
      go_wp2_with (go_at_call 23; refine hmay.mono ?_; clear hmay; rintro e w1 ⟨rfl, hb1⟩; have hB1 := below_call hB hB.size hb1)
      go_ret
      exact ⟨rfl, hB1⟩
theorem ck6 {W : World} {N : Nat} {A : Option Addr} {k : Nat} {c : Cfg} {s : Int} (h : ConfAt W N A k c) (h2 : W.heap[N + 1]? = some (.cells #[.int .i64 s] 3 (0, 0))) :
    W.cell? ⟨N, 0, none⟩ = some (.slice A c.W.length k) ∧ W.cell? ⟨N, 1, none⟩ = some (.int .u64 c.seed) ∧ W.cell? ⟨N, 2, none⟩ = some (.int .i64 c.epoch) ∧ W.cell? ⟨N, 3, none⟩ = some (.int .i64 c.num) ∧ W.cell? ⟨N, 4, none⟩ = some (.int .i64 c.den) ∧ W.cell? ⟨N + 1, 0, none⟩ = some (.int .i64 s) := by
  obtain ⟨d0, d1, d2, d3, d4⟩ := blk5 h
  exact ⟨d0, d1, d2, d3, d4, (blk1 h2).1⟩
set_option maxRecDepth 100000 in
set_option maxHeartbeats 4000000 in
theorem committee_any (c : Cfg) (s : Int) (A : Option Addr) (k : Nat) (w : World) (hr : Rd 1 encI w A c.W) :
    Calls Tryz.prog 28 #[cfgv A k c, .int .i64 s] w fun e w' => ∃ v, e = .returned v ∧ Own w' w.heap.size 3 1 encI v (comC c s) ∧ Below w.heap.size w w' := by
  have hm := hr.1
  have hmay := fun W (hW : Below w.heap.size w W) => dmays_any c s A k W (hr.below hW)
  have hW : ∃ W, (w.alloc (.cells #[.slice A c.W.length k, .int .u64 c.seed, .int .i64 c.epoch, .int .i64 c.num, .int .i64 c.den] 25)).alloc (.cells #[.int .i64 s] 3) = W := ⟨_, rfl⟩
  obtain ⟨W, hW⟩ := hW
  have hB : Below w.heap.size w W := by subst hW; exact ((Below.refl _ w).alloc (Nat.le_refl _) _).alloc (by simp) _
  have b0 : ConfAt W w.heap.size A k c := by subst hW; exact ha_lt (ha_at rfl)
  have b1 : W.heap[w.heap.size + 1]? = some (.cells #[.int .i64 s] 3 (0, 0)) := by subst hW; exact ha_at (by simp)
  obtain ⟨c0, c1, c2, c3, c4⟩ := blk5 b0
  obtain ⟨c5, f5⟩ := blk1 b1
  have hmay := hmay W hB
  unfold comC
  by_cases hok : MayC c ∧ SlotOk s
  · rw [if_pos hok]
    have hd : decide (MayC c ∧ SlotOk s) = true := by simpa using hok
    rw [hd] at hmay
    unfold cfgv at *
    have hlen := hok.1.len
    have hlen1 := hok.1.1.1
    have hep := hok.1.2
    have hsl := hok.2
    unfold SlotOk at hsl
    obtain ⟨q, hq⟩ : ∃ q, s / c.epoch = q := ⟨_, rfl⟩
    have htd : s.tdiv c.epoch = q := by rw [Int.tdiv_eq_ediv_of_nonneg (by omega)]; exact hq
    have hq0 : 0 ≤ q := by rw [← hq]; exact Int.ediv_nonneg (by omega) (by omega)
    have hq1 : q ≤ s := by rw [← hq]; exact Int.ediv_le_self _ (by omega)
    have hw1 : wrap64 q = q := w64_id hq0 (by omega)
    have hw2 : IntKind.u64.wrap q = q := u64_id hq0 (by omega)
    have hw3 : IntKind.i64.wrap q = q := by rw [IntKind.wrap_i64]; omega
    have hne : ¬ c.epoch = 0 := by omega
    have hok' := Lib.hid hok
    have hq' := Lib.hid hq
    clear hok hd hq hep hsl hq0 hq1
    go_enter Tryz.func28, Tryz.ntmps28
    go_wp2_with (go_at_call 55; refine hmay.mono ?_; clear hmay; rintro e w1 ⟨rfl, hb1⟩; have hB1 := below_call hB hB.size hb1; have b0' := bl_own hb1 b0; have b1' := bl_own hb1 b1; obtain ⟨d0, d1, d2, d3, d4⟩ := blk5 b0'; obtain ⟨d5, f5'⟩ := blk1 b1')
    clear c0 c1 c2 c3 c4 c5 f5
    go_region_held3 (fun W' => W'.cell? ⟨w.heap.size, 0, none⟩ = some (.slice A c.W.length k) ∧ W'.cell? ⟨w.heap.size, 1, none⟩ = some (.int .u64 c.seed) ∧ W'.cell? ⟨w.heap.size, 2, none⟩ = some (.int .i64 c.epoch) ∧ W'.cell? ⟨w.heap.size, 3, none⟩ = some (.int .i64 c.num) ∧ W'.cell? ⟨w.heap.size, 4, none⟩ = some (.int .i64 c.den) ∧ W'.cell? ⟨w.heap.size + 1, 0, none⟩ = some (.int .i64 s))
      (first | exact ck6 b0' b1' | exact ck6 (ha_lt b0') (ha_lt b1') | exact ck6 b0'' b1'' | exact ck6 (ha_lt b0'') (ha_lt b1'') | exact ck6 b0s b1s) ((first
        | (go_at_call 57; refine (step_any _ _ _).mono ?_; rintro e w' ⟨rfl, rfl⟩)
        | (go_at_call 56; (with_reducible refine (perm_any (mixStep c.seed q) c.W.length hlen1 (by omega) w1.drew).mono ?_); rintro e w2 ⟨v, rfl, ho, hb2⟩; obtain ⟨A2, k2, hv, hR2⟩ := ho.rd encI_len; rw [permTo_len] at hv; subst hv; have hQ2 := below_call (Below.refl _ w1).drew (Nat.le_refl _) hb2; have b0'' : ConfAt w2 w.heap.size A k c := bl_own hQ2 b0'; have b1'' := bl_own hQ2 b1')
        | (go_at_call 56; (with_reducible refine (perm_any (mixStep c.seed q) c.W.length hlen1 (by omega) (w1.alloc (.cells #[.slice none 0 0] 22)).drew).mono ?_); rintro e w2 ⟨v, rfl, ho, hb2⟩; obtain ⟨A2, k2, hv, hR2⟩ := ho.rd encI_len; rw [permTo_len] at hv; subst hv; have hbx := bl_own hb2 (ha_at (w := w1) (o := .cells #[.slice none 0 0] 22) (k := w1.heap.size) rfl); obtain ⟨i0, j0⟩ := blk1 hbx; have hQ2 := below_call (((Below.refl _ w1).alloc (Nat.le_refl _) (.cells #[.slice none 0 0] 22)).drew) (by simp) hb2; have b0'' : ConfAt w2 w.heap.size A k c := bl_own hQ2 b0'; have b1'' := bl_own hQ2 b1'; have hset := Boxed.set (.slice A2 c.W.length k2) hbx; have hgs := grown_setC w2 ⟨w1.heap.size, 0, none⟩ (.slice A2 c.W.length k2); have b0s : ConfAt (w2.setCell ⟨w1.heap.size, 0, none⟩ (.slice A2 c.W.length k2)) w.heap.size A k c := grown_own hgs b0'' (fun e => (by have h1 := Option.some.inj e; have h2 := lt_of_block b0'; change w.heap.size = w1.heap.size at h1; omega)); have b1s := grown_own hgs b1'' (fun e => (by have h1 := Option.some.inj e; have h2 := lt_of_block b1'; change w.heap.size + 1 = w1.heap.size at h1; omega)))))
    · have hfin : Below w.heap.size w (w2.alloc (.cells #[.slice A2 c.W.length k2] 22)) ∧ Rd 1 encI (w2.alloc (.cells #[.slice A2 c.W.length k2] 22)) A2 (permTo (mixStep c.seed q) c.W.length c.W.length) ∧ ConfAt (w2.alloc (.cells #[.slice A2 c.W.length k2] 22)) w.heap.size A k c ∧
          (w2.alloc (.cells #[.slice A2 c.W.length k2] 22)).heap[w.heap.size + 1]? = some (.cells #[.int .i64 s] 3 (0, 0)) ∧ (w2.alloc (.cells #[.slice A2 c.W.length k2] 22)).heap[w2.heap.size]? = some (.cells #[.slice A2 c.W.length k2] 22 (0, 0)) :=
        ⟨(below_call hB1 hB1.size hQ2).alloc (below_call hB1 hB1.size hQ2).size _, hR2.below ((Below.refl _ w2).alloc (Nat.le_refl _) _), ha_lt b0'', ha_lt b1'', ha_at rfl⟩
      generalize w2.alloc (.cells #[.slice A2 c.W.length k2] 22) = w3 at hfin ⊢
      obtain ⟨hB3, hR3, b03, b13, bx3⟩ := hfin
      clear hQ2 b0'' b1'' hb2 hR2 ho
      generalize w2.heap.size = Bx at bx3 ⊢
      obtain ⟨d0, d1, d2, d3, d4⟩ := blk5 b03
      go_wp2_with (first
        | (go_at_call 59; refine (those_any c A k w3 _ _).mono ?_; rintro e w4 ⟨rfl, hc4, hf4, hs4, hb4⟩; have hB4 := below_call hB3 hB3.size hb4; have hcol := collectI_any c.W.length _ _ (by omega) (comP c s) w4 (fun V hV => thoseK_cm c A A2 k k2 _ _ Bx w.heap.size (w.heap.size + 1) s _ w4 V hok'.out.1 hok'.out.2 (by rw [hq'.out]) (hr.below hB4) hc4 hf4 (bl_own hb4 b03) (bl_own hb4 bx3) (hR3.below hb4) (bl_own hb4 b13) hV); clear hs4 hf4)
        | (go_at_call 58; refine hcol.mono ?_; clear hcol; rintro e w5 ⟨v5, rfl, ho5, hb5⟩; obtain ⟨A5, k5, hv5, _⟩ := ho5.rd encI_len; subst hv5))
      go_ret
      exact ⟨.slice A5 (finI (those c.W.length (comP c s) c.W.length)).length k5, rfl, ownsRow_base_a ho5 hB4.size, below_call hB4 hB4.size hb5⟩
    · have hfin : Below w.heap.size w (w2.setCell ⟨w1.heap.size, 0, none⟩ (.slice A2 c.W.length k2)) ∧ Rd 1 encI (w2.setCell ⟨w1.heap.size, 0, none⟩ (.slice A2 c.W.length k2)) A2 (permTo (mixStep c.seed q) c.W.length c.W.length) ∧ ConfAt (w2.setCell ⟨w1.heap.size, 0, none⟩ (.slice A2 c.W.length k2)) w.heap.size A k c ∧
          (w2.setCell ⟨w1.heap.size, 0, none⟩ (.slice A2 c.W.length k2)).heap[w.heap.size + 1]? = some (.cells #[.int .i64 s] 3 (0, 0)) ∧ (w2.setCell ⟨w1.heap.size, 0, none⟩ (.slice A2 c.W.length k2)).heap[w1.heap.size]? = some (.cells #[.slice A2 c.W.length k2] 22 (0, 0)) := by
        have hle := hB1.size
        refine ⟨(below_call hB1 hB1.size hQ2).setCell (p := ⟨w1.heap.size, 0, none⟩) hle _, ?_, b0s, b1s, hset⟩
        obtain ⟨A3, k3, hv3, hR3⟩ := (ho.grown hgs (.inr (own_neI ho hbx (fun cur e => by cases e)).symm)).rd encI_len
        injection hv3 with e1
        subst e1
        exact hR3
      generalize w2.setCell ⟨w1.heap.size, 0, none⟩ (.slice A2 c.W.length k2) = w3 at hfin ⊢
      obtain ⟨hB3, hR3, b03, b13, bx3⟩ := hfin
      clear hQ2 b0'' b1'' hb2 hR2 ho hgs b0s b1s hset hbx i0 j0
      generalize w1.heap.size = Bx at bx3 ⊢
      obtain ⟨d0, d1, d2, d3, d4⟩ := blk5 b03
      go_wp2_with (first
        | (go_at_call 59; refine (those_any c A k w3 _ _).mono ?_; rintro e w4 ⟨rfl, hc4, hf4, hs4, hb4⟩; have hB4 := below_call hB3 hB3.size hb4; have hcol := collectI_any c.W.length _ _ (by omega) (comP c s) w4 (fun V hV => thoseK_cm c A A2 k k2 _ _ Bx w.heap.size (w.heap.size + 1) s _ w4 V hok'.out.1 hok'.out.2 (by rw [hq'.out]) (hr.below hB4) hc4 hf4 (bl_own hb4 b03) (bl_own hb4 bx3) (hR3.below hb4) (bl_own hb4 b13) hV); clear hs4 hf4)
        | (go_at_call 58; refine hcol.mono ?_; clear hcol; rintro e w5 ⟨v5, rfl, ho5, hb5⟩; obtain ⟨A5, k5, hv5, _⟩ := ho5.rd encI_len; subst hv5))
      go_ret
      exact ⟨.slice A5 (finI (those c.W.length (comP c s) c.W.length)).length k5, rfl, ownsRow_base_a ho5 hB4.size, below_call hB4 hB4.size hb5⟩
    · have hfin : Below w.heap.size w (w2.setCell ⟨w1.heap.size, 0, none⟩ (.slice A2 c.W.length k2)) ∧ Rd 1 encI (w2.setCell ⟨w1.heap.size, 0, none⟩ (.slice A2 c.W.length k2)) A2 (permTo (mixStep c.seed q) c.W.length c.W.length) ∧ ConfAt (w2.setCell ⟨w1.heap.size, 0, none⟩ (.slice A2 c.W.length k2)) w.heap.size A k c ∧
          (w2.setCell ⟨w1.heap.size, 0, none⟩ (.slice A2 c.W.length k2)).heap[w.heap.size + 1]? = some (.cells #[.int .i64 s] 3 (0, 0)) ∧ (w2.setCell ⟨w1.heap.size, 0, none⟩ (.slice A2 c.W.length k2)).heap[w1.heap.size]? = some (.cells #[.slice A2 c.W.length k2] 22 (0, 0)) := by
        have hle := hB1.size
        refine ⟨(below_call hB1 hB1.size hQ2).setCell (p := ⟨w1.heap.size, 0, none⟩) hle _, ?_, b0s, b1s, hset⟩
        obtain ⟨A3, k3, hv3, hR3⟩ := (ho.grown hgs (.inr (own_neI ho hbx (fun cur e => by cases e)).symm)).rd encI_len
        injection hv3 with e1
        subst e1
        exact hR3
      generalize w2.setCell ⟨w1.heap.size, 0, none⟩ (.slice A2 c.W.length k2) = w3 at hfin ⊢
      obtain ⟨hB3, hR3, b03, b13, bx3⟩ := hfin
      clear hQ2 b0'' b1'' hb2 hR2 ho hgs b0s b1s hset hbx i0 j0
      generalize w1.heap.size = Bx at bx3 ⊢
      obtain ⟨d0, d1, d2, d3, d4⟩ := blk5 b03
      go_wp2_with (first
        | (go_at_call 59; refine (those_any c A k w3 _ _).mono ?_; rintro e w4 ⟨rfl, hc4, hf4, hs4, hb4⟩; have hB4 := below_call hB3 hB3.size hb4; have hcol := collectI_any c.W.length _ _ (by omega) (comP c s) w4 (fun V hV => thoseK_cm c A A2 k k2 _ _ Bx w.heap.size (w.heap.size + 1) s _ w4 V hok'.out.1 hok'.out.2 (by rw [hq'.out]) (hr.below hB4) hc4 hf4 (bl_own hb4 b03) (bl_own hb4 bx3) (hR3.below hb4) (bl_own hb4 b13) hV); clear hs4 hf4)
        | (go_at_call 58; refine hcol.mono ?_; clear hcol; rintro e w5 ⟨v5, rfl, ho5, hb5⟩; obtain ⟨A5, k5, hv5, _⟩ := ho5.rd encI_len; subst hv5))
      go_ret
      exact ⟨.slice A5 (finI (those c.W.length (comP c s) c.W.length)).length k5, rfl, ownsRow_base_a ho5 hB4.size, below_call hB4 hB4.size hb5⟩
  · rw [if_neg hok]
    have hd : decide (MayC c ∧ SlotOk s) = false := by simpa using hok
    rw [hd] at hmay
    clear hok hd
    unfold cfgv at *
    go_enter Tryz.func28, Tryz.ntmps28
    go_wp2_with (go_at_call 55; refine hmay.mono ?_; clear hmay; rintro e w1 ⟨rfl, hb1⟩; have hB1 := below_call hB hB.size hb1)
    go_ret
    exact ⟨_, rfl, Own.nil _ _ _ _ _, hB1⟩
end Go.Proofs.YtaohkcdfjjiggaaGreat
/-! duty.In, walked. -/
namespace Go.Proofs.YtaohkcdfjjiggaaGreat
open Go.RowKit
set_option maxRecDepth 100000 in
set_option maxHeartbeats 1000000 in
theorem iindex_any (x : Int) (l : List Int) (A : Option Addr) (k : Nat) (w : World) (hr : Rd 1 encI w A l) :
    Calls Tryz.prog 91 #[.slice A l.length k, .int .i64 x] w fun e w' => (∃ j : Int, e = .returned (.int .i64 j) ∧ decide (j ≥ 0) = decide (x ∈ l)) ∧ w' = w := by
  have hm := hr.1
  go_enter Tryz.func91, Tryz.ntmps91
  go_wp2_with fail
  go_loopw [5, 8] (fun _ i wr => ∃ j : Nat, j ≤ l.length ∧ i = .int .i64 j ∧ Hid (x ∉ l.take j) ∧ wr = w) (fun _ i _ => l.length - (intOf i).toNat)
  case atStart => exact ⟨0, by omega, rfl, Lib.hid (by simp), rfl⟩
  case round =>
    obtain ⟨j, hj, rfl, hn, rfl⟩ := hrel
    by_cases hlt : j < l.length
    · obtain ⟨b, o, rfl, hbo, d⟩ := hr.atI hlt
      by_cases he : x = l[j]
      · have hin := Lib.hid (show x ∈ l by rw [he]; exact List.getElem_mem hlt)
        have heb : (x == l[j]) = true := by simpa using he
        clear he
        go_wp2_with fail
        go_ret
        refine ⟨⟨_, rfl, ?_⟩, rfl⟩
        simp [hin.out]
      · have heb : (x == l[j]) = false := by simpa using he
        have hst := Lib.hid (show x ∉ l.take (j + 1) by
          rw [← List.take_append_getElem hlt]
          intro h
          rcases List.mem_append.1 h with h | h
          · exact hn.out h
          · exact he (List.mem_singleton.1 h))
        clear he
        go_wp2_with fail
        go_roundw
        case rel => exact ⟨j + 1, hlt, by go_num, hst, trivial⟩
        case measure => simp [intOf]; omega
    · obtain rfl : j = l.length := by omega
      have hnn : x ∉ l := by simpa using hn.out
      have hnn' := Lib.hid hnn
      clear hnn
      go_wp2_with fail
      go_ret
      refine ⟨⟨_, rfl, ?_⟩, rfl⟩
      simp [hnn'.out]
set_option maxRecDepth 100000 in
theorem icontains_any (x : Int) (l : List Int) (A : Option Addr) (k : Nat) (w : World) (hr : Rd 1 encI w A l) :
    Calls Tryz.prog 54 #[.slice A l.length k, .int .i64 x] w fun e w' => e = .returned (.bool (decide (x ∈ l))) ∧ w' = w := by
  have hi := iindex_any x l A k w hr
  go_enter Tryz.func54, Tryz.ntmps54
  go_wp2_with (go_at_call 91; refine hi.mono ?_; clear hi; rintro e w' ⟨⟨j, rfl, hj⟩, rfl⟩)
  go_ret
  exact ⟨by first | rfl | rw [hj], rfl⟩
set_option maxRecDepth 100000 in
set_option maxHeartbeats 1000000 in
theorem din_any (c : Cfg) (s who : Int) (A : Option Addr) (k : Nat) (w : World) (hr : Rd 1 encI w A c.W) :
    Calls Tryz.prog 26 #[cfgv A k c, .int .i64 s, .int .i64 who] w fun e w' => e = .returned (.bool (decide (who ∈ comC c s))) ∧ Below w.heap.size w w' := by
  have hcm := fun W (hW : Below w.heap.size w W) => committee_any c s A k W (hr.below hW)
  obtain ⟨W, hW⟩ : ∃ W, w.alloc (.cells #[.slice A c.W.length k, .int .u64 c.seed, .int .i64 c.epoch, .int .i64 c.num, .int .i64 c.den] 25) = W := ⟨_, rfl⟩
  have hB : Below w.heap.size w W := by subst hW; exact (Below.refl _ w).alloc (Nat.le_refl _) _
  have b0 : W.heap[w.heap.size]? = some (.cells #[.slice A c.W.length k, .int .u64 c.seed, .int .i64 c.epoch, .int .i64 c.num, .int .i64 c.den] 25 (0, 0)) := by subst hW; exact ha_at rfl
  obtain ⟨c0, c1, c2, c3, c4⟩ := blk5 b0
  unfold cfgv at *
  go_enter Tryz.func26, Tryz.ntmps26
  go_wp2_with (first
    | (go_at_call 28; refine (hcm _ hB).mono ?_; clear hcm; rintro e w2 ⟨u, rfl, ho2, hb2⟩; have hB2 := below_call hB hB.size hb2; obtain ⟨A2, k2, hu, hR2⟩ := ho2.rd encI_len; subst hu)
    | (go_at_call 54; refine (icontains_any who (comC c s) A2 k2 w2 hR2).mono ?_; rintro e w3 ⟨rfl, hw⟩; subst hw))
  go_ret
  exact ⟨rfl, hB2⟩
end Go.Proofs.YtaohkcdfjjiggaaGreat
