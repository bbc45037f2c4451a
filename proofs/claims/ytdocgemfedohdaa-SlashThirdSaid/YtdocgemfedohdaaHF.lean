/- HF: several texts in one. -/
import Derived.Test.YtdocgemfedohdaaHE
import Derived.Test.YtdocgemfedohdaaHD
import Derived.Test.YtdocgemfedohdaaHC
/-! marigoldref12.Guilty, walked. -/
namespace Go.Proofs.Ytdocgemfedohdaa
open Go.RowKit
theorem any_snoc {α : Type} {p : α → Bool} {xs : List α} {k : Nat} (hlt : k < xs.length) : (xs.take (k + 1)).any p = ((xs.take k).any p || p xs[k]) := by
  rw [← List.take_append_getElem hlt, List.any_append]
  simp
theorem i64_pred (m : Nat) (h : m ≤ 100000) : IntKind.i64.wrap (((m + 1 : Nat) : Int) - 1) = (m : Int) := by
  have : (((m + 1 : Nat) : Int) - 1) = (m : Int) := by omega
  rw [this]
  exact Go.IntWalk.i64_in _ (by omega)
end Go.Proofs.Ytdocgemfedohdaa
/-! Chapter 12's example, and SlashTells, walked. -/
namespace Go.Proofs.Ytdocgemfedohdaa
open Go.RowKit
def aw1 : Lnk := ⟨1, ⟨0, ⟨0, 0⟩⟩, ⟨3, ⟨0, 0⟩⟩⟩
def aw2 : Lnk := ⟨1, ⟨1, ⟨0, 0⟩⟩, ⟨2, ⟨0, 0⟩⟩⟩
theorem aw_pair : Pair aw1 aw2 := by decide
theorem aw_pair2 : Pair aw2 aw1 := by decide
theorem aw_guilty : guiltyL [aw1, aw2] = [1] := by
  refine (guiltyL_eq (v := [aw1, aw2]) (g := [1]) ⟨⟨by simp, trivial⟩, fun f => ?_⟩).symm
  rw [List.mem_singleton]
  constructor
  · rintro rfl
    exact ⟨aw1, by simp, aw2, by simp, aw_pair, rfl⟩
  · rintro ⟨x, hx, y, hy, _, rfl⟩
    simp only [List.mem_cons, List.not_mem_nil, or_false] at hx
    rcases hx with rfl | rfl <;> rfl
theorem not_pair (a : Lnk) : decide (Pair a a) = false := by simpa using pair_irrefl a
set_option maxRecDepth 100000 in
set_option maxHeartbeats 2000000 in
theorem awake_any (w : World) : Calls Try.prog 26 #[] w fun e w' => e = .returned (.bool true) ∧ Below w.heap.size w w' := by
  have hp1 := fun V => pair_any aw1 aw2 V
  have hp2 := fun V => pair_any aw2 aw1 V
  have hp3 := fun V => pair_any aw1 aw1 V
  rw [show decide (Pair aw1 aw2) = true from by simpa using aw_pair] at hp1
  rw [show decide (Pair aw2 aw1) = true from by simpa using aw_pair2] at hp2
  rw [not_pair] at hp3
  dsimp only [lnkv, aw1, aw2] at hp1 hp2 hp3
  have hW : ∃ W, ((w.alloc (.cells #[.int .i64 1, .int .i64 0, .int .u64 0, .int .u64 0, .int .i64 3, .int .u64 0, .int .u64 0] 33)).alloc (.cells #[.int .i64 1, .int .i64 1, .int .u64 0, .int .u64 0, .int .i64 2, .int .u64 0, .int .u64 0] 33)).alloc (.cells #[.int .i64 1, .int .i64 0, .int .u64 0, .int .u64 0, .int .i64 3, .int .u64 0, .int .u64 0, .int .i64 1, .int .i64 1, .int .u64 0, .int .u64 0, .int .i64 2, .int .u64 0, .int .u64 0] 33) = W := ⟨_, rfl⟩
  obtain ⟨W, hW⟩ := hW
  have hB : Below w.heap.size w W := by subst hW; exact ((((Below.refl _ w).alloc (by simp) _).alloc (by simp) _).alloc (by simp; omega) _)
  have b0 : W.heap[w.heap.size]? = some (.cells #[.int .i64 1, .int .i64 0, .int .u64 0, .int .u64 0, .int .i64 3, .int .u64 0, .int .u64 0] 33 (0, 0)) := by subst hW; exact ha_lt (ha_lt (ha_at rfl))
  have b1 : W.heap[w.heap.size + 1]? = some (.cells #[.int .i64 1, .int .i64 1, .int .u64 0, .int .u64 0, .int .i64 2, .int .u64 0, .int .u64 0] 33 (0, 0)) := by subst hW; exact ha_lt (ha_at (by simp))
  have hR : Rd 7 encLnk W (some ⟨w.heap.size + 1 + 1, 0, none⟩) [aw1, aw2] := by
    subst hW
    exact Rd_flat (k := 7) (enc := encLnk) (xs := [aw1, aw2]) encLnk_len (by decide) (ha_at (by simp)) rfl
  have hg := guilty_any [aw1, aw2] _ 2 W hR (Nat.le_refl _) (by decide) (by decide)
  rw [aw_guilty, show [aw1, aw2].length = 2 from rfl, ← hW] at hg
  obtain ⟨c0, c1, c2, c3, c4, c5, c6⟩ := blkL b0
  have hW' := Lib.hid hW
  clear hW
  go_enter Try.func26, Try.ntmps26
  go_wp2_with (first
    | (go_at_call 27; with_reducible refine hg.mono ?_; clear hg; rintro e w1 ⟨u, rfl, ho, hb1⟩; rw [hW'.out] at ho hb1; have hB1 := below_call hB hB.size hb1; have g0 := bl_own hb1 b0; have g1 := bl_own hb1 b1; obtain ⟨A1, k1, hu, hR1⟩ := ho.rd encI_len; subst hu; obtain ⟨d0, d1, d2, d3, d4, d5, d6⟩ := blkL g0; obtain ⟨e0, e1, e2, e3, e4, e5, e6⟩ := blkL g1)
    | (go_at_call 49; with_reducible refine (hp1 _).mono ?_; clear hp1; rintro e w2 ⟨rfl, hb2⟩; have hB2 := below_call hB1 hB1.size hb2; have g2 := bl_own hb2 g0; have g3 := bl_own hb2 g1; obtain ⟨d0, d1, d2, d3, d4, d5, d6⟩ := blkL g2; obtain ⟨e0, e1, e2, e3, e4, e5, e6⟩ := blkL g3)
    | (go_at_call 49; with_reducible refine (hp2 _).mono ?_; clear hp2; rintro e w3 ⟨rfl, hb3⟩; have hB3 := below_call hB2 hB2.size hb3; obtain ⟨d0, d1, d2, d3, d4, d5, d6⟩ := blkL (bl_own hb3 g2))
    | (go_at_call 49; with_reducible refine (hp3 _).mono ?_; clear hp3; rintro e w4 ⟨rfl, hb4⟩; have hB4 := below_call hB3 hB3.size hb4; obtain ⟨bz, oz, hz, _, z0⟩ := (hR1.below (hb2.trans ((hb3.trans (hb4.mono hb3.size)).mono hb2.size))).atI (i := 0) (by decide); subst hz; rw [Nat.add_zero] at z0; simp only [List.getElem_cons_zero] at z0))
  go_ret
  exact ⟨rfl, hB4⟩
end Go.Proofs.Ytdocgemfedohdaa
/-! What some weigh: marigoldref05.Weight. -/
namespace Go.Proofs.Ytdocgemfedohdaa
open Go.RowKit
/-- What those below k weigh of which p is so. -/
def wsumTo (W : List Int) (p : Nat → Bool) : Nat → Int
  | 0 => 0
  | k + 1 => wsumTo W p k + (if p k then W[k]?.getD 0 else 0)
def weightC (c : Cfg) (who : List Int) : Int := if MayC c then wsumTo c.W (fun i => decide ((i : Int) ∈ who)) c.W.length else 0
def totalC (c : Cfg) : Int := if MayC c then wsumTo c.W (fun _ => true) c.W.length else 0
theorem wsumTo_bd {W : List Int} (h : ∀ x ∈ W, 0 ≤ x ∧ x ≤ 1099511627776) (p : Nat → Bool) (k : Nat) : 0 ≤ wsumTo W p k ∧ wsumTo W p k ≤ k * 1099511627776 := by
  induction k with
  | zero => simp [wsumTo]
  | succ k ih =>
    simp only [wsumTo]
    have hx : 0 ≤ W[k]?.getD 0 ∧ W[k]?.getD 0 ≤ 1099511627776 := by
      cases hk : W[k]? with
      | none => simp
      | some x => exact h x (List.mem_of_getElem? hk)
    split <;> omega
theorem MayC.W {c : Cfg} (h : MayC c) : ∀ x ∈ c.W, 0 ≤ x ∧ x ≤ 1099511627776 := h.1.2.2
theorem MayC.len {c : Cfg} (h : MayC c) : c.W.length ≤ 12 := h.1.2.1
set_option maxRecDepth 100000 in
set_option maxHeartbeats 2000000 in
theorem rweight_any (c : Cfg) (who : List Int) (A B : Option Addr) (k kb : Nat) (w : World) (hr : Rd 1 encI w A c.W) (hr2 : Rd 1 encI w B who) :
    Calls Try.prog 59 #[cfgv A k c, .slice B who.length kb] w fun e w' => e = .returned (.int .i64 (weightC c who)) ∧ Below w.heap.size w w' := by
  have hm := hr.1
  have hmay := fun W (hW : Below w.heap.size w W) => rcmay_any c A k W (hr.below hW)
  unfold cfgv at *
  have hW : ∃ W, w.alloc (.cells #[.slice A c.W.length k, .int .u64 c.seed, .int .i64 c.epoch, .int .i64 c.num, .int .i64 c.den] 25) = W := ⟨_, rfl⟩
  obtain ⟨W, hW⟩ := hW
  have hB : Below w.heap.size w W := by subst hW; exact (Below.refl _ w).alloc (Nat.le_refl _) _
  have hb : W.heap[w.heap.size]? = some (.cells #[.slice A c.W.length k, .int .u64 c.seed, .int .i64 c.epoch, .int .i64 c.num, .int .i64 c.den] 25 (0, 0)) := by subst hW; exact ha_at rfl
  have c0 := blk_cell hb 0
  have c1 := blk_cell hb 1
  have c2 := blk_cell hb 2
  have c3 := blk_cell hb 3
  have c4 := blk_cell hb 4
  by_cases hmc : MayC c
  · have hd : decide (MayC c) = true := by simpa using hmc
    rw [hd] at hmay
    have hres := Lib.hid (show weightC c who = wsumTo c.W (fun i => decide ((i : Int) ∈ who)) c.W.length by simp [weightC, hmc])
    have hbd := wsumTo_bd hmc.W (fun i => decide ((i : Int) ∈ who))
    have hlen := hmc.len
    have hWx := hmc.W
    obtain ⟨p, hp⟩ : ∃ p : Nat → Bool, (fun i : Nat => decide ((i : Int) ∈ who)) = p := ⟨_, rfl⟩
    rw [hp] at hres hbd
    have hpk : ∀ i : Nat, decide ((i : Int) ∈ who) = p i := fun i => by rw [← hp]
    clear hmc hd hp
    have hbd' := Lib.hid hbd
    have hWx' := Lib.hid hWx
    have hpk' := Lib.hid hpk
    clear hbd hWx hpk
    go_enter Try.func59, Try.ntmps59
    go_wp2_with (go_at_call 29; refine (hmay _ hB).mono ?_; rintro e w1 ⟨rfl, hb1⟩)
    have hB1 := below_call hB hB.size hb1
    have hbb := bl_own hb1 hb
    have e0 := blk_cell hbb 0
    clear hmay hb1 c0 c1 c2 c3 c4
    go_loop [5, 7, 8] (fun n i _x => ∃ i0 : Nat, i0 ≤ c.W.length ∧ i = .int .i64 i0 ∧ n = .int .i64 (wsumTo c.W p i0)) (fun _ i _ => c.W.length - (intOf i).toNat)
    case atStart => exact ⟨0, Nat.zero_le _, rfl, rfl⟩
    case round =>
      obtain ⟨i, hi, rfl, rfl⟩ := hrel
      have hbi := hbd'.out i
      obtain ⟨s, hs⟩ : ∃ s, wsumTo c.W p i = s := ⟨_, rfl⟩
      rw [hs] at hbi ⊢
      have hs' := Lib.hid hs
      clear hs
      obtain ⟨hb1, hb2⟩ := hbi
      have hb3 : s ≤ 13194139533312 := by omega
      by_cases hlt : i < c.W.length
      · obtain ⟨b, o, rfl, hbo, d⟩ := (hr.below hB1).atI hlt
        have hst : wsumTo c.W p (i + 1) = s + (if p i then c.W[i] else 0) := by simp [wsumTo, hs'.out, hlt]
        obtain ⟨hx0, hx1⟩ := hWx'.out _ (List.getElem_mem hlt)
        obtain ⟨x, hx⟩ : ∃ x, c.W[i] = x := ⟨_, rfl⟩
        rw [hx] at d hst hx0 hx1
        have hhas := rhas_any i who B kb w1 (hr2.below hB1)
        rw [hpk'.out i] at hhas
        clear hx
        cases hpi : p i with
        | true =>
          rw [hpi] at hhas hst
          have hst' := Lib.hid hst
          clear hst hpi
          go_wp2_with (go_at_call 81; refine hhas.mono ?_; clear hhas; rintro e w' ⟨rfl, rfl⟩)
          go_round
          case rel => exact ⟨i + 1, hlt, by go_num, by rw [hst'.out]; go_num⟩
          case measure => simp [intOf]; omega
        | false =>
          rw [hpi] at hhas hst
          have hst' := Lib.hid hst
          clear hst hpi
          go_wp2_with (go_at_call 81; refine hhas.mono ?_; clear hhas; rintro e w' ⟨rfl, rfl⟩)
          go_round
          case rel => exact ⟨i + 1, hlt, by go_num, by rw [hst'.out]; simp⟩
          case measure => simp [intOf]; omega
      · obtain rfl : i = c.W.length := by omega
        go_wp2_with fail
        go_ret
        exact ⟨ret_int (by rw [hres.out, hs'.out]), hB1⟩
  · have hd : decide (MayC c) = false := by simpa using hmc
    rw [hd] at hmay
    have hres := Lib.hid (show weightC c who = 0 by simp [weightC, hmc])
    clear hmc hd
    go_enter Try.func59, Try.ntmps59
    go_wp2_with (go_at_call 29; refine (hmay _ hB).mono ?_; rintro e w1 ⟨rfl, hb1⟩)
    have hB1 := below_call hB hB.size hb1
    have hbb := bl_own hb1 hb
    have e0 := blk_cell hbb 0
    clear hmay hb1 c0 c1 c2 c3 c4
    refine wp_loop_rounds 1 ?_
    rw [rounds_succ]
    go_wp2_with fail
    all_goals (go_ret; exact ⟨ret_int hres.out.symm, hB1⟩)
end Go.Proofs.Ytdocgemfedohdaa
