/- What some weigh: marigoldref05.Weight. -/
import Derived.Test.YtlhndhgkoacilaaDuty1
namespace Go.Proofs.Ytlhndhgkoacilaa
open Go.RowKit
/-- What those below k weigh of which p is so. -/
def wsumTo (W : List Int) (p : Nat → Bool) : Nat → Int
  | 0 => 0
  | k + 1 => wsumTo W p k + (if p k then W[k]?.getD 0 else 0)
def weightC (c : Cfg) (who : List Int) : Int := if MayC c then wsumTo c.W (fun i => decide ((i : Int) ∈ who)) c.W.length else 0
def totalC (c : Cfg) : Int := if MayC c then wsumTo c.W (fun _ => true) c.W.length else 0
theorem wsumTo_bd {W : List Int} (h : ∀ x ∈ W, 0 ≤ x ∧ x ≤ 1099511627776) (p : Nat → Bool) (k : Nat) : 0 ≤ wsumTo W p k ∧ wsumTo W p k ≤ k * 1099511627776 := by
  induction k with
  | zero => simp [wsumTo]
  | succ k ih =>
    simp only [wsumTo]
    have hx : 0 ≤ W[k]?.getD 0 ∧ W[k]?.getD 0 ≤ 1099511627776 := by
      cases hk : W[k]? with
      | none => simp
      | some x => exact h x (List.mem_of_getElem? hk)
    split <;> omega
theorem MayC.W {c : Cfg} (h : MayC c) : ∀ x ∈ c.W, 0 ≤ x ∧ x ≤ 1099511627776 := h.1.2.2
theorem MayC.len {c : Cfg} (h : MayC c) : c.W.length ≤ 12 := h.1.2.1
set_option maxRecDepth 100000 in
set_option maxHeartbeats 2000000 in
theorem rweight_any (c : Cfg) (who : List Int) (A B : Option Addr) (k kb : Nat) (w : World) (hr : Rd 1 encI w A c.W) (hr2 : Rd 1 encI w B who) :
    Calls Try.prog 45 #[cfgv A k c, .slice B who.length kb] w fun e w' => e = .returned (.int .i64 (weightC c who)) ∧ Below w.heap.size w w' := by
  have hm := hr.1
  have hmay := fun W (hW : Below w.heap.size w W) => rcmay_any c A k W (hr.below hW)
  unfold cfgv at *
  have hW : ∃ W, w.alloc (.cells #[.slice A c.W.length k, .int .u64 c.seed, .int .i64 c.epoch, .int .i64 c.num, .int .i64 c.den] 25) = W := ⟨_, rfl⟩
  obtain ⟨W, hW⟩ := hW
  have hB : Below w.heap.size w W := by subst hW; exact (Below.refl _ w).alloc (Nat.le_refl _) _
  have hb : W.heap[w.heap.size]? = some (.cells #[.slice A c.W.length k, .int .u64 c.seed, .int .i64 c.epoch, .int .i64 c.num, .int .i64 c.den] 25 (0, 0)) := by subst hW; exact ha_at rfl
  have c0 := blk_cell hb 0
  have c1 := blk_cell hb 1
  have c2 := blk_cell hb 2
  have c3 := blk_cell hb 3
  have c4 := blk_cell hb 4
  by_cases hmc : MayC c
  · have hd : decide (MayC c) = true := by simpa using hmc
    rw [hd] at hmay
    have hres := Lib.hid (show weightC c who = wsumTo c.W (fun i => decide ((i : Int) ∈ who)) c.W.length by simp [weightC, hmc])
    have hbd := wsumTo_bd hmc.W (fun i => decide ((i : Int) ∈ who))
    have hlen := hmc.len
    have hWx := hmc.W
    obtain ⟨p, hp⟩ : ∃ p : Nat → Bool, (fun i : Nat => decide ((i : Int) ∈ who)) = p := ⟨_, rfl⟩
    rw [hp] at hres hbd
    have hpk : ∀ i : Nat, decide ((i : Int) ∈ who) = p i := fun i => by rw [← hp]
    clear hmc hd hp
    have hbd' := Lib.hid hbd
    have hWx' := Lib.hid hWx
    have hpk' := Lib.hid hpk
    clear hbd hWx hpk
    go_enter Try.func45, Try.ntmps45
    go_wp2_with (go_at_call 55; refine (hmay _ hB).mono ?_; rintro e w1 ⟨rfl, hb1⟩)
    have hB1 := below_call hB hB.size hb1
    have hbb := bl_own hb1 hb
    have e0 := blk_cell hbb 0
    clear hmay hb1 c0 c1 c2 c3 c4
    go_loop [5, 7, 8] (fun n i _x => ∃ i0 : Nat, i0 ≤ c.W.length ∧ i = .int .i64 i0 ∧ n = .int .i64 (wsumTo c.W p i0)) (fun _ i _ => c.W.length - (intOf i).toNat)
    case atStart => exact ⟨0, Nat.zero_le _, rfl, rfl⟩
    case round =>
      obtain ⟨i, hi, rfl, rfl⟩ := hrel
      have hbi := hbd'.out i
      obtain ⟨s, hs⟩ : ∃ s, wsumTo c.W p i = s := ⟨_, rfl⟩
      rw [hs] at hbi ⊢
      have hs' := Lib.hid hs
      clear hs
      obtain ⟨hb1, hb2⟩ := hbi
      have hb3 : s ≤ 13194139533312 := by omega
      by_cases hlt : i < c.W.length
      · obtain ⟨b, o, rfl, hbo, d⟩ := (hr.below hB1).atI hlt
        have hst : wsumTo c.W p (i + 1) = s + (if p i then c.W[i] else 0) := by simp [wsumTo, hs'.out, hlt]
        obtain ⟨hx0, hx1⟩ := hWx'.out _ (List.getElem_mem hlt)
        obtain ⟨x, hx⟩ : ∃ x, c.W[i] = x := ⟨_, rfl⟩
        rw [hx] at d hst hx0 hx1
        have hhas := rhas_any i who B kb w1 (hr2.below hB1)
        rw [hpk'.out i] at hhas
        clear hx
        cases hpi : p i with
        | true =>
          rw [hpi] at hhas hst
          have hst' := Lib.hid hst
          clear hst hpi
          go_wp2_with (go_at_call 56; refine hhas.mono ?_; clear hhas; rintro e w' ⟨rfl, rfl⟩)
          go_round
          case rel => exact ⟨i + 1, hlt, by go_num, by rw [hst'.out]; go_num⟩
          case measure => simp [intOf]; omega
        | false =>
          rw [hpi] at hhas hst
          have hst' := Lib.hid hst
          clear hst hpi
          go_wp2_with (go_at_call 56; refine hhas.mono ?_; clear hhas; rintro e w' ⟨rfl, rfl⟩)
          go_round
          case rel => exact ⟨i + 1, hlt, by go_num, by rw [hst'.out]; simp⟩
          case measure => simp [intOf]; omega
      · obtain rfl : i = c.W.length := by omega
        go_wp2_with fail
        go_ret
        exact ⟨ret_int (by rw [hres.out, hs'.out]), hB1⟩
  · have hd : decide (MayC c) = false := by simpa using hmc
    rw [hd] at hmay
    have hres := Lib.hid (show weightC c who = 0 by simp [weightC, hmc])
    clear hmc hd
    go_enter Try.func45, Try.ntmps45
    go_wp2_with (go_at_call 55; refine (hmay _ hB).mono ?_; rintro e w1 ⟨rfl, hb1⟩)
    have hB1 := below_call hB hB.size hb1
    have hbb := bl_own hb1 hb
    have e0 := blk_cell hbb 0
    clear hmay hb1 c0 c1 c2 c3 c4
    refine wp_loop_rounds 1 ?_
    rw [rounds_succ]
    go_wp2_with fail
    all_goals (go_ret; exact ⟨ret_int hres.out.symm, hB1⟩)
end Go.Proofs.Ytlhndhgkoacilaa
