/- array.Top, Insert and Move, walked. -/
import Derived.Test.YtibmfpcbjopojaaArrJ
namespace Go.Proofs.Ytibmfpcbjopojaa
open Go.RowKit
theorem head_lt {a : List Item} (hp : ParOk a) (hs : Settled a) : ∀ i, i < a.length → ∃ h : Nat, (itm a i).head = h ∧ i ≤ h ∧ h < a.length ∧ best a h = -1 := by
  have key : ∀ m i, i < a.length → a.length ≤ i + m → ∃ h : Nat, (itm a i).head = h ∧ i ≤ h ∧ h < a.length ∧ best a h = -1 := by
    intro m
    induction m with
    | zero => intro i h1 h2; omega
    | succ m ih =>
      intro i h1 h2
      obtain ⟨_, hb, hh⟩ := hs i h1
      rw [hh]
      unfold headOf
      rcases bestTo_spec a i a.length with h | ⟨j, j1, j2, j3⟩
      · have h' : best a i = -1 := h
        rw [if_pos h']
        exact ⟨i, rfl, Nat.le_refl _, h1, h'⟩
      · have h' : best a i = j := j3
        rw [h', if_neg (by omega)]
        simp only [Int.toNat_natCast]
        have := (hp j j1).2
        obtain ⟨q, q1, q2, q3, q4⟩ := ih j j1 (by omega)
        exact ⟨q, q1, by omega, q3, q4⟩
  intro i hi
  exact key a.length i hi (by omega)
def topP (a : List Item) : ID := if best a (-1) = -1 then zid else (itm a (itm a (best a (-1)).toNat).head.toNat).id
def topA (a : List Item) : ID := if MayA a then topP a else zid
theorem low_none {a : List Item} : ∀ k : Nat, (k : Int) ≤ -1 → (itm a k).par ≠ -1 := fun k hk => by omega
def insE (a : List Item) (id par : ID) : Int := if ¬ MayA a ∨ id = zid then 1 else if findI a id ≠ -1 then 4 else if findI a par = -1 ∧ par ≠ zid then 3 else if a.length = 60 then 7 else 0
def InsP (a : List Item) (id par : ID) (l : List Item) : Prop := (insE a id par ≠ 0 → l = []) ∧ (insE a id par = 0 → Settled l ∧ SameSk l (a ++ [newItem id (findI a par) a.length]))
def mvE (a : List Item) (id : ID) (y : Int) : Int := if ¬ MayA a then 1 else if findI a id = -1 then 3 else if y < -1125899906842624 ∨ y > 1125899906842624 ∨ (itm a (findI a id).toNat).own + y < 0 ∨ (itm a (findI a id).toNat).own + y > 1125899906842624 then 1 else 0
def moved (a : List Item) (k : Nat) (y : Int) : List Item := a.set k { itm a k with own := (itm a k).own + y }
def MvP (a : List Item) (id : ID) (y : Int) (l : List Item) : Prop := (mvE a id y ≠ 0 → l = []) ∧ (mvE a id y = 0 → Settled l ∧ SameSk l (moved a (findI a id).toNat y))
theorem J_moved {a b : List Item} {k : Nat} {y : Int} (hk : k < a.length) (h : J a k y (-1) b) : SameSk b (moved a k y) := by
  refine ⟨by rw [h.len]; simp [moved], fun i hi => ?_⟩
  obtain ⟨s1, s2, s3⟩ := h.sk i hi
  unfold moved
  rw [itm_set _ _ _ _ hk, s1, s2, s3]
  by_cases e : i = k
  · subst e; rw [if_pos rfl, if_pos rfl]; exact ⟨rfl, rfl, rfl⟩
  · rw [if_neg e, if_neg e]; exact ⟨rfl, rfl, by omega⟩
theorem J_same {a b : List Item} {k : Nat} (h : J a k 0 (-1) b) : SameSk b a := by
  refine ⟨h.len, fun i hi => ?_⟩
  obtain ⟨s1, s2, s3⟩ := h.sk i hi
  refine ⟨s1, s2, ?_⟩
  rw [s3]
  split <;> omega
theorem MayA.w {a : List Item} (h : MayA a) : ∀ k, k < a.length → (-1152921504606846976 ≤ (itm a k).w ∧ (itm a k).w ≤ 1152921504606846976) := fun k hk => by
  have hl := h.1
  have := w_bound h.2.1.parOk (fun i hi => (h.2.2 i hi).1) (fun i hi => (h.2.1 i hi).2.2.2.2) hk
  omega
theorem may_nil : MayA [] := ⟨by simp, fun k hk => by simp at hk, fun k hk => by simp at hk⟩
set_option maxRecDepth 100000 in
set_option maxHeartbeats 1000000 in
theorem top_any (a : List Item) (A : Option Addr) (c : Nat) (w : World) (hr : Rd 7 encItem w A a) :
    Calls Try.prog 30 #[.slice A a.length c] w fun e w' => e = .returned (idv (topA a)) ∧ Below w.heap.size w w' := by
  have hm := hr.1
  have hWs : ∃ W, w.alloc (.cells #[.int .u64 0, .int .u64 0] 29) = W := ⟨_, rfl⟩
  obtain ⟨W, hW⟩ := hWs
  have hB : Below w.heap.size w W := by subst hW; exact (Below.refl _ w).alloc (Nat.le_refl _) _
  have b0 : W.heap[w.heap.size]? = some (.cells #[.int .u64 0, .int .u64 0] 29 (0, 0)) := by subst hW; exact ha_at rfl
  have hmay := may10_any a A c W (hr.below hB)
  have hta := Lib.hid (show topA a = if MayA a then topP a else zid from rfl)
  obtain ⟨t, ht⟩ : ∃ t, topA a = t := ⟨_, rfl⟩
  rw [ht] at hta ⊢
  clear ht
  by_cases hM : MayA a
  · rw [decide_eq_true hM] at hmay
    have hta2 := Lib.hid (hta.out.trans (if_pos hM))
    have hp := hM.2.1.parOk
    have hs := hM.2.2
    have hbest := fun V (hV : Below w.heap.size w V) => best_any a (-1) (by omega) (by omega) low_none A c V (hr.below hV)
    have htp := Lib.hid (show topP a = if best a (-1) = -1 then zid else (itm a (itm a (best a (-1)).toNat).head.toNat).id from rfl)
    rcases bestTo_spec a (-1) a.length with h | ⟨j, j1, j2, j3⟩
    · have h' : best a (-1) = -1 := h
      have e1 : t = zid := by rw [hta2.out, htp.out, if_pos h']
      rw [h'] at hbest
      clear hta hta2 htp h h' hs hM
      subst e1
      go_enter Try.func30, Try.ntmps30
      go_wp2_with (first
        | (go_at_call 58; refine hmay.mono ?_; clear hmay; rintro e w1 ⟨rfl, hb1⟩; have hB1 := below_call hB hB.size hb1; have b1 := bl_own hb1 b0)
        | (go_at_call 62; refine (hbest _ hB1).mono ?_; clear hbest; rintro e w2 ⟨rfl, hb2⟩; have hB2 := below_call hB1 hB1.size hb2; obtain ⟨c0, c1, f0, f1⟩ := blk2 (bl_own hb2 b1)))
      refine bodyPost_ret (v := idv zid) ?_ rfl ⟨rfl, ?_⟩
      · simp [results, Try.results30, go_sem, c0, c1, idv]
      · exact (hB2.setCell (p := ⟨w.heap.size, 0, none⟩) (by simp) _).setCell (p := ⟨w.heap.size, 1, none⟩) (by simp) _
    · have h' : best a (-1) = j := j3
      obtain ⟨q, q1, q2, q3, q4⟩ := head_lt hp hs j j1
      have e1 : t = (itm a q).id := by
        rw [hta2.out, htp.out, if_neg (by omega), h']
        simp only [Int.toNat_natCast]
        rw [q1]
        simp only [Int.toNat_natCast]
      rw [h'] at hbest
      clear hta hta2 htp h' hs hM
      subst e1
      go_enter Try.func30, Try.ntmps30
      go_wp2_with (first
        | (go_at_call 58; refine hmay.mono ?_; clear hmay; rintro e w1 ⟨rfl, hb1⟩; have hB1 := below_call hB hB.size hb1; have b1 := bl_own hb1 b0)
        | (go_at_call 62; refine (hbest _ hB1).mono ?_; clear hbest; rintro e w2 ⟨rfl, hb2⟩; have hB2 := below_call hB1 hB1.size hb2; obtain ⟨c0, c1, f0, f1⟩ := blk2 (bl_own hb2 b1); obtain ⟨bb, oo, rfl, _, _, _, _, _, _, _, d6⟩ := (hr.below hB2).atItem j1; obtain ⟨bb2, oo2, he, _, d0, d1, _, _, _, _, _⟩ := (hr.below hB2).atItem q3; cases he; rw [q1] at d6))
      refine bodyPost_ret (v := idv (itm a q).id) ?_ rfl ⟨rfl, ?_⟩
      · simp [results, Try.results30, go_sem, c0, c1, idv]
      · exact (hB2.setCell (p := ⟨w.heap.size, 0, none⟩) (by simp) _).setCell (p := ⟨w.heap.size, 1, none⟩) (by simp) _
  · rw [decide_eq_false hM] at hmay
    have e1 : t = zid := hta.out.trans (if_neg hM)
    clear hta hM
    subst e1
    go_enter Try.func30, Try.ntmps30
    go_wp2_with (go_at_call 58; refine hmay.mono ?_; clear hmay; rintro e w1 ⟨rfl, hb1⟩; have hB1 := below_call hB hB.size hb1; obtain ⟨c0, c1, f0, f1⟩ := blk2 (bl_own hb1 b0))
    refine bodyPost_ret (v := idv zid) ?_ rfl ⟨rfl, ?_⟩
    · simp [results, Try.results30, go_sem, c0, c1, idv]
    · exact (hB1.setCell (p := ⟨w.heap.size, 0, none⟩) (by simp) _).setCell (p := ⟨w.heap.size, 1, none⟩) (by simp) _
end Go.Proofs.Ytibmfpcbjopojaa
