/- GQ: several texts in one. -/
import Derived.Test.YtdocgemfedohdaaGreatGP
/-! Who is for a sure block: the plain law of QuickGood. -/
namespace Go.Proofs.YtdocgemfedohdaaGreat
def wAt (c : Cfg) (y : Int) : Int := c.W[y.toNat]?.getD 0
theorem wAt_bd {c : Cfg} (h : MayC c) (y : Int) : 0 ≤ wAt c y ∧ wAt c y ≤ 1099511627776 := by
  unfold wAt
  cases hy : c.W[y.toNat]? with
  | none => simp
  | some z => exact h.W z (List.mem_of_getElem? hy)
theorem sumL_bd2 {α : Type} {f : α → Int} {M : Int} (hM : ∀ y, 0 ≤ f y ∧ f y ≤ M) : ∀ L : List α, 0 ≤ sumL f L ∧ sumL f L ≤ L.length * M
  | [] => by simp [sumL]
  | y :: L => by
    have h1 := hM y
    have h2 := sumL_bd2 hM L
    show 0 ≤ f y + sumL f L ∧ f y + sumL f L ≤ _
    have h3 : ((y :: L).length : Int) * M = L.length * M + M := by
      rw [List.length_cons, Int.natCast_add, Int.add_mul]; simp
    omega
theorem sumL_plus {α : Type} (f g : α → Int) : ∀ L : List α, sumL (fun y => f y + g y) L = sumL f L + sumL g L
  | [] => rfl
  | y :: L => by
    show f y + g y + sumL _ L = f y + sumL f L + (g y + sumL g L)
    rw [sumL_plus f g L]
    omega
theorem sumL_has {α : Type} {f : α → Int} (h : ∀ y, 0 ≤ f y) : ∀ {L : List α} {x : α}, x ∈ L → f x ≤ sumL f L
  | y :: L, x, hx => by
    have h0 : 0 ≤ sumL f L := by
      clear hx
      induction L with
      | nil => exact Int.le_refl _
      | cons z L ih => have := h z; show 0 ≤ f z + sumL f L; omega
    show f x ≤ f y + sumL f L
    rcases List.mem_cons.1 hx with rfl | hx
    · omega
    · have := sumL_has h hx
      have := h y
      omega
theorem wsum_cons {W : List Int} (h : ∀ x ∈ W, 0 ≤ x ∧ x ≤ 1099511627776) (a : Int) (L : List Int) : ∀ k : Nat,
    wsumTo W (fun i => decide ((i : Int) ∈ a :: L)) k ≤ (if 0 ≤ a ∧ a < k then W[a.toNat]?.getD 0 else 0) + wsumTo W (fun i => decide ((i : Int) ∈ L)) k
  | 0 => by
    rw [if_neg (by omega)]
    exact Int.le_refl _
  | k + 1 => by
    have ih := wsum_cons h a L k
    have hk : 0 ≤ W[k]?.getD 0 := by
      cases hy : W[k]? with
      | none => simp
      | some z => exact (h z (List.mem_of_getElem? hy)).1
    show wsumTo W _ k + (if decide ((k : Int) ∈ a :: L) = true then W[k]?.getD 0 else 0) ≤ _ + (wsumTo W _ k + (if decide ((k : Int) ∈ L) = true then W[k]?.getD 0 else 0))
    by_cases hak : a = (k : Int)
    · subst hak
      rw [if_neg (by omega)] at ih
      rw [if_pos (show (0 : Int) ≤ k ∧ (k : Int) < (k + 1 : Nat) by omega), if_pos (by simp), Int.toNat_natCast]
      split <;> omega
    · have e1 : (0 ≤ a ∧ a < ((k + 1 : Nat) : Int)) ↔ (0 ≤ a ∧ a < (k : Int)) := by omega
      simp only [e1]
      have e2 : ((k : Int) ∈ a :: L) ↔ (k : Int) ∈ L := by
        rw [List.mem_cons]
        exact ⟨fun h => h.elim (fun e => absurd e.symm hak) id, .inr⟩
      simp only [e2]
      omega
theorem weightC_sum {c : Cfg} (h : MayC c) : ∀ L : List Int, weightC c L ≤ sumL (wAt c) L
  | [] => by rw [weightC_nil]; exact Int.le_refl _
  | a :: L => by
    have ih := weightC_sum h L
    have h1 := wsum_cons h.W a L c.W.length
    have h2 := (wAt_bd h a).1
    show weightC c (a :: L) ≤ wAt c a + sumL (wAt c) L
    unfold weightC at ih ⊢
    rw [if_pos h] at ih ⊢
    have h3 : (if 0 ≤ a ∧ a < (c.W.length : Int) then c.W[a.toNat]?.getD 0 else 0) ≤ wAt c a := by
      split
      · exact Int.le_refl _
      · exact h2
    omega
theorem sumL_filter {α : Type} {f g : α → Int} {p : α → Bool} (hg : ∀ y, 0 ≤ g y) (h : ∀ y, p y = true → f y ≤ g y) : ∀ L : List α, sumL f (L.filter p) ≤ sumL g L
  | [] => Int.le_refl _
  | y :: L => by
    have ih := sumL_filter hg h L
    have h1 := hg y
    show sumL f (List.filter p (y :: L)) ≤ g y + sumL g L
    by_cases hp : p y = true
    · rw [List.filter_cons_of_pos hp]
      have := h y hp
      show f y + sumL f _ ≤ _
      omega
    · rw [List.filter_cons_of_neg hp]
      omega
theorem weightC_le {c : Cfg} (h : MayC c) {f : Int → Int} {L cm : List Int} (hf : ∀ y, 0 ≤ f y) (hL : ∀ i ∈ L, i ∈ cm ∧ wAt c i ≤ f i) : weightC c L ≤ sumL f cm := by
  have h1 : weightC c L ≤ weightC c (cm.filter fun y => decide (y ∈ L)) := weightC_mono c fun i hi => List.mem_filter.2 ⟨(hL i hi).1, decide_eq_true hi⟩
  have h2 := weightC_sum h (cm.filter fun y => decide (y ∈ L))
  have h3 := sumL_filter (f := wAt c) (p := fun y => decide (y ∈ L)) hf (fun y hy => (hL y (of_decide_eq_true hy)).2) cm
  omega
/-- What the loops add. -/
def wkF (c : Cfg) (bad : List Int) (y : Int) : Int := if y ∈ bad then wAt c y else 0
def onGd (c : Cfg) (l : List Blk) (x : ID) (y : Int) (u : Vote) : Int := if u.frm = y ∧ x ∈ chain l u.head then wAt c y else 0
def gdF (c : Cfg) (l : List Blk) (v : List Vote) (x : ID) (bad : List Int) (y : Int) : Int := if y ∈ bad then 0 else sumL (onGd c l x y) v
theorem wkF_bd {c : Cfg} (h : MayC c) (bad : List Int) (y : Int) : 0 ≤ wkF c bad y ∧ wkF c bad y ≤ 1099511627776 := by
  unfold wkF
  split
  · exact wAt_bd h y
  · omega
theorem onGd_bd {c : Cfg} (h : MayC c) (l : List Blk) (x : ID) (y : Int) (u : Vote) : 0 ≤ onGd c l x y u ∧ onGd c l x y u ≤ 1099511627776 := by
  unfold onGd
  split
  · exact wAt_bd h y
  · omega
theorem gdF_bd {c : Cfg} (h : MayC c) (l : List Blk) {v : List Vote} (hv : v.length ≤ 30) (x : ID) (bad : List Int) (y : Int) : 0 ≤ gdF c l v x bad y ∧ gdF c l v x bad y ≤ 32985348833280 := by
  unfold gdF
  split
  · omega
  · have := sumL_bd2 (onGd_bd h l x y) v
    omega
theorem good_law {c : Cfg} (h : MayC c) (l : List Blk) (vs : List Vote) (s : Int) (x : ID) (bad : List Int) :
    quickFor c l vs s x ≤ sumL (wkF c bad) (comC c s) + sumL (gdF c l (goldOf c vs s) x bad) (comC c s) := by
  rw [← sumL_plus]
  unfold quickFor onC
  have hg : ∀ y, 0 ≤ gdF c l (goldOf c vs s) x bad y := fun y => by
    unfold gdF
    split
    · omega
    · exact (sumL_bd2 (onGd_bd h l x y) _).1
  refine weightC_le h (fun y => ?_) fun i hi => ?_
  · have h1 := (wkF_bd h bad y).1
    have h2 := hg y
    omega
  · obtain ⟨u, hu, hon, rfl⟩ := mem_whoOn.1 hi
    refine ⟨(mem_gold.1 hu).2, ?_⟩
    by_cases hb : u.frm ∈ bad
    · have h2 := hg u.frm
      unfold wkF
      rw [if_pos hb]
      omega
    · have h2 := sumL_has (f := onGd c l x u.frm) (fun z => (onGd_bd h l x u.frm z).1) hu
      unfold wkF gdF
      rw [if_neg hb, if_neg hb]
      have h3 : onGd c l x u.frm u = wAt c u.frm := by unfold onGd; rw [if_pos ⟨rfl, hon⟩]
      omega
/-- QuickGood. -/
theorem sure_good {c : Cfg} (h : MayC c) {l : List Blk} {vs : List Vote} {s : Int} {x : ID} (hs : quickSure c l vs s x = true) {weak good : Int} (hw : quickFor c l vs s x ≤ weak + good) (hg : weak * c.den ≤ quickAll c s * c.num) : quickAll c s < 2 * good := by
  have h1 := (quickSure_iff h l vs s x).1 hs
  obtain ⟨_, _, _, h3, h4, h5, h6⟩ := h
  have h7 : quickFor c l vs s x * c.den ≤ (weak + good) * c.den := mul_le hw (by omega)
  rw [Int.add_mul] at h7
  rw [Int.mul_add, Int.mul_assoc 2, ← Int.mul_assoc (quickAll c s) 2, Int.mul_comm (quickAll c s) 2, Int.mul_assoc 2] at h1
  refine Classical.byContradiction fun h8 => ?_
  have h9 : 2 * good * c.den ≤ quickAll c s * c.den := mul_le (by omega) (by omega)
  rw [Int.mul_assoc] at h9
  omega
end Go.Proofs.YtdocgemfedohdaaGreat
