/- GG: several texts in one. -/
import Derived.Test.YtdocgemfedohdaaGF
import Derived.Test.YtdocgemfedohdaaGA
import Derived.Lib.Hide
import Derived.Test.YtdocgemfedohdaaGD
/-! What is justified, and final (the plain law). -/
namespace Go.Proofs.Ytdocgemfedohdaa
def zchk : Chk := ⟨0, ⟨0, 0⟩⟩
structure Way where
  src : Chk
  tgt : Chk
  deriving DecidableEq
def wayOf (x : Lnk) : Way := ⟨x.src, x.tgt⟩
/-- A link that may be. -/
def MayL (c : Cfg) (l : List Blk) (x : Lnk) : Prop :=
  MayC c ∧ 0 ≤ x.frm ∧ x.frm < c.W.length ∧ 0 ≤ x.src.epoch ∧ x.src.epoch < x.tgt.epoch ∧ x.tgt.epoch ≤ 1048576 ∧ x.src.root ∈ chain l x.tgt.root
instance (c : Cfg) (l : List Blk) (x : Lnk) : Decidable (MayL c l x) := by unfold MayL; exact inferInstance
/-- Who have a link that may be, of that way. -/
def whoW (c : Cfg) (l : List Blk) (v : List Lnk) (p : Way) : List Int := (v.filter fun x => decide (MayL c l x) && decide (wayOf x = p)).map (·.frm)
def StrongW (c : Cfg) (l : List Blk) (v : List Lnk) (p : Way) : Prop := whoW c l v p ≠ [] ∧ 2 * totalC c ≤ 3 * weightC c (whoW c l v p)
instance (c : Cfg) (l : List Blk) (v : List Lnk) (p : Way) : Decidable (StrongW c l v p) := by unfold StrongW; exact inferInstance
/-- What is come to from the first one. -/
inductive ComeTo (S : Way → Prop) : Chk → Prop
  | zero : ComeTo S zchk
  | step {p : Way} : ComeTo S p.src → S p → ComeTo S p.tgt
def JustC (c : Cfg) (l : List Blk) (v : List Lnk) (x : Chk) : Prop := ComeTo (StrongW c l v) x
/-- A way that makes where it begins final. -/
def EndsW (l : List Blk) (J : Chk → Prop) (p : Way) : Prop :=
  p.tgt.epoch = p.src.epoch + 1 ∨ (p.tgt.epoch = p.src.epoch + 2 ∧ ∃ m, J m ∧ m.epoch = p.src.epoch + 1 ∧ p.src.root ∈ chain l m.root ∧ m.root ∈ chain l p.tgt.root)
def FinalC (c : Cfg) (l : List Blk) (v : List Lnk) (x : Chk) : Prop :=
  x = zchk ∨ (JustC c l v x ∧ ∃ t, StrongW c l v ⟨x, t⟩ ∧ EndsW l (JustC c l v) ⟨x, t⟩)
/-! ## The order -/
def ltC (a b : Chk) : Bool := decide (a.epoch < b.epoch) || decide (a.epoch = b.epoch) && idLess a.root b.root
theorem idLess_iff {a b : ID} : idLess a b = true ↔ a.hi < b.hi ∨ (a.hi = b.hi ∧ a.lo < b.lo) := by unfold idLess; simp
theorem ltC_iff {a b : Chk} : ltC a b = true ↔ a.epoch < b.epoch ∨ (a.epoch = b.epoch ∧ (a.root.hi < b.root.hi ∨ (a.root.hi = b.root.hi ∧ a.root.lo < b.root.lo))) := by
  unfold ltC
  simp [idLess_iff]
theorem chk_ext {a b : Chk} (h1 : a.epoch = b.epoch) (h2 : a.root.hi = b.root.hi) (h3 : a.root.lo = b.root.lo) : a = b := by
  obtain ⟨e1, ⟨x1, y1⟩⟩ := a
  obtain ⟨e2, ⟨x2, y2⟩⟩ := b
  simp at h1 h2 h3
  subst h1 h2 h3
  rfl
theorem ltC_irrefl (a : Chk) : ltC a a = false := by
  cases h : ltC a a with
  | false => rfl
  | true => rw [ltC_iff] at h; omega
theorem ltC_trans {a b d : Chk} (h1 : ltC a b = true) (h2 : ltC b d = true) : ltC a d = true := by
  rw [ltC_iff] at *
  omega
theorem ltC_asymm {a b : Chk} (h1 : ltC a b = true) : ltC b a = false := by
  cases h : ltC b a with
  | false => rfl
  | true => rw [ltC_iff] at *; omega
theorem ltC_total {a b : Chk} (h1 : ltC a b = false) (h2 : ltC b a = false) : a = b := by
  have h1' : ¬ ltC a b = true := by simp [h1]
  have h2' : ¬ ltC b a = true := by simp [h2]
  rw [ltC_iff] at h1' h2'
  exact chk_ext (by omega) (by omega) (by omega)
def SortedC (g : List Chk) : Prop := g.Pairwise fun a b => ltC a b = true
theorem sortedC_uniq : ∀ {g h : List Chk}, SortedC g → SortedC h → (∀ x, x ∈ g ↔ x ∈ h) → g = h
  | [], [], _, _, _ => rfl
  | [], y :: ys, _, _, e => by have := (e y).2 (by simp); simp at this
  | x :: xs, [], _, _, e => by have := (e x).1 (by simp); simp at this
  | x :: xs, y :: ys, hg, hh, e => by
    unfold SortedC at *
    rw [List.pairwise_cons] at hg hh
    have hxy : x = y := by
      have h1 := (e x).1 (by simp)
      have h2 := (e y).2 (by simp)
      simp only [List.mem_cons] at h1 h2
      rcases h1 with h1 | h1
      · exact h1
      · rcases h2 with h2 | h2
        · exact h2.symm
        · have a1 := hh.1 x h1
          have a2 := hg.1 y h2
          rw [ltC_asymm a1] at a2
          cases a2
    subst hxy
    congr 1
    refine sortedC_uniq hg.2 hh.2 (fun f => ?_)
    constructor
    · intro hf
      have := (e f).1 (by simp [hf])
      simp only [List.mem_cons] at this
      rcases this with h | h
      · subst h
        have := hg.1 f hf
        rw [ltC_irrefl] at this
        cases this
      · exact h
    · intro hf
      have := (e f).2 (by simp [hf])
      simp only [List.mem_cons] at this
      rcases this with h | h
      · subst h
        have := hh.1 f hf
        rw [ltC_irrefl] at this
        cases this
      · exact h
def insC (x : Chk) : List Chk → List Chk
  | [] => [x]
  | y :: ys => if ltC x y = true then x :: y :: ys else if x = y then y :: ys else y :: insC x ys
theorem mem_insC {x y : Chk} : ∀ {l : List Chk}, y ∈ insC x l ↔ y = x ∨ y ∈ l
  | [] => by simp [insC]
  | z :: zs => by
    unfold insC
    split
    · simp
    · split
      · rename_i h; subst h; simp
      · simp only [List.mem_cons, mem_insC (l := zs)]
        constructor
        · rintro (h | h | h) <;> simp [h]
        · rintro (h | h | h) <;> simp [h]
theorem sorted_insC {x : Chk} : ∀ {l : List Chk}, SortedC l → SortedC (insC x l)
  | [], _ => by simp [insC, SortedC]
  | z :: zs, h => by
    unfold SortedC at *
    have hz := List.pairwise_cons.1 h
    unfold insC
    split
    · rename_i hlt
      refine List.pairwise_cons.2 ⟨fun y hy => ?_, h⟩
      rcases List.mem_cons.1 hy with rfl | hy
      · exact hlt
      · exact ltC_trans hlt (hz.1 y hy)
    · split
      · exact h
      · rename_i h1 h2
        refine List.pairwise_cons.2 ⟨fun y hy => ?_, sorted_insC hz.2⟩
        rcases mem_insC.1 hy with rfl | hy
        · have h1' : ltC y z = false := by simpa using h1
          cases h3 : ltC z y with
          | true => rfl
          | false => exact absurd (ltC_total h1' h3) h2
        · exact hz.1 y hy
def sortC (l : List Chk) : List Chk := l.foldr insC []
theorem mem_sortC {x : Chk} : ∀ {l : List Chk}, x ∈ sortC l ↔ x ∈ l
  | [] => by simp [sortC]
  | y :: ys => by
    show x ∈ insC y (sortC ys) ↔ _
    rw [mem_insC, mem_sortC, List.mem_cons]
theorem sorted_sortC : ∀ (l : List Chk), SortedC (sortC l)
  | [] => List.Pairwise.nil
  | _ :: ys => sorted_insC (sorted_sortC ys)
theorem sortC_eq {l g : List Chk} (h : SortedC g) (hm : ∀ x, x ∈ g ↔ x ∈ l) : g = sortC l := sortedC_uniq h (sorted_sortC l) fun x => (hm x).trans mem_sortC.symm
theorem insC_len (x : Chk) : ∀ l : List Chk, (insC x l).length ≤ l.length + 1
  | [] => by simp [insC]
  | y :: ys => by
    unfold insC
    have := insC_len x ys
    split
    · simp
    · split
      · simp
      · simp; omega
theorem sortC_len : ∀ l : List Chk, (sortC l).length ≤ l.length
  | [] => by simp [sortC]
  | y :: ys => by
    show (insC y (sortC ys)).length ≤ _
    have h1 := insC_len y (sortC ys)
    have h2 := sortC_len ys
    simp
    omega
/-! ## The lists -/
open Classical in
noncomputable def setL (P : Chk → Prop) (u : List Chk) : List Chk := sortC (u.filter fun x => decide (P x))
theorem mem_setL {P : Chk → Prop} {u : List Chk} {x : Chk} : x ∈ setL P u ↔ x ∈ u ∧ P x := by
  unfold setL
  rw [mem_sortC, List.mem_filter]
  simp
theorem sorted_setL (P : Chk → Prop) (u : List Chk) : SortedC (setL P u) := sorted_sortC _
theorem setL_len (P : Chk → Prop) (u : List Chk) : (setL P u).length ≤ u.length := Nat.le_trans (sortC_len _) (List.length_filter_le _ _)
theorem setL_eq {P : Chk → Prop} {u g : List Chk} (hs : SortedC g) (hu : ∀ x, P x → x ∈ u) (hm : ∀ x, x ∈ g ↔ P x) : g = setL P u :=
  sortedC_uniq hs (sorted_setL P u) fun x => by
    rw [hm x, mem_setL]
    exact ⟨fun h => ⟨hu x h, h⟩, fun h => h.2⟩
def univC (v : List Lnk) : List Chk := zchk :: v.map (·.tgt)
theorem mem_whoW {c : Cfg} {l : List Blk} {v : List Lnk} {p : Way} {i : Int} : i ∈ whoW c l v p ↔ ∃ x ∈ v, MayL c l x ∧ wayOf x = p ∧ x.frm = i := by
  unfold whoW
  simp only [List.mem_map, List.mem_filter, Bool.and_eq_true, decide_eq_true_eq]
  constructor
  · rintro ⟨x, ⟨h1, h2, h3⟩, h4⟩; exact ⟨x, h1, h2, h3, h4⟩
  · rintro ⟨x, h1, h2, h3, h4⟩; exact ⟨x, ⟨h1, h2, h3⟩, h4⟩
/-- A link that may be stands behind what is strong. -/
theorem strong_link {c : Cfg} {l : List Blk} {v : List Lnk} {p : Way} (h : StrongW c l v p) : ∃ x ∈ v, MayL c l x ∧ wayOf x = p := by
  obtain ⟨h1, _⟩ := h
  cases hw : whoW c l v p with
  | nil => exact absurd hw h1
  | cons i r =>
    obtain ⟨x, h2, h3, h4, _⟩ := mem_whoW.1 (show i ∈ whoW c l v p by rw [hw]; simp)
    exact ⟨x, h2, h3, h4⟩
structure WayOk (l : List Blk) (p : Way) : Prop where
  lo : 0 ≤ p.src.epoch
  lt : p.src.epoch < p.tgt.epoch
  hi : p.tgt.epoch ≤ 1048576
  under : p.src.root ∈ chain l p.tgt.root
theorem strong_ok {c : Cfg} {l : List Blk} {v : List Lnk} {p : Way} (h : StrongW c l v p) : WayOk l p := by
  obtain ⟨x, _, ⟨_, _, _, h3, h4, h5, h6⟩, rfl⟩ := strong_link h
  exact ⟨h3, h4, h5, h6⟩
theorem strong_tgt {c : Cfg} {l : List Blk} {v : List Lnk} {p : Way} (h : StrongW c l v p) : p.tgt ∈ univC v := by
  obtain ⟨x, h1, _, rfl⟩ := strong_link h
  unfold univC wayOf
  simp only [List.mem_cons, List.mem_map]
  exact .inr ⟨x, h1, rfl⟩
theorem just_univ {c : Cfg} {l : List Blk} {v : List Lnk} {x : Chk} (h : JustC c l v x) : x ∈ univC v := by
  cases h with
  | zero => simp [univC]
  | step _ h => exact strong_tgt h
theorem final_just {c : Cfg} {l : List Blk} {v : List Lnk} {x : Chk} (h : FinalC c l v x) : JustC c l v x := by
  rcases h with rfl | h
  · exact .zero
  · exact h.1
open Classical in
noncomputable def justL (c : Cfg) (l : List Blk) (v : List Lnk) : List Chk := if MayC c ∧ Tree l then setL (JustC c l v) (univC v) else []
open Classical in
noncomputable def finalL (c : Cfg) (l : List Blk) (v : List Lnk) : List Chk := if MayC c ∧ Tree l then setL (FinalC c l v) (univC v) else []
theorem justL_no {c : Cfg} {l : List Blk} (h : ¬ (MayC c ∧ Tree l)) (v : List Lnk) : justL c l v = [] := if_neg h
theorem finalL_no {c : Cfg} {l : List Blk} (h : ¬ (MayC c ∧ Tree l)) (v : List Lnk) : finalL c l v = [] := if_neg h
theorem mem_justL {c : Cfg} {l : List Blk} (h : MayC c ∧ Tree l) {v : List Lnk} {x : Chk} : x ∈ justL c l v ↔ JustC c l v x := by
  unfold justL
  rw [if_pos h, mem_setL]
  exact ⟨fun h => h.2, fun h => ⟨just_univ h, h⟩⟩
theorem mem_finalL {c : Cfg} {l : List Blk} (h : MayC c ∧ Tree l) {v : List Lnk} {x : Chk} : x ∈ finalL c l v ↔ FinalC c l v x := by
  unfold finalL
  rw [if_pos h, mem_setL]
  exact ⟨fun h => h.2, fun h => ⟨just_univ (final_just h), h⟩⟩
theorem sorted_justL (c : Cfg) (l : List Blk) (v : List Lnk) : SortedC (justL c l v) := by
  unfold justL
  split
  · exact sorted_setL _ _
  · exact List.Pairwise.nil
theorem sorted_finalL (c : Cfg) (l : List Blk) (v : List Lnk) : SortedC (finalL c l v) := by
  unfold finalL
  split
  · exact sorted_setL _ _
  · exact List.Pairwise.nil
theorem justL_len (c : Cfg) (l : List Blk) (v : List Lnk) : (justL c l v).length ≤ v.length + 1 := by
  unfold justL
  split
  · have := setL_len (JustC c l v) (univC v); simpa [univC] using this
  · simp
theorem finalL_len (c : Cfg) (l : List Blk) (v : List Lnk) : (finalL c l v).length ≤ v.length + 1 := by
  unfold finalL
  split
  · have := setL_len (FinalC c l v) (univC v); simpa [univC] using this
  · simp
theorem justL_eq {c : Cfg} {l : List Blk} (h : MayC c ∧ Tree l) {v : List Lnk} {g : List Chk} (hs : SortedC g) (hm : ∀ x, x ∈ g ↔ JustC c l v x) : g = justL c l v :=
  sortedC_uniq hs (sorted_justL c l v) fun x => (hm x).trans (mem_justL h).symm
theorem finalL_eq {c : Cfg} {l : List Blk} (h : MayC c ∧ Tree l) {v : List Lnk} {g : List Chk} (hs : SortedC g) (hm : ∀ x, x ∈ g ↔ FinalC c l v x) : g = finalL c l v :=
  sortedC_uniq hs (sorted_finalL c l v) fun x => (hm x).trans (mem_finalL h).symm
/-! ## With more links -/
theorem whoW_sub {c : Cfg} {l : List Blk} {v w : List Lnk} (h : ∀ x ∈ v, x ∈ w) (p : Way) : ∀ i ∈ whoW c l v p, i ∈ whoW c l w p := by
  intro i hi
  obtain ⟨x, h1, h2⟩ := mem_whoW.1 hi
  exact mem_whoW.2 ⟨x, h x h1, h2⟩
theorem strong_mono {c : Cfg} {l : List Blk} {v w : List Lnk} (h : ∀ x ∈ v, x ∈ w) {p : Way} (hs : StrongW c l v p) : StrongW c l w p := by
  obtain ⟨h1, h2⟩ := hs
  have hsub := whoW_sub (c := c) (l := l) h p
  refine ⟨fun e => ?_, ?_⟩
  · cases hw : whoW c l v p with
    | nil => exact h1 hw
    | cons i r => have := hsub i (by rw [hw]; simp); rw [e] at this; cases this
  · have := weightC_mono c hsub; omega
theorem reach_mono {S T : Way → Prop} (h : ∀ p, S p → T p) {x : Chk} (hx : ComeTo S x) : ComeTo T x := by
  induction hx with
  | zero => exact .zero
  | step _ h2 ih => exact .step ih (h _ h2)
theorem just_mono {c : Cfg} {l : List Blk} {v w : List Lnk} (h : ∀ x ∈ v, x ∈ w) {x : Chk} (hx : JustC c l v x) : JustC c l w x := reach_mono (fun _ => strong_mono h) hx
theorem final_mono {c : Cfg} {l : List Blk} {v w : List Lnk} (h : ∀ x ∈ v, x ∈ w) {x : Chk} (hx : FinalC c l v x) : FinalC c l w x := by
  rcases hx with rfl | ⟨h1, t, h2, h3⟩
  · exact .inl rfl
  · refine .inr ⟨just_mono h h1, t, strong_mono h h2, ?_⟩
    rcases h3 with h3 | ⟨h3, m, h4, h5⟩
    · exact .inl h3
    · exact .inr ⟨h3, m, just_mono h h4, h5⟩
theorem justL_sub {c : Cfg} {l : List Blk} {v w : List Lnk} (h : ∀ x ∈ v, x ∈ w) : ∀ x ∈ justL c l v, x ∈ justL c l w := by
  intro x hx
  by_cases hm : MayC c ∧ Tree l
  · rw [mem_justL hm] at hx ⊢; exact just_mono h hx
  · rw [justL_no hm] at hx; cases hx
theorem finalL_sub {c : Cfg} {l : List Blk} {v w : List Lnk} (h : ∀ x ∈ v, x ∈ w) : ∀ x ∈ finalL c l v, x ∈ finalL c l w := by
  intro x hx
  by_cases hm : MayC c ∧ Tree l
  · rw [mem_finalL hm] at hx ⊢; exact final_mono h hx
  · rw [finalL_no hm] at hx; cases hx
theorem finalL_justL {c : Cfg} {l : List Blk} {v : List Lnk} : ∀ x ∈ finalL c l v, x ∈ justL c l v := by
  intro x hx
  by_cases hm : MayC c ∧ Tree l
  · rw [mem_finalL hm] at hx; rw [mem_justL hm]; exact final_just hx
  · rw [finalL_no hm] at hx; cases hx
/-- Not in epoch 0 but the first one. -/
theorem just_epoch {c : Cfg} {l : List Blk} {v : List Lnk} {x : Chk} (h : JustC c l v x) : x = zchk ∨ 1 ≤ x.epoch := by
  cases h with
  | zero => exact .inl rfl
  | step _ h => have hk := strong_ok h; right; have h1 := hk.lo; have h2 := hk.lt; omega
theorem sorted_head {g : List Chk} (hs : SortedC g) {x : Chk} (hx : x ∈ g) (hlt : ∀ y ∈ g, y = x ∨ ltC x y = true) : ∃ r, g = x :: r := by
  cases g with
  | nil => cases hx
  | cons a r =>
    rcases hlt a (by simp) with rfl | h
    · exact ⟨r, rfl⟩
    · rcases List.mem_cons.1 hx with rfl | h2
      · exact ⟨r, rfl⟩
      · have := (List.pairwise_cons.1 hs).1 x h2
        rw [ltC_asymm this] at h
        cases h
theorem zchk_lt {x : Chk} (h : 1 ≤ x.epoch) : ltC zchk x = true := by
  rw [ltC_iff]
  left
  show (0 : Int) < _
  omega
theorem justL_head {c : Cfg} {l : List Blk} (h : MayC c ∧ Tree l) (v : List Lnk) : ∃ r, justL c l v = zchk :: r :=
  sorted_head (sorted_justL c l v) ((mem_justL h).2 .zero) fun _ hy => (just_epoch ((mem_justL h).1 hy)).imp id zchk_lt
theorem finalL_head {c : Cfg} {l : List Blk} (h : MayC c ∧ Tree l) (v : List Lnk) : ∃ r, finalL c l v = zchk :: r :=
  sorted_head (sorted_finalL c l v) ((mem_finalL h).2 (.inl rfl)) fun _ hy => (just_epoch (final_just ((mem_finalL h).1 hy))).imp id zchk_lt
/-! ## The same links -/
theorem justL_same {c : Cfg} {l : List Blk} {v w : List Lnk} (h : ∀ x, x ∈ v ↔ x ∈ w) : justL c l v = justL c l w :=
  sortedC_uniq (sorted_justL c l v) (sorted_justL c l w) fun x => ⟨justL_sub (fun y hy => (h y).1 hy) x, justL_sub (fun y hy => (h y).2 hy) x⟩
theorem finalL_same {c : Cfg} {l : List Blk} {v w : List Lnk} (h : ∀ x, x ∈ v ↔ x ∈ w) : finalL c l v = finalL c l w :=
  sortedC_uniq (sorted_finalL c l v) (sorted_finalL c l w) fun x => ⟨finalL_sub (fun y hy => (h y).1 hy) x, finalL_sub (fun y hy => (h y).2 hy) x⟩
/-! ## Grounds -/
theorem just_ground {c : Cfg} {l : List Blk} {v : List Lnk} {x : Chk} (h : JustC c l v x) (hx : x ≠ zchk) : ∃ s, JustC c l v s ∧ StrongW c l v ⟨s, x⟩ ∧ s.epoch < x.epoch ∧ s.root ∈ chain l x.root := by
  cases h with
  | zero => exact absurd rfl hx
  | @step p h1 h2 =>
    have := strong_ok h2
    exact ⟨p.src, h1, h2, this.lt, this.under⟩
theorem sorted_lt {g : List Chk} (hs : SortedC g) {i j : Nat} (hi : i < g.length) (hj : j < g.length) (h : ltC g[i] g[j] = true) : i < j := by
  rcases Nat.lt_trichotomy i j with h1 | h1 | h1
  · exact h1
  · subst h1; rw [ltC_irrefl] at h; cases h
  · have := List.pairwise_iff_getElem.1 hs j i hj hi h1
    rw [ltC_asymm this] at h; cases h
theorem justL_ground {c : Cfg} {l : List Blk} {v : List Lnk} {i : Nat} (h0 : 1 ≤ i) (hi : i < (justL c l v).length) :
    ∃ k, ∃ hk : k < i, (justL c l v)[k].epoch < (justL c l v)[i].epoch ∧ (justL c l v)[k].root ∈ chain l (justL c l v)[i].root ∧ StrongW c l v ⟨(justL c l v)[k], (justL c l v)[i]⟩ := by
  by_cases hm : MayC c ∧ Tree l
  · have hs := sorted_justL c l v
    have hne : (justL c l v)[i] ≠ zchk := by
      intro e
      obtain ⟨r, hr⟩ := justL_head hm v
      have h00 : 0 < (justL c l v).length := by omega
      have e0 : (justL c l v)[0] = zchk := by simp [hr]
      have := List.pairwise_iff_getElem.1 hs 0 i h00 hi (by omega)
      rw [e, e0, ltC_irrefl] at this
      cases this
    obtain ⟨s, h1, h2, h3, h4⟩ := just_ground ((mem_justL hm).1 (List.getElem_mem hi)) hne
    obtain ⟨k, hk, he⟩ := List.getElem_of_mem ((mem_justL hm).2 h1)
    have hlt : k < i := sorted_lt hs hk hi (by rw [he, ltC_iff]; left; exact h3)
    refine ⟨k, hlt, ?_⟩
    rw [he]
    exact ⟨h3, h4, h2⟩
  · rw [justL_no hm] at hi; cases hi
theorem justL_rises {c : Cfg} {l : List Blk} {v : List Lnk} {i : Nat} (hi : i + 1 < (justL c l v).length) : (justL c l v)[i].epoch ≤ (justL c l v)[i + 1].epoch ∧ (justL c l v)[i] ≠ (justL c l v)[i + 1] := by
  have := List.pairwise_iff_getElem.1 (sorted_justL c l v) i (i + 1) (by omega) hi (by omega)
  refine ⟨?_, fun e => ?_⟩
  · rw [ltC_iff] at this; omega
  · rw [e, ltC_irrefl] at this; cases this
/-! ## Few -/
theorem whoW_all {c : Cfg} {l : List Blk} {v : List Lnk} {p : Way} : ∀ i ∈ whoW c l v p, i ∈ v.map (·.frm) := by
  intro i hi
  obtain ⟨x, h1, _, _, h2⟩ := mem_whoW.1 hi
  exact List.mem_map.2 ⟨x, h1, h2⟩
theorem just_weak {c : Cfg} {l : List Blk} {v : List Lnk} (h : 3 * weightC c (v.map (·.frm)) < 2 * totalC c) {x : Chk} (hx : JustC c l v x) : x = zchk := by
  cases hx with
  | zero => rfl
  | @step p _ h2 => have h3 := weightC_mono c (whoW_all (c := c) (l := l) (v := v) (p := p)); have h4 := h2.2; omega
theorem sorted_one {g : List Chk} (hs : SortedC g) {x : Chk} (h : ∀ y ∈ g, y = x) : g.length ≤ 1 := by
  match g, hs, h with
  | [], _, _ => simp
  | [_], _, _ => simp
  | a :: b :: r, hs, h =>
    have := (List.pairwise_cons.1 hs).1 b (by simp)
    rw [h a (by simp), h b (by simp), ltC_irrefl] at this
    cases this
theorem justL_weak {c : Cfg} {l : List Blk} {v : List Lnk} (h : 3 * weightC c (v.map (·.frm)) < 2 * totalC c) : (justL c l v).length ≤ 1 := by
  by_cases hm : MayC c ∧ Tree l
  · exact sorted_one (sorted_justL c l v) (x := zchk) fun y hy => just_weak h ((mem_justL hm).1 hy)
  · rw [justL_no hm]; simp
theorem finalL_weak {c : Cfg} {l : List Blk} {v : List Lnk} (h : 3 * weightC c (v.map (·.frm)) < 2 * totalC c) : (finalL c l v).length ≤ 1 := by
  by_cases hm : MayC c ∧ Tree l
  · exact sorted_one (sorted_finalL c l v) (x := zchk) fun y hy => just_weak h (final_just ((mem_finalL hm).1 hy))
  · rw [finalL_no hm]; simp
end Go.Proofs.Ytdocgemfedohdaa
/-! A range over a map that the loop leaves as it is, and deletion from a map: maps as lists of pairs. -/
namespace Go.Proofs.Ytdocgemfedohdaa
open Go.RowKit Go.ChangeMaps Go.MapKept
section
variable {κ ν : Type} [DecidableEq κ] {ek : κ → Value} {ev : ν → Value}
/-- A range over block B's map is under way, its iterator in block r; the keys 'seen' have come. -/
def RIs (ek : κ → Value) (ev : ν → Value) (w : World) (B r : Nat) (m : List (κ × ν)) (came : List κ) : Prop :=
  ∃ es clk since seen c0, w.heap[B]? = some (.map es clk) ∧ es.toList.map (fun e => (e.key, e.val)) = m.map (fun p => (ek p.1, ev p.2)) ∧
    (es.toList.map (·.born)).Pairwise (· < ·) ∧ (∀ e ∈ es.toList, e.born < clk) ∧ (m.map (·.1)).Nodup ∧
    w.heap[r]? = some (.mapIter (some B) since seen c0) ∧ (∀ e ∈ es.toList, e.born < since) ∧
    (∀ (i : Nat) (e : MapEntry) (p : κ × ν), es.toList[i]? = some e → m[i]? = some p → seen.contains e.born = decide (p.1 ∈ came)) ∧ since ≤ c0 ∧ since ≤ clk
theorem RIs.map {w : World} {B r : Nat} {m : List (κ × ν)} {came : List κ} (h : RIs ek ev w B r m came) : MapIs ek ev w B m := by
  obtain ⟨es, clk, _, _, _, h1, h2, h3, h4, h5, _⟩ := h
  exact ⟨es, clk, h1, h2, h3, h4, h5⟩
theorem RIs.ne {w : World} {B r : Nat} {m : List (κ × ν)} {came : List κ} (h : RIs ek ev w B r m came) : r ≠ B := by
  obtain ⟨es, clk, since, seen, c0, hb, _, _, _, _, hr, _⟩ := h
  intro e
  rw [e, hb] at hr
  cases hr
theorem RIs.lt {w : World} {B r : Nat} {m : List (κ × ν)} {came : List κ} (h : RIs ek ev w B r m came) : r < w.heap.size := by
  obtain ⟨es, clk, since, seen, c0, hb, _, _, _, _, hr, _⟩ := h
  exact lt_of_block hr
theorem RIs.same {w w' : World} {B r : Nat} {m : List (κ × ν)} {came : List κ} (h : RIs ek ev w B r m came) (h1 : w'.heap[B]? = w.heap[B]?) (h2 : w'.heap[r]? = w.heap[r]?) : RIs ek ev w' B r m came ∧ w'.rangeLeft B r = w.rangeLeft B r := by
  refine ⟨?_, by unfold World.rangeLeft; rw [h1, h2]⟩
  obtain ⟨es, clk, since, seen, c0, hb, a1, a2, a3, a4, hr, rest⟩ := h
  exact ⟨es, clk, since, seen, c0, h1.trans hb, a1, a2, a3, a4, h2.trans hr, rest⟩
theorem RIs.grown {w w' : World} {B r : Nat} {m : List (κ × ν)} {came : List κ} {row : Option Nat} (h : RIs ek ev w B r m came) (hg : w.grownBy w' row) (h1 : some B ≠ row) (h2 : some r ≠ row) : RIs ek ev w' B r m came ∧ w'.rangeLeft B r = w.rangeLeft B r :=
  h.same (hg.block B (MapIs_lt h.map) h1) (hg.block r h.lt h2)
theorem RIs.below {w w' : World} {B r : Nat} {m : List (κ × ν)} {came : List κ} (h : RIs ek ev w B r m came) (hb : Below w.heap.size w w') : RIs ek ev w' B r m came ∧ w'.rangeLeft B r = w.rangeLeft B r :=
  h.same (hb.block B (MapIs_lt h.map)) (hb.block r h.lt)
omit [DecidableEq κ] in
theorem ent_at {es : Array MapEntry} {m : List (κ × ν)} (h : es.toList.map (fun e => (e.key, e.val)) = m.map (fun p => (ek p.1, ev p.2))) {i : Nat} {e : MapEntry} (hi : es.toList[i]? = some e) : ∃ p, m[i]? = some p ∧ e.key = ek p.1 ∧ e.val = ev p.2 := by
  have h1 := congrArg (·[i]?) h
  simp only [List.getElem?_map, hi, Option.map_some] at h1
  cases hp : m[i]? with
  | none => rw [hp] at h1; simp at h1
  | some p =>
    rw [hp] at h1
    simp only [Option.map_some, Option.some.injEq, Prod.mk.injEq] at h1
    exact ⟨p, rfl, h1.1, h1.2⟩
omit [DecidableEq κ] in
theorem ent_of {es : Array MapEntry} {m : List (κ × ν)} (h : es.toList.map (fun e => (e.key, e.val)) = m.map (fun p => (ek p.1, ev p.2))) {i : Nat} {p : κ × ν} (hi : m[i]? = some p) : ∃ e, es.toList[i]? = some e ∧ e.key = ek p.1 ∧ e.val = ev p.2 := by
  have h1 := congrArg (·[i]?) h
  simp only [List.getElem?_map, hi, Option.map_some] at h1
  cases hp : es.toList[i]? with
  | none => rw [hp] at h1; simp at h1
  | some e =>
    rw [hp] at h1
    simp only [Option.map_some, Option.some.injEq, Prod.mk.injEq] at h1
    exact ⟨e, rfl, h1.1, h1.2⟩
theorem nodup_born {l : List MapEntry} (h : (l.map (·.born)).Pairwise (· < ·)) : (l.map (·.born)).Nodup := h.imp (fun h => by omega)
/-- 'range m'. -/
theorem range_run {P : Program} {MT kt et : TypeId} (ht : P.underlying MT = some (.map kt et)) {w : World} {B : Nat} {m : List (κ × ν)} (hM : MapIs ek ev w B m) :
    ∃ w', (Instr.range MT (.map (some B))).run P w = .ok (.pointer (some ⟨w.heap.size, 0, none⟩)) w' ∧ RIs ek ev w' B w.heap.size m [] ∧ Below w.heap.size w w' ∧ w'.heap.size = w.heap.size + 1 := by
  obtain ⟨es, clk, hB, hes, hbn, hbc, hnd⟩ := hM
  have hlt := lt_of_block hB
  refine ⟨_, run_range_map w MT kt et B es clk ht hB, ⟨es, clk, clk, #[], clk, ha_lt hB, hes, hbn, hbc, hnd, ha_at rfl, hbc, fun i e p _ _ => by simp, Nat.le_refl _, Nat.le_refl _⟩, (Below.refl _ w).alloc (Nat.le_refl _) _, by simp⟩
/-- The step. -/
theorem next_run {P : Program} {w : World} {B r : Nat} {m : List (κ × ν)} {came : List κ} (h : RIs ek ev w B r m came) (ty : TypeId) :
    ((∀ p ∈ m, p.1 ∈ came) ∧ (Instr.next (.pointer (some ⟨r, 0, none⟩)) false ty).run P w = .ok (.tuple #[.bool false]) w) ∨
    ∃ x v w', (x, v) ∈ m ∧ x ∉ came ∧ (Instr.next (.pointer (some ⟨r, 0, none⟩)) false ty).run P w = .ok (.tuple #[.bool true, ek x, ev v]) w' ∧ RIs ek ev w' B r m (x :: came) ∧ w'.rangeLeft B r < w.rangeLeft B r ∧
      w.grownBy w' (some r) ∧ w'.heap.size = w.heap.size ∧ (Instr.entry (.pointer (some ⟨r, 0, none⟩))).run P w' = .ok (.tuple #[ek x, ev v]) w' := by
  have hne := h.ne
  obtain ⟨es, clk, since, seen, c0, hb, hes, hbn, hbc, hnd, hr, hold, hseen, hsc, hsk⟩ := h
  have hnb := nodup_born hbn
  rcases run_next_at (P := P) w ty r B since c0 seen es clk hr hb hold hsc with ⟨h0, hrun⟩ | ⟨e, he, w1, hal, hrun⟩
  · refine .inl ⟨fun p hp => ?_, hrun⟩
    obtain ⟨i, hi⟩ := List.mem_iff_getElem?.1 hp
    obtain ⟨e, hei, _⟩ := ent_of hes hi
    have := hseen i e p hei hi
    rw [all_seen es seen h0 e (List.mem_of_getElem? hei)] at this
    simpa using this.symm
  · obtain ⟨hem, hen⟩ := mem_left he
    obtain ⟨i, hi⟩ := List.mem_iff_getElem?.1 hem
    obtain ⟨p, hp, hk, hv⟩ := ent_at hes hi
    have hpc := hseen i e p hi hp
    rw [hen] at hpc
    have hnc : p.1 ∉ came := by simpa using hpc.symm
    have hr1 : w1.heap[r]? = some (.mapIter (some B) since seen c0) := by rcases hal with rfl | rfl <;> exact hr
    have hb1 : w1.heap[B]? = some (.map es clk) := by rcases hal with rfl | rfl <;> exact hb
    have hset := heap_set (o' := .mapIter (some B) since (seen.push e.born) clk) hr1
    have hb' : (setBlock w1 r (.mapIter (some B) since (seen.push e.born) clk)).heap[B]? = some (.map es clk) := (hset.2 B (fun e1 => hne e1.symm)).trans hb1
    refine .inr ⟨p.1, p.2, setBlock w1 r (.mapIter (some B) since (seen.push e.born) clk), List.mem_of_getElem? hp, hnc, by rw [hrun, hk, hv],
      ⟨es, clk, since, seen.push e.born, clk, hb', hes, hbn, hbc, hnd, hset.1, hold, fun j e' p' hj hp' => ?_, hsk, hsk⟩, ?_, ?_, ?_, ?_⟩
    · rw [contains_push, hseen j e' p' hj hp', Bool.eq_iff_iff]
      simp only [Bool.or_eq_true, decide_eq_true_eq, beq_iff_eq, List.mem_cons]
      constructor
      · rintro (h | h)
        · exact .inr h
        · have : e' = e := born_inj hnb (List.mem_of_getElem? hj) hem (by omega)
          subst this
          have hij : j = i := by
            have hl1 := (List.getElem?_eq_some_iff.1 hj).1
            have hl2 := (List.getElem?_eq_some_iff.1 hi).1
            have e1 : (es.toList.map (·.born))[j]? = (es.toList.map (·.born))[i]? := by simp [List.getElem?_map, hj, hi]
            have hl1' : j < (es.toList.map (·.born)).length := by simpa using hl1
            exact (List.getElem?_inj hl1' hnb).1 e1
          subst hij
          rw [hp] at hp'
          cases hp'
          exact .inl rfl
      · rintro (h | h)
        · right
          have hij : j = i := by
            have e1 : (m.map (·.1))[j]? = (m.map (·.1))[i]? := by simp [List.getElem?_map, hp, hp', h]
            have hl : j < (m.map (·.1)).length := by simpa using (List.getElem?_eq_some_iff.1 hp').1
            exact (List.getElem?_inj hl hnd).1 e1
          subst hij
          rw [hi] at hj
          cases hj
          rfl
        · exact .inl h
    · have := left_shrinks es seen e he
      unfold World.rangeLeft
      rw [hb', show (setBlock w1 r (.mapIter (some B) since (seen.push e.born) clk)).heap[r]? = _ from hset.1, hb, hr]
      exact this
    · rcases hal with rfl | rfl <;> exact ⟨rfl, rfl, rfl, by simp [setBlock], fun i _ hi => hset.2 i (fun e1 => hi (by rw [e1]))⟩
    · rcases hal with rfl | rfl <;> simp [setBlock]
    · rw [run_entry_at _ r B since seen es clk e hset.1 hb' hem hnb, hk, hv]
variable {P : Program} {ops : Array Oper} {rest : List Oper} {o : Oper} {a : Act} {Q : Exit → Act → World → Prop}
theorem wp_range (hg : o.guard = none) {mo : Operand} {MT kt et : TypeId} (hop : o.op = Op.range MT mo) (ht : P.underlying MT = some (.map kt et)) {w : World} {B : Nat} (hm : a.eval mo = .map (some B)) {m : List (κ × ν)} (hM : MapIs ek ev w B m) {r : Nat} (hr : w.heap.size = r)
    (hK : ∀ w', RIs ek ev w' B r m [] → Below w.heap.size w w' → w'.heap.size = w.heap.size + 1 → wpList P ops Q rest (a.put o.dst (.pointer (some ⟨r, 0, none⟩))) w') : wpList P ops Q (o :: rest) a w := by
  subst hr
  refine wpList_plain hg fun K' hK' => ?_
  obtain ⟨w', hrun, r1, r2, r3⟩ := range_run ht hM
  unfold Oper.wp
  simp [execOp, hop, hm, hrun, Result.andThen]
  exact hK' _ _ (hK w' r1 r2 r3)
/-- An entry has come. -/
structure Came (ek : κ → Value) (ev : ν → Value) (w w' : World) (B r : Nat) (m : List (κ × ν)) (came : List κ) (x : κ) (v : ν) : Prop where
  mem : (x, v) ∈ m
  fresh : x ∉ came
  ris : RIs ek ev w' B r m (x :: came)
  less : w'.rangeLeft B r < w.rangeLeft B r
  grown : w.grownBy w' (some r)
  size : w'.heap.size = w.heap.size
theorem wp_next (hg : o.guard = none) {it : Operand} (hop : o.op = Op.next it false) {w : World} {B r : Nat} {m : List (κ × ν)} {came : List κ} (hit : a.eval it = .pointer (some ⟨r, 0, none⟩)) (h : RIs ek ev w B r m came)
    (hDone : Hid (∀ p ∈ m, p.1 ∈ came) → wpList P ops Q rest (a.put o.dst (.tuple #[.bool false])) w)
    (hMore : ∀ (x : κ) (v : ν) (w' : World), Came ek ev w w' B r m came x v → (Instr.entry (.pointer (some ⟨r, 0, none⟩))).run P w' = .ok (.tuple #[ek x, ev v]) w' → wpList P ops Q rest (a.put o.dst (.tuple #[.bool true, ek x, ev v])) w') : wpList P ops Q (o :: rest) a w := by
  refine wpList_plain hg fun K' hK' => ?_
  unfold Oper.wp
  rcases next_run (P := P) h o.type with ⟨h0, hrun⟩ | ⟨x, v, w', h1, h2, hrun, h3, h4, h5, h6, h7⟩
  · simp [execOp, hop, hit, hrun, Result.andThen]
    exact hK' _ _ (hDone (Lib.hid h0))
  · simp [execOp, hop, hit, hrun, Result.andThen]
    exact hK' _ _ (hMore x v w' ⟨h1, h2, h3, h4, h5, h6⟩ h7)
end
section
variable {κ ν : Type} [DecidableEq κ] {ek : κ → Value} {ev : ν → Value}
def mdel (m : List (κ × ν)) (x : κ) : List (κ × ν) := m.filter fun p => decide (p.1 ≠ x)
theorem keyIdx_some {ks : List κ} {x : κ} {i j : Nat} (h : keyIdx ks x i = some j) : i ≤ j ∧ ks[j - i]? = some x := keyIdx_ge h
theorem eraseIdx_filter {m : List (κ × ν)} (hnd : (m.map (·.1)).Nodup) {j : Nat} {v : κ × ν} (hj : m[j]? = some v) : m.eraseIdx j = m.filter fun p => decide (p.1 ≠ v.1) := by
  induction m generalizing j with
  | nil => simp at hj
  | cons a m ih =>
    simp only [List.map_cons, List.nodup_cons] at hnd
    cases j with
    | zero =>
      simp only [List.getElem?_cons_zero, Option.some.injEq] at hj
      subst hj
      simp only [List.eraseIdx_cons_zero, List.filter_cons, ne_eq, not_true_eq_false, decide_false, Bool.false_eq_true, if_false]
      refine (List.filter_eq_self.2 fun p hp => ?_).symm
      simp only [decide_eq_true_eq]
      intro e
      exact hnd.1 (e ▸ List.mem_map_of_mem hp)
    | succ j =>
      simp only [List.getElem?_cons_succ] at hj
      have hne : a.1 ≠ v.1 := by
        intro e
        exact hnd.1 (e ▸ List.mem_map_of_mem (List.mem_of_getElem? hj))
      simp only [List.eraseIdx_cons_succ, List.filter_cons, ne_eq, hne, not_false_eq_true, decide_true, if_true]
      rw [ih hnd.2 hj]
theorem delete_run {P : Program} {MT kt et : TypeId} (K : Key P kt ek) (ht : P.underlying MT = some (.map kt et)) {w : World} {B : Nat} {m : List (κ × ν)} (hM : MapIs ek ev w B m) (x : κ) (t2 ty : TypeId) :
    ∃ w', (Builtin.delete_ #[MT, t2] ty #[.map (some B), ek x]).run P w = .ok (.tuple #[]) w' ∧ MapIs ek ev w' B (mdel m x) ∧ w.grownBy w' (some B) ∧ w'.heap.size = w.heap.size := by
  obtain ⟨es, clk, hB, hes, hbn, hbc, hnd⟩ := hM
  have hlt := lt_of_block hB
  have hf := findKey_run K x w (m.map (·.1)) es.toList (entries_key hes)
  have hgo : (getObj B).run P w = .ok (.map es clk) w := by simp [getObj, Sem.run, hB]
  have hset : ∀ o, (setObj B o).run P w = .ok () { w with heap := w.heap.setIfInBounds B o } := by intro o; simp [setObj, Sem.run, hB]
  have hgrow : ∀ o, w.grownBy { w with heap := w.heap.setIfInBounds B o } (some B) := fun o => ⟨rfl, rfl, rfl, by simp, fun k _ hne => by
    have : B ≠ k := fun e => hne (by rw [e])
    simp [Array.getElem?_setIfInBounds_ne this]⟩
  have hat : ∀ o : Obj, ({ w with heap := w.heap.setIfInBounds B o } : World).heap[B]? = some o := fun o => by simp [hlt]
  cases hj : keyIdx (m.map (·.1)) x 0 with
  | none =>
    rw [hj] at hf
    have hx := keyIdx_none hj
    have hmd : mdel m x = m := List.filter_eq_self.2 fun p hp => by
      simp only [decide_eq_true_eq]
      intro e
      exact hx (e ▸ List.mem_map_of_mem hp)
    refine ⟨{ w with heap := w.heap.setIfInBounds B (.map es clk) }, ?_, ⟨es, clk, hat _, by rw [hmd]; exact hes, hbn, hbc, by rw [hmd]; exact hnd⟩, hgrow _, by simp⟩
    simp [Builtin.delete_, run_underlying ht, hgo, K.chk, hf, hset, Result.andThen]
  | some j =>
    rw [hj] at hf
    obtain ⟨_, hjk⟩ := keyIdx_some hj
    simp only [Nat.sub_zero, List.getElem?_map, Option.map_eq_some_iff] at hjk
    obtain ⟨p, hp, hpx⟩ := hjk
    obtain ⟨e, he, _, _⟩ := ent_of hes hp
    have hjl : j < es.size := by have := (List.getElem?_eq_some_iff.1 he).1; simpa using this
    have hmd : mdel m x = m.eraseIdx j := by rw [eraseIdx_filter hnd hp, hpx]; rfl
    have hsub : (es.eraseIdxIfInBounds j).toList = es.toList.eraseIdx j := by
      unfold Array.eraseIdxIfInBounds
      rw [dif_pos hjl]
      simp
    have he' : es[j]? = some e := by simpa using he
    refine ⟨{ w with heap := w.heap.setIfInBounds B (.map (es.eraseIdxIfInBounds j) clk) }, ?_, ⟨_, clk, hat _, ?_, ?_, ?_, ?_⟩, hgrow _, by simp⟩
    · simp [Builtin.delete_, run_underlying ht, hgo, K.chk, hf, he', hset, Result.andThen]
    · rw [hsub, hmd, map_eraseIdx, map_eraseIdx, hes]
    · rw [hsub, map_eraseIdx]
      exact hbn.sublist (List.eraseIdx_sublist _ _)
    · intro x hx
      rw [hsub] at hx
      exact hbc x ((List.eraseIdx_sublist _ _).subset hx)
    · rw [hmd, map_eraseIdx]
      exact hnd.sublist (List.eraseIdx_sublist _ _)
variable {P : Program} {ops : Array Oper} {rest : List Oper} {o : Oper} {a : Act} {Q : Exit → Act → World → Prop}
theorem wp_delete (hg : o.guard = none) {mo xo : Operand} {MT kt et t2 : TypeId} (hop : o.op = Op.call { callee := Callee.builtin Builtin.delete, args := #[mo, xo], argTypes := #[MT, t2] }) (K : Key P kt ek) (ht : P.underlying MT = some (.map kt et)) {w : World} {B : Nat}
    (hm : a.eval mo = .map (some B)) {x : κ} (hx : a.eval xo = ek x) {m : List (κ × ν)} (hM : MapIs ek ev w B m)
    (hK : ∀ w', MapIs ek ev w' B (mdel m x) → w.grownBy w' (some B) → w'.heap.size = w.heap.size → wpList P ops Q rest (a.put o.dst (.tuple #[])) w') : wpList P ops Q (o :: rest) a w := by
  refine wpList_plain hg fun K' hK' => ?_
  obtain ⟨w', hrun, r1, r2, r3⟩ := delete_run (t2 := t2) (ty := o.type) K ht hM x
  unfold Oper.wp
  simp [execOp, hop, resolve, invoke, builtin, hm, hx, hrun, Result.andThen]
  exact hK' _ _ (hK w' r1 r2 r3)
end
end Go.Proofs.Ytdocgemfedohdaa
/-! Checkpoints, and ways, as keys of maps and in memory; an entry that is read, and then written. -/
namespace Go.Proofs.Ytdocgemfedohdaa
open Go.RowKit
def wayv (p : Way) : Value := .agg #[.int .i64 p.src.epoch, .int .u64 p.src.root.hi, .int .u64 p.src.root.lo, .int .i64 p.tgt.epoch, .int .u64 p.tgt.root.hi, .int .u64 p.tgt.root.lo]
theorem encChk_len (x : Chk) : (encChk x).length = 3 := rfl
theorem encChk_one (x : Chk) : ∀ u ∈ encChk x, u.oneCell' = true := by intro u hu; simp [encChk] at hu; rcases hu with rfl | rfl | rfl <;> rfl
theorem infoC : (Try.prog.info? 31).map (fun i => (i.zero, i.size, i.bytes)) = some (some (.agg #[.int .i64 0, .int .u64 0, .int .u64 0]), 3, 24) := by kernel_rfl
theorem blk3 {w : World} {b : Nat} {x0 x1 x2 : Value} {T : TypeId} (h : w.heap[b]? = some (.cells #[x0, x1, x2] T (0, 0))) : w.cell? ⟨b, 0, none⟩ = some x0 ∧ w.cell? ⟨b, 1, none⟩ = some x1 ∧ w.cell? ⟨b, 2, none⟩ = some x2 :=
  ⟨blk_cell h 0, blk_cell h 1, blk_cell h 2⟩
theorem blk6 {w : World} {b : Nat} {x0 x1 x2 x3 x4 x5 : Value} {T : TypeId} (h : w.heap[b]? = some (.cells #[x0, x1, x2, x3, x4, x5] T (0, 0))) :
    w.cell? ⟨b, 0, none⟩ = some x0 ∧ w.cell? ⟨b, 1, none⟩ = some x1 ∧ w.cell? ⟨b, 2, none⟩ = some x2 ∧ w.cell? ⟨b, 3, none⟩ = some x3 ∧ w.cell? ⟨b, 4, none⟩ = some x4 ∧ w.cell? ⟨b, 5, none⟩ = some x5 :=
  ⟨blk_cell h 0, blk_cell h 1, blk_cell h 2, blk_cell h 3, blk_cell h 4, blk_cell h 5⟩
theorem Rd.atChk {w : World} {A : Option Addr} {xs : List Chk} (h : Rd 3 encChk w A xs) {i : Nat} (hi : i < xs.length) :
    ∃ b o, A = some ⟨b, o, none⟩ ∧ b < w.heap.size ∧ w.cell? ⟨b, o + i * 3, none⟩ = some (.int .i64 xs[i].epoch) ∧ w.cell? ⟨b, o + i * 3 + 1, none⟩ = some (.int .u64 xs[i].root.hi) ∧ w.cell? ⟨b, o + i * 3 + 2, none⟩ = some (.int .u64 xs[i].root.lo) := by
  obtain ⟨b, o, hA, hlt, hc⟩ := h.at hi
  exact ⟨b, o, hA, hlt, hc 0 _ rfl, hc 1 _ rfl, hc 2 _ rfl⟩
theorem eql_chk (x y : Chk) (w : World) : (binOp .eql 31 (.agg #[.int .i64 x.epoch, .int .u64 x.root.hi, .int .u64 x.root.lo]) (.agg #[.int .i64 y.epoch, .int .u64 y.root.hi, .int .u64 y.root.lo])).run Try.prog w = .ok (.bool (decide (x = y))) w := by
  have h := eqlIn_chk 9997 x y w
  unfold chkv at h
  rw [run_eql_struct, h]
  rfl
theorem neq_chk (x y : Chk) (w : World) : (binOp .neq 31 (.agg #[.int .i64 x.epoch, .int .u64 x.root.hi, .int .u64 x.root.lo]) (.agg #[.int .i64 y.epoch, .int .u64 y.root.hi, .int .u64 y.root.lo])).run Try.prog w = .ok (.bool (!decide (x = y))) w := by
  have h := eqlIn_chk 9997 x y w
  unfold chkv at h
  rw [run_neq_struct, h]
  rfl
theorem check_id (b : Bool) (n : Nat) (x y : Int) (w : World) : (Instr.checkKey b (n + 2) 29 (.agg #[.int .u64 x, .int .u64 y])).run Try.prog w = .ok () w := by
  have u := Try.underlying29
  have z := Try.sizeOf23
  have u3 := Try.underlying23
  have p := fun cs off v h w => part_int (P := Try.prog) u3 cs off v h w
  have c := fun b n x w => check_int (P := Try.prog) u3 b n x w
  unfold Instr.checkKey
  simp only [Sem.run_bind, run_underlying u, Result.andThen_ok]
  simp [List.range', List.forIn_cons, p, c, z]
theorem check_chk (b : Bool) (n : Nat) (e x y : Int) (w : World) : (Instr.checkKey b (n + 3) 31 (.agg #[.int .i64 e, .int .u64 x, .int .u64 y])).run Try.prog w = .ok () w := by
  have u := Try.underlying31
  have u3 := Try.underlying3
  have u25 := Try.underlying29
  have p := fun cs off v h w => part_int (P := Try.prog) u3 cs off v h w
  have c := fun b n x w => check_int (P := Try.prog) u3 b n x w
  have c2 := fun b x y w => check_id b n x y w
  have p25 := fun (a b c : Int) w => show (part 29 #[.int .i64 a, .int .u64 b, .int .u64 c] 1).run Try.prog w = .ok (.agg #[.int .u64 b, .int .u64 c]) w by
    simp [part, isAgg, run_underlying u25, Try.sizeOf29]
  unfold Instr.checkKey
  simp only [Sem.run_bind, run_underlying u, Result.andThen_ok]
  simp [List.forIn_cons, p, c, p25, c2]
theorem KeyC : Key Try.prog 31 chkv where
  chk := fun b x w => by
    show (Instr.checkKey b (9997 + 3) _ _).run _ _ = _
    exact check_chk b 9997 _ _ _ w
  eq := fun x y w => eqlIn_chk 9997 x y w
  now := ⟨_, Try.underlying31, fun x y => .inl rfl⟩
  bits := fun x => by simp [Instr.sameBits, chkv]
theorem eqlIn_way (n : Nat) (x y : Way) (w : World) : (Op.equalIn (n + 4) 63 (wayv x) (wayv y)).run Try.prog w = .ok (decide (x = y)) w := by
  have u := Try.underlying63
  have hid := fun (a b c a' b' c' : Int) w => show (Op.equalIn (n + 3) 31 (.agg #[.int .i64 a, .int .u64 b, .int .u64 c]) (.agg #[.int .i64 a', .int .u64 b', .int .u64 c'])).run Try.prog w = .ok (decide ((⟨a, b, c⟩ : Chk) = ⟨a', b', c'⟩)) w from eqlIn_chk n ⟨a, b, c⟩ ⟨a', b', c'⟩ w
  have u25 := Try.underlying31
  have p1 := fun (b c e f g h : Int) w => show (part 31 #[.int .i64 b, .int .u64 c, .int .u64 e, .int .i64 f, .int .u64 g, .int .u64 h] 0).run Try.prog w = .ok (.agg #[.int .i64 b, .int .u64 c, .int .u64 e]) w by
    simp [part, isAgg, run_underlying u25, Try.sizeOf31]
  have p2 := fun (b c e f g h : Int) w => show (part 31 #[.int .i64 b, .int .u64 c, .int .u64 e, .int .i64 f, .int .u64 g, .int .u64 h] 3).run Try.prog w = .ok (.agg #[.int .i64 f, .int .u64 g, .int .u64 h]) w by
    simp [part, isAgg, run_underlying u25, Try.sizeOf31]
  unfold wayv
  rw [run_equalIn_struct _ _ _ _ _ (by kernel_rfl) (by kernel_rfl)]
  simp only [Program.fieldsOf, u]
  obtain ⟨⟨x2, x3, x4⟩, ⟨x5, x6, x7⟩⟩ := x
  obtain ⟨⟨y2, y3, y4⟩, ⟨y5, y6, y7⟩⟩ := y
  by_cases e1 : (⟨x2, x3, x4⟩ : Chk) = ⟨y2, y3, y4⟩ <;> by_cases e2 : (⟨x5, x6, x7⟩ : Chk) = ⟨y5, y6, y7⟩ <;> simp [Op.eqFields, p1, p2, hid, e1, e2]
theorem KeyW : Key Try.prog 63 wayv where
  chk := fun b x w => by
    have u := Try.underlying63
    have u25 := Try.underlying31
    have c := fun (b : Bool) (e x y : Int) w => check_chk b 9996 e x y w
    have p1 := fun (b c e f g h : Int) w => show (part 31 #[.int .i64 b, .int .u64 c, .int .u64 e, .int .i64 f, .int .u64 g, .int .u64 h] 0).run Try.prog w = .ok (.agg #[.int .i64 b, .int .u64 c, .int .u64 e]) w by
      simp [part, isAgg, run_underlying u25, Try.sizeOf31]
    have p2 := fun (b c e f g h : Int) w => show (part 31 #[.int .i64 b, .int .u64 c, .int .u64 e, .int .i64 f, .int .u64 g, .int .u64 h] 3).run Try.prog w = .ok (.agg #[.int .i64 f, .int .u64 g, .int .u64 h]) w by
      simp [part, isAgg, run_underlying u25, Try.sizeOf31]
    unfold wayv Instr.checkKey
    simp only [Sem.run_bind, run_underlying u, Result.andThen_ok]
    simp [List.forIn_cons, p1, p2, c]
  eq := fun x y w => eqlIn_way 9996 x y w
  now := ⟨_, Try.underlying63, fun x y => .inl rfl⟩
  bits := fun x => by simp [Instr.sameBits, wayv]
/-! ## An entry, and its stamp -/
section
variable {κ ν : Type} [DecidableEq κ] {ek : κ → Value} {ev : ν → Value}
/-- A map, and the stamp of the entry at x. -/
def StampIs (ek : κ → Value) (ev : ν → Value) (w : World) (B : Nat) (m : List (κ × ν)) (x : κ) (st : Nat) : Prop :=
  ∃ (es : Array MapEntry) (clk j : Nat) (e : MapEntry), w.heap[B]? = some (.map es clk) ∧ es.toList.map (fun e => (e.key, e.val)) = m.map (fun p => (ek p.1, ev p.2)) ∧
    (es.toList.map (·.born)).Pairwise (· < ·) ∧ (∀ e ∈ es.toList, e.born < clk) ∧ (m.map (·.1)).Nodup ∧ es.toList[j]? = some e ∧ e.born = st ∧ (m.map (·.1))[j]? = some x
omit [DecidableEq κ] in
theorem StampIs.map {w : World} {B st : Nat} {m : List (κ × ν)} {x : κ} (h : StampIs ek ev w B m x st) : MapIs ek ev w B m := by
  obtain ⟨es, clk, j, e, h1, h2, h3, h4, h5, _⟩ := h
  exact ⟨es, clk, h1, h2, h3, h4, h5⟩
omit [DecidableEq κ] in
theorem StampIs.same {w w' : World} {B st : Nat} {m : List (κ × ν)} {x : κ} (h : StampIs ek ev w B m x st) (hb : w'.heap[B]? = w.heap[B]?) : StampIs ek ev w' B m x st := by
  obtain ⟨es, clk, j, e, h1, h2⟩ := h
  exact ⟨es, clk, j, e, hb.trans h1, h2⟩
omit [DecidableEq κ] in
theorem StampIs.below {w w' : World} {B st : Nat} {m : List (κ × ν)} {x : κ} (h : StampIs ek ev w B m x st) (hb : Below w.heap.size w w') : StampIs ek ev w' B m x st := h.same (hb.block B (MapIs_lt h.map))
omit [DecidableEq κ] in
theorem StampIs.grown {w w' : World} {B st : Nat} {m : List (κ × ν)} {x : κ} {row : Option Nat} (h : StampIs ek ev w B m x st) (hg : w.grownBy w' row) (hne : some B ≠ row) : StampIs ek ev w' B m x st := h.same (hg.block B (MapIs_lt h.map) hne)
theorem findIdx_born {l : List MapEntry} (hn : (l.map (·.born)).Nodup) {j : Nat} {e0 : MapEntry} (h : l[j]? = some e0) : l.findIdx? (fun e => ((e.born : Nat) : Int) == ((e0.born : Nat) : Int)) = some j := by
  induction l generalizing j with
  | nil => simp at h
  | cons a r ih =>
    simp only [List.map_cons, List.nodup_cons] at hn
    cases j with
    | zero =>
      simp only [List.getElem?_cons_zero, Option.some.injEq] at h
      subst h
      simp [List.findIdx?_cons]
    | succ j =>
      simp only [List.getElem?_cons_succ] at h
      have hne : a.born ≠ e0.born := fun e1 => hn.1 (List.mem_map.2 ⟨e0, List.mem_of_getElem? h, e1.symm⟩)
      have hb : (((a.born : Nat) : Int) == ((e0.born : Nat) : Int)) = false := by
        simp only [beq_eq_false_iff_ne, ne_eq, Int.natCast_inj]
        exact hne
      rw [List.findIdx?_cons, hb]
      simp [ih hn.2 h]
omit [DecidableEq κ] in
/-- Where the value at j is written, the key's entry is. -/
theorem put_at {es : Array MapEntry} {m : List (κ × ν)} [DecidableEq κ] (hes : es.toList.map (fun e => (e.key, e.val)) = m.map (fun p => (ek p.1, ev p.2))) (hnd : (m.map (·.1)).Nodup) {j : Nat} {x : κ} (hj : (m.map (·.1))[j]? = some x) (v : ν) :
    (es.modify j fun e => { e with val := ev v }).toList.map (fun e => (e.key, e.val)) = (mput m x v).map (fun p => (ek p.1, ev p.2)) := by
  have hsome : (mget m x).isSome = true := by
    cases hg : mget m x with
    | none => exact absurd (List.mem_of_getElem? hj) (mget_none.1 hg)
    | some _ => rfl
  have hmp : mput m x v = m.map fun p => if p.1 = x then (p.1, v) else p := by unfold mput; rw [if_pos hsome]
  rw [hmp]
  apply List.ext_getElem?
  intro i
  have hi := congrArg (fun l : List (Value × Value) => l[i]?) hes
  simp only [List.getElem?_map] at hi
  simp only [Array.toList_modify, List.getElem?_map, List.getElem?_modify]
  cases hmi : m[i]? with
  | none =>
    rw [hmi] at hi
    cases hei : es.toList[i]? with
    | none => simp
    | some e => rw [hei] at hi; simp at hi
  | some q =>
    rw [hmi] at hi
    cases hei : es.toList[i]? with
    | none => rw [hei] at hi; simp at hi
    | some e =>
      rw [hei] at hi
      simp only [Option.map_some, Option.some.injEq, Prod.mk.injEq] at hi
      by_cases hij : j = i
      · subst hij
        have hq : q.1 = x := by simpa [hmi] using hj
        simp [hq, hi.1]
      · have hq : ¬ q.1 = x := by
          intro hq
          have h1 : (m.map (·.1))[i]? = some x := by simp [hmi, hq]
          have hjl := (List.getElem?_eq_some_iff.1 hj).1
          exact hij ((List.getElem?_inj hjl hnd).1 (hj.trans h1.symm))
        simp [hij, hq, hi.1, hi.2]
theorem modify_born (es : Array MapEntry) (j : Nat) (f : MapEntry → MapEntry) (hf : ∀ e, (f e).born = e.born) : (es.modify j f).toList.map (·.born) = es.toList.map (·.born) := by
  rw [Array.toList_modify]
  apply List.ext_getElem?
  intro i
  simp only [List.getElem?_map, List.getElem?_modify]
  by_cases hij : j = i
  · subst hij
    cases es.toList[j]? <;> simp [hf]
  · simp [hij]
theorem born_lt_of {es es' : List MapEntry} {clk : Nat} (h : es'.map (·.born) = es.map (·.born)) (hlt : ∀ e ∈ es, e.born < clk) : ∀ e ∈ es', e.born < clk := by
  intro e he
  have : e.born ∈ es.map (·.born) := by rw [← h]; exact List.mem_map_of_mem he
  obtain ⟨e', h1, h2⟩ := List.mem_map.1 this
  rw [← h2]
  exact hlt e' h1
theorem entry_run {P : Program} {MT kt et : TypeId} (K : Key P kt ek) (ht : P.underlying MT = some (.map kt et)) {z0 : ν} {w : World} (hz : (zeroValue et).run P w = .ok (ev z0) w) {B : Nat} {m : List (κ × ν)} (hM : MapIs ek ev w B m) (x : κ) :
    ∃ (w' : World) (st : Nat), (Instr.mapEntry MT (.map (some B)) (ek x)).run P w = .ok (.tuple #[ev ((mget m x).getD z0), goInt st]) w' ∧ StampIs ek ev w' B (mput m x ((mget m x).getD z0)) x st ∧ w.grownBy w' (some B) ∧ w'.heap.size = w.heap.size := by
  obtain ⟨es, clk, hB, hes, hbn, hbc, hnd⟩ := hM
  have hlt := lt_of_block hB
  have hf := findKey_run K x w (m.map (·.1)) es.toList (entries_key hes)
  have hg := keyIdx_get m x 0
  simp only [Nat.sub_zero] at hg
  have hgo : (getObj B).run P w = .ok (.map es clk) w := by simp [getObj, Sem.run, hB]
  have hset : ∀ o, (setObj B o).run P w = .ok () { w with heap := w.heap.setIfInBounds B o } := by intro o; simp [setObj, Sem.run, hB]
  have hgrow : ∀ o, w.grownBy { w with heap := w.heap.setIfInBounds B o } (some B) := fun o => ⟨rfl, rfl, rfl, by simp, fun k _ hne => by
    have : B ≠ k := fun e => hne (by rw [e])
    simp [Array.getElem?_setIfInBounds_ne this]⟩
  have hat : ∀ o : Obj, ({ w with heap := w.heap.setIfInBounds B o } : World).heap[B]? = some o := fun o => by simp [hlt]
  cases hj : keyIdx (m.map (·.1)) x 0 with
  | none =>
    rw [hj] at hf hg
    have hx := keyIdx_none hj
    simp only [Option.bind_none] at hg hf
    rw [hg]
    refine ⟨{ w with heap := w.heap.setIfInBounds B (.map (es.push { key := ek x, val := ev z0, born := clk }) (clk + 1)) }, clk, ?_, ?_, hgrow _, by simp⟩
    · simp only [Instr.mapEntry, Sem.run_bind, run_underlying ht, Result.andThen_ok, hgo, K.chk, hf, hz, hset]
      rfl
    · have hlen : es.toList.length = m.length := by simpa using congrArg List.length hes
      have hmp : mput m x z0 = m ++ [(x, z0)] := by unfold mput; rw [mget_none.2 hx]; rfl
      refine ⟨_, _, es.toList.length, { key := ek x, val := ev z0, born := clk }, hat _, ?_, ?_, ?_, mput_nodup hnd x z0, by simp, rfl, ?_⟩
      · rw [show (none : Option ν).getD z0 = z0 from rfl, hmp]
        simp [hes]
      · simp only [Array.toList_push, List.map_append, List.map_cons, List.map_nil]
        rw [List.pairwise_append]
        refine ⟨hbn, by simp, ?_⟩
        intro a ha b hb
        simp only [List.mem_singleton] at hb
        obtain ⟨e, he, rfl⟩ := List.mem_map.1 ha
        subst hb
        exact hbc e he
      · intro e he
        simp only [Array.toList_push, List.mem_append, List.mem_singleton] at he
        rcases he with he | he
        · exact Nat.lt_succ_of_lt (hbc e he)
        · subst he; exact Nat.lt_succ_self _
      · rw [show (none : Option ν).getD z0 = z0 from rfl, hmp, hlen]
        simp
  | some j =>
    obtain ⟨_, hjx⟩ := keyIdx_ge hj
    simp only [Nat.sub_zero] at hjx
    rw [hj] at hf hg
    simp only [Option.bind_some] at hf hg
    have hmj : ∃ p, m[j]? = some p ∧ p.1 = x := by
      rw [List.getElem?_map] at hjx
      cases hp : m[j]? with
      | none => rw [hp] at hjx; simp at hjx
      | some p => rw [hp] at hjx; exact ⟨p, rfl, by simpa using hjx⟩
    obtain ⟨p, hp, hpx⟩ := hmj
    obtain ⟨e, he, hek, hev⟩ := ent_of hes hp
    have he' : es[j]? = some e := by simpa using he
    rw [hp] at hg
    simp only [Option.map_some] at hg
    rw [hg]
    have hself : mput m x p.2 = m := by
      have hsome : (mget m x).isSome = true := by rw [hg]; rfl
      unfold mput
      rw [if_pos hsome]
      conv => rhs; rw [← List.map_id m]
      refine List.map_congr_left fun q hq => ?_
      split
      · rename_i hqx
        obtain ⟨i, hi, rfl⟩ := List.getElem_of_mem hq
        have h1 : (m.map (·.1))[i]? = some x := by simp [hi, hqx]
        have hjl := (List.getElem?_eq_some_iff.1 hjx).1
        have hji := (List.getElem?_inj hjl hnd).1 (hjx.trans h1.symm)
        subst hji
        have : m[j] = p := by simpa [hi] using hp
        rw [this]
        rfl
      · rfl
    refine ⟨{ w with heap := w.heap.setIfInBounds B (.map (es.modify j fun e => { e with key := ek x }) clk) }, e.born, ?_, ?_, hgrow _, by simp⟩
    · simp only [Instr.mapEntry, Sem.run_bind, run_underlying ht, Result.andThen_ok, hgo, K.chk, hf, he, he', Option.map_some, Option.getD_some, hek, hpx, Instr.keyThatStays, K.bits, if_true, Sem.run_pure, hset, hev]
    · have hb := modify_born es j (fun e => { e with key := ek x }) (fun _ => rfl)
      refine ⟨_, _, j, { e with key := ek x }, hat _, ?_, by rw [hb]; exact hbn, born_lt_of hb hbc, mput_nodup hnd _ _, ?_, rfl, ?_⟩
      · rw [show (some p.2).getD z0 = p.2 from rfl, hself, ← hes]
        rw [Array.toList_modify]
        apply List.ext_getElem?
        intro i
        simp only [List.getElem?_map, List.getElem?_modify]
        by_cases hij : j = i
        · subst hij
          simp [he, hek, hpx]
        · simp [hij]
      · rw [Array.toList_modify, List.getElem?_modify, he]
        simp
      · rw [show (some p.2).getD z0 = p.2 from rfl, hself]
        exact hjx
theorem entryStore_run {P : Program} {MT : TypeId} {w : World} {B st : Nat} {m : List (κ × ν)} {x : κ} (h : StampIs ek ev w B m x st) (v : ν) :
    ∃ w', (Instr.entryStore MT (.map (some B)) (goInt st) (ev v)).run P w = .ok () w' ∧ MapIs ek ev w' B (mput m x v) ∧ w.grownBy w' (some B) ∧ w'.heap.size = w.heap.size := by
  obtain ⟨es, clk, j, e, hB, hes, hbn, hbc, hnd, he, rfl, hj⟩ := h
  have hlt := lt_of_block hB
  have hgo : (getObj B).run P w = .ok (.map es clk) w := by simp [getObj, Sem.run, hB]
  have hset : ∀ o, (setObj B o).run P w = .ok () { w with heap := w.heap.setIfInBounds B o } := by intro o; simp [setObj, Sem.run, hB]
  have hfi : es.findIdx? (fun e' => (e'.born : Int) == (e.born : Int)) = some j := by
    have := findIdx_born (nodup_born hbn) he
    rw [show es = es.toList.toArray by simp, List.findIdx?_toArray]
    exact this
  have hb := modify_born es j (fun e => { e with val := ev v }) (fun _ => rfl)
  refine ⟨{ w with heap := w.heap.setIfInBounds B (.map (es.modify j fun e => { e with val := ev v }) clk) }, ?_, ⟨_, clk, by simp [hlt], put_at hes hnd hj v, by rw [hb]; exact hbn, born_lt_of hb hbc, mput_nodup hnd _ _⟩, ⟨rfl, rfl, rfl, by simp, fun k _ hne => by
    have : B ≠ k := fun e => hne (by rw [e])
    simp [Array.getElem?_setIfInBounds_ne this]⟩, by simp⟩
  simp [Instr.entryStore, hgo, goInt, asInt, asIntOf, hfi, hset, Result.andThen]
variable {P : Program} {ops : Array Oper} {rest : List Oper} {o : Oper} {a : Act} {Q : Exit → Act → World → Prop}
/-- Guards: the operation ahead is of that form. -/
theorem at_mapEntry {w : World} {d : Option Nat} {mt ty : TypeId} {mo ko : Operand} {pos : String} {after : Array Edge} (h : wpList P ops Q ({ dst := d, op := Op.mapEntry mt mo ko, type := ty, pos := pos, after := after, guard := none } :: rest) a w) : wpList P ops Q ({ dst := d, op := Op.mapEntry mt mo ko, type := ty, pos := pos, after := after, guard := none } :: rest) a w := h
theorem at_entryStore {w : World} {d : Option Nat} {mt ty : TypeId} {mo so vo : Operand} {pos : String} {after : Array Edge} (h : wpList P ops Q ({ dst := d, op := Op.entryStore mt mo so vo, type := ty, pos := pos, after := after, guard := none } :: rest) a w) : wpList P ops Q ({ dst := d, op := Op.entryStore mt mo so vo, type := ty, pos := pos, after := after, guard := none } :: rest) a w := h
theorem wp_entry (hg : o.guard = none) {mo ko : Operand} {MT kt et : TypeId} (hop : o.op = Op.mapEntry MT mo ko) (K : Key P kt ek) (ht : P.underlying MT = some (.map kt et)) {z0 : ν} {w : World} (hz : (zeroValue et).run P w = .ok (ev z0) w) {B : Nat}
    (hm : a.eval mo = .map (some B)) {x : κ} (hx : a.eval ko = ek x) {m : List (κ × ν)} (hM : MapIs ek ev w B m)
    (hK : ∀ (w' : World) (st : Nat), StampIs ek ev w' B (mput m x ((mget m x).getD z0)) x st → w.grownBy w' (some B) → w'.heap.size = w.heap.size → wpList P ops Q rest (a.put o.dst (.tuple #[ev ((mget m x).getD z0), goInt st])) w') : wpList P ops Q (o :: rest) a w := by
  refine wpList_plain hg fun K' hK' => ?_
  obtain ⟨w', st, hrun, r1, r2, r3⟩ := entry_run K ht hz hM x
  unfold Oper.wp
  simp [execOp, hop, hm, hx, hrun, Result.andThen]
  exact hK' _ _ (hK w' st r1 r2 r3)
theorem wp_entryStore (hg : o.guard = none) {mo so vo : Operand} {MT : TypeId} (hop : o.op = Op.entryStore MT mo so vo) {w : World} {B st : Nat}
    (hm : a.eval mo = .map (some B)) {m : List (κ × ν)} {x : κ} (hs : a.eval so = goInt st) {v : ν} (hv : a.eval vo = ev v) (hM : StampIs ek ev w B m x st)
    (hK : ∀ w', MapIs ek ev w' B (mput m x v) → w.grownBy w' (some B) → w'.heap.size = w.heap.size → wpList P ops Q rest (a.put o.dst undef) w') : wpList P ops Q (o :: rest) a w := by
  refine wpList_plain hg fun K' hK' => ?_
  obtain ⟨w', hrun, r1, r2, r3⟩ := entryStore_run (P := P) (MT := MT) hM v
  unfold Oper.wp
  simp [execOp, hop, hm, hs, hv, hrun, Result.andThen]
  exact hK' _ _ (hK w' r1 r2 r3)
end
end Go.Proofs.Ytdocgemfedohdaa
