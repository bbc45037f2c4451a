/- marigoldref07.Last, walked. -/
import Derived.Test.YtkccakaaklemdaaRefV5
namespace Go.Proofs.Ytkccakaaklemdaa
open Go.RowKit
def LastPart (l : List Vote) (u : Int) (rs : List Int) (out : List Vote) : Prop := RisesV out ∧ (∀ v, v ∈ out ↔ InLast l u v ∧ v.frm ∈ rs) ∧ out.length ≤ rs.length
theorem lap_nil (l : List Vote) (u : Int) : LastPart l u [] [] := ⟨trivial, by simp, Nat.le_refl _⟩
theorem lap_skip {l : List Vote} {u : Int} {rs : List Int} {out : List Vote} {f : Int} (h : LastPart l u rs out) (hn : ∀ v, InLast l u v → v.frm ≠ f) : LastPart l u (rs ++ [f]) out := by
  refine ⟨h.1, fun v => ?_, by have := h.2.2; simp; omega⟩
  rw [h.2.1, List.mem_append, List.mem_singleton]
  exact ⟨fun ⟨h1, h2⟩ => ⟨h1, .inl h2⟩, fun ⟨h1, h2⟩ => ⟨h1, h2.elim id (fun e => absurd e (hn v h1))⟩⟩
theorem inLast_one {l : List Vote} {u : Int} {x v : Vote} (hx : InLast l u x) (hv : InLast l u v) (h : x.frm = v.frm) : x = v := by
  have h1 := hx.2.2.1 v hv.1 h.symm hv.2.1
  have h2 := hv.2.2.1 x hx.1 h hx.2.1
  exact dbl_one hx.1 hv.1 h (by omega) (hx.2.2.2 x hx.1 rfl hx.2.1)
theorem lap_take {l : List Vote} {u : Int} {rs : List Int} {out : List Vote} {v : Vote} (h : LastPart l u rs out) (hv : InLast l u v) (hlt : ∀ g ∈ rs, g < v.frm) : LastPart l u (rs ++ [v.frm]) (out ++ [v]) := by
  refine ⟨risesV_snoc h.1 (fun x hx => hlt _ ((h.2.1 x).1 hx).2), fun x => ?_, by have := h.2.2; simp; omega⟩
  rw [List.mem_append, List.mem_singleton, h.2.1, List.mem_append, List.mem_singleton]
  constructor
  · rintro (⟨h1, h2⟩ | rfl)
    · exact ⟨h1, .inl h2⟩
    · exact ⟨hv, .inr rfl⟩
  · rintro ⟨h1, h2 | h2⟩
    · exact .inl ⟨h1, h2⟩
    · exact .inr (inLast_one h1 hv h2)
theorem lap_all {l : List Vote} {u : Int} {r : List Int} {out : List Vote} (hw : WhoOk l r) (h : LastPart l u r out) : out = lastL l u :=
  lastL_eq ⟨h.1, fun v => by
    rw [h.2.1]
    exact ⟨fun h => h.1, fun hv => ⟨hv, (hw.2.1 _).2 ⟨v, hv.1, rfl⟩⟩⟩⟩
/-! What the inner loop knows. -/
def Mt (u f : Int) (y : Vote) : Prop := y.frm = f ∧ y.slot ≤ u
def L0 (l : List Vote) (u f : Int) (q : Nat) : Prop := ∀ y ∈ l.take q, ¬ Mt u f y
def L1 (l : List Vote) (u f : Int) (q : Nat) (z : Vote) : Prop := z ∈ l ∧ Mt u f z ∧ ∀ y ∈ l.take q, Mt u f y → y.slot ≤ z.slot
def LB (l : List Vote) (u f : Int) (q : Nat) (b : Bool) : Prop := b = true ↔ ∃ y ∈ l.take q, Mt u f y ∧ Dbl l y.slot f
theorem l0_no {l : List Vote} {u f : Int} {q : Nat} (hq : q < l.length) {y : Vote} (hy : l[q] = y) (h : L0 l u f q) (hn : ¬ Mt u f y) : L0 l u f (q + 1) := fun z hz => by
  rw [List.take_succ_eq_append_getElem hq, hy] at hz
  rcases List.mem_append.1 hz with hz | hz
  · exact h z hz
  · rw [List.mem_singleton.1 hz]; exact hn
theorem l0_yes {l : List Vote} {u f : Int} {q : Nat} (hq : q < l.length) {y : Vote} (hy : l[q] = y) (h : L0 l u f q) (hm : Mt u f y) : L1 l u f (q + 1) y := by
  refine ⟨hy ▸ List.getElem_mem hq, hm, fun z hz hzm => ?_⟩
  rw [List.take_succ_eq_append_getElem hq, hy] at hz
  rcases List.mem_append.1 hz with hz | hz
  · exact absurd hzm (h z hz)
  · rw [List.mem_singleton.1 hz]; exact Int.le_refl _
theorem l1_keep {l : List Vote} {u f : Int} {q : Nat} (hq : q < l.length) {y z : Vote} (hy : l[q] = y) (h : L1 l u f q z) (hk : Mt u f y → y.slot ≤ z.slot) : L1 l u f (q + 1) z := by
  refine ⟨h.1, h.2.1, fun x hx hxm => ?_⟩
  rw [List.take_succ_eq_append_getElem hq, hy] at hx
  rcases List.mem_append.1 hx with hx | hx
  · exact h.2.2 x hx hxm
  · rw [List.mem_singleton.1 hx] at hxm ⊢; exact hk hxm
theorem l1_new {l : List Vote} {u f : Int} {q : Nat} (hq : q < l.length) {y z : Vote} (hy : l[q] = y) (h : L1 l u f q z) (hm : Mt u f y) (hlt : z.slot < y.slot) : L1 l u f (q + 1) y := by
  refine ⟨hy ▸ List.getElem_mem hq, hm, fun x hx hxm => ?_⟩
  rw [List.take_succ_eq_append_getElem hq, hy] at hx
  rcases List.mem_append.1 hx with hx | hx
  · have := h.2.2 x hx hxm; omega
  · rw [List.mem_singleton.1 hx]; exact Int.le_refl _
theorem lb_no {l : List Vote} {u f : Int} {q : Nat} {b : Bool} (hq : q < l.length) {y : Vote} (hy : l[q] = y) (h : LB l u f q b) (hn : ¬ Mt u f y) : LB l u f (q + 1) b := by
  unfold LB at *
  rw [h, List.take_succ_eq_append_getElem hq, hy]
  constructor
  · rintro ⟨z, hz, r⟩; exact ⟨z, List.mem_append_left _ hz, r⟩
  · rintro ⟨z, hz, r⟩
    rcases List.mem_append.1 hz with hz | hz
    · exact ⟨z, hz, r⟩
    · rw [List.mem_singleton.1 hz] at r; exact absurd r.1 hn
theorem lb_yes {l : List Vote} {u f : Int} {q : Nat} {b : Bool} (hq : q < l.length) {y : Vote} (hy : l[q] = y) (h : LB l u f q b) (hm : Mt u f y) : LB l u f (q + 1) (b || decide (Dbl l y.slot f)) := by
  unfold LB at *
  rw [Bool.or_eq_true, decide_eq_true_eq, h, List.take_succ_eq_append_getElem hq, hy]
  constructor
  · rintro (⟨z, hz, r⟩ | hd)
    · exact ⟨z, List.mem_append_left _ hz, r⟩
    · exact ⟨y, by simp, hm, hd⟩
  · rintro ⟨z, hz, r⟩
    rcases List.mem_append.1 hz with hz | hz
    · exact .inl ⟨z, hz, r⟩
    · rw [List.mem_singleton.1 hz] at r; exact .inr r.2
theorem last_is {l : List Vote} {u f : Int} {z : Vote} (h : L1 l u f l.length z) (hb : LB l u f l.length false) : InLast l u z ∧ z.frm = f := by
  obtain ⟨h1, h2, h3⟩ := h
  rw [List.take_length] at h3
  refine ⟨⟨h1, h2.2, fun y hy e hu => h3 y hy ⟨e.trans h2.1, hu⟩, fun y hy e hu hd => ?_⟩, h2.1⟩
  have := hb.2 ⟨y, by rw [List.take_length]; exact hy, ⟨e.trans h2.1, hu⟩, by rw [← h2.1]; exact hd⟩
  cases this
theorem last_no0 {l : List Vote} {u f : Int} (h : L0 l u f l.length) : ∀ v, InLast l u v → v.frm ≠ f := fun v hv e => h v (by rw [List.take_length]; exact hv.1) ⟨e, hv.2.1⟩
theorem last_noB {l : List Vote} {u f : Int} (hb : LB l u f l.length true) : ∀ v, InLast l u v → v.frm ≠ f := fun v hv e => by
  obtain ⟨y, hy, hm, hd⟩ := hb.1 rfl
  rw [List.take_length] at hy
  exact hv.2.2.2 y hy (hm.1.trans e.symm) hm.2 (by rw [e]; exact hd)
end Go.Proofs.Ytkccakaaklemdaa
