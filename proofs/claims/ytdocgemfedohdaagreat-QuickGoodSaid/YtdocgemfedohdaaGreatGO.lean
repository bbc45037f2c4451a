/- GO: several texts in one. -/
import Derived.Test.YtdocgemfedohdaaGreatGN
import Derived.Test.YtdocgemfedohdaaGreatGI
import Derived.Test.YtdocgemfedohdaaGreatGL
import Derived.Test.YtdocgemfedohdaaGreatGC
/-! marigoldref07.put, walked. (Printed by gen_put.py.) -/
namespace Go.Proofs.YtdocgemfedohdaaGreat
open Go.RowKit
/-- A slice of ints that comes in, or is a call's own. -/
structure Sl (w : World) (A : Option Addr) (k : Nat) (l : List Int) : Prop where
  rd : Rd 1 encI w A l
  le : l.length ≤ k
  mx : k ≤ maxLen
  nn : A = none → k = 0
  sh : A = none ∨ ∃ b o, A = some ⟨b, o, none⟩
theorem Sl.below {w W : World} {A : Option Addr} {k : Nat} {l : List Int} (h : Sl w A k l) (hb : Below w.heap.size w W) : Sl W A k l := ⟨h.rd.below hb, h.le, h.mx, h.nn, h.sh⟩
theorem sl_nil (w : World) : Sl w none 0 [] := ⟨Rd_nil _ _ _ _, Nat.le_refl _, Nat.zero_le _, fun _ => rfl, .inl rfl⟩
theorem own_sl {w : World} {base : Nat} {v : Value} {xs : List Int} (h : Own w base 3 1 encI v xs) : ∃ A c, v = .slice A xs.length c ∧ Sl w A c xs := by
  obtain ⟨A, c, hv, hc, hmx, hr⟩ := h.rdm encI_len
  refine ⟨A, c, hv, hr, hc, hmx, fun e => ?_, ?_⟩
  · rcases h.2 with ⟨h1, _⟩ | ⟨g, cap, cur, h1, _⟩
    · rw [hv] at h1; injection h1
    · rw [hv, e] at h1; injection h1 with h1 _ _; cases h1
  · rcases h.2 with ⟨h1, _⟩ | ⟨g, cap, cur, h1, _⟩
    · rw [hv] at h1; injection h1 with h1 _ _; exact .inl h1
    · rw [hv] at h1; injection h1 with h1 _ _; exact .inr ⟨g, 0, h1⟩
theorem ilay (w : World) (f : Int) : Below w.heap.size w (w.alloc (.cells #[.int .i64 f] 3)) ∧ (w.alloc (.cells #[.int .i64 f] 3)).heap[w.heap.size]? = some (.cells #[.int .i64 f] 3 (0, 0)) :=
  ⟨(Below.refl _ w).alloc (Nat.le_refl _) _, ha_at rfl⟩
theorem rises_parts {a b : List Int} (h : Rises (a ++ b)) : Rises a ∧ Rises b := by
  induction a with
  | nil => exact ⟨trivial, h⟩
  | cons x a ih => exact ⟨⟨fun y hy => h.1 y (List.mem_append_left _ hy), (ih h.2).1⟩, (ih h.2).2⟩
theorem rises_join {a b : List Int} (ha : Rises a) (hb : Rises b) (h : ∀ x ∈ a, ∀ y ∈ b, x < y) : Rises (a ++ b) := by
  induction a with
  | nil => exact hb
  | cons x a ih =>
    refine ⟨fun y hy => ?_, ih ha.2 (fun z hz => h z (by simp [hz]))⟩
    rcases List.mem_append.1 hy with hy | hy
    · exact ha.1 y hy
    · exact h x (by simp) y hy
/-- What a number put into a list that rises makes of it. -/
def PutOk (l : List Int) (f : Int) (r : List Int) : Prop := Rises r ∧ (∀ g, g ∈ r ↔ g ∈ l ∨ g = f) ∧ r.length ≤ l.length + 1
theorem put_same {l : List Int} {f : Int} (h : Rises l) (hf : f ∈ l) : PutOk l f l := ⟨h, fun g => ⟨.inl, fun e => e.elim id (fun e => e ▸ hf)⟩, by omega⟩
theorem ins_law {l hd rest : List Int} {f : Int} {m : Nat} (hl : l = hd ++ rest) (hr : Rises l) (hm : hd.length = m) (hgt : ∀ j, m ≤ j → (hj : j < l.length) → f < l[j]) (hlt : ∀ j, j < m → (hj : j < l.length) → l[j] < f) :
    PutOk l f (hd ++ [f] ++ rest) := by
  subst hl
  subst hm
  obtain ⟨h1, h2⟩ := rises_parts hr
  refine ⟨rises_join (rises_join h1 ⟨by simp, trivial⟩ ?_) h2 ?_, fun g => ?_, by simp; omega⟩
  · intro a ha b hb
    rw [List.mem_singleton.1 hb]
    obtain ⟨i, hi, rfl⟩ := List.getElem_of_mem ha
    have := hlt i hi (by simp; omega)
    rwa [List.getElem_append_left hi] at this
  · intro a ha b hb
    have hb' : f < b := by
      obtain ⟨i, hi, rfl⟩ := List.getElem_of_mem hb
      have := hgt (hd.length + i) (by omega) (by simp; omega)
      rwa [List.getElem_append_right (by omega), List.getElem_of_eq rfl, show (rest[hd.length + i - hd.length]'(by omega)) = rest[i] from by congr 1; omega] at this
    rcases List.mem_append.1 ha with ha | ha
    · obtain ⟨i, hi, rfl⟩ := List.getElem_of_mem ha
      have := hlt i hi (by simp; omega)
      rw [List.getElem_append_left hi] at this
      omega
    · rw [List.mem_singleton.1 ha]; exact hb'
  · simp only [List.mem_append, List.mem_singleton]
    constructor
    · rintro ((h | h) | h)
      · exact .inl (.inl h)
      · exact .inr h
      · exact .inl (.inr h)
    · rintro ((h | h) | h)
      · exact .inl (.inl h)
      · exact .inr h
      · exact .inl (.inr h)
end Go.Proofs.YtdocgemfedohdaaGreat
/-! marigoldref07.put, walked. (Printed by gen_put2.py.) -/
namespace Go.Proofs.YtdocgemfedohdaaGreat
open Go.RowKit
end Go.Proofs.YtdocgemfedohdaaGreat
/-! marigoldref07.who, Doubles, walked. -/
namespace Go.Proofs.YtdocgemfedohdaaGreat
open Go.RowKit
/-- Who has a vote. -/
def WhoOk (l : List Vote) (r : List Int) : Prop := Rises r ∧ (∀ g, g ∈ r ↔ ∃ x ∈ l, x.frm = g) ∧ r.length ≤ l.length
theorem who_nil : WhoOk [] [] := ⟨trivial, by simp, Nat.le_refl _⟩
theorem who_step {l : List Vote} {r r' : List Int} {j : Nat} (hj : j < l.length) (h : WhoOk (l.take j) r) {x : Vote} (hx : l[j] = x) (hp : PutOk r x.frm r') : WhoOk (l.take (j + 1)) r' := by
  rw [List.take_succ_eq_append_getElem hj, hx]
  refine ⟨hp.1, fun g => ?_, ?_⟩
  · rw [hp.2.1, h.2.1]
    constructor
    · rintro (⟨y, hy, e⟩ | e)
      · exact ⟨y, List.mem_append_left _ hy, e⟩
      · exact ⟨x, by simp, e.symm⟩
    · rintro ⟨y, hy, e⟩
      rcases List.mem_append.1 hy with hy | hy
      · exact .inl ⟨y, hy, e⟩
      · rw [List.mem_singleton.1 hy] at e; exact .inr e.symm
  · have h1 := hp.2.2
    have h2 := h.2.2
    simp only [List.length_append, List.length_singleton]
    omega
theorem rises_filter (p : Int → Bool) : ∀ {l : List Int}, Rises l → Rises (l.filter p)
  | [], _ => trivial
  | x :: xs, h => by
    have ih := rises_filter p (l := xs) h.2
    by_cases e : p x = true
    · rw [List.filter_cons_of_pos e]
      exact ⟨fun z hz => h.1 z (List.mem_filter.1 hz).1, ih⟩
    · rw [List.filter_cons_of_neg e]
      exact ih
def dblF (l : List Vote) (s : Int) (r : List Int) : List Int := r.filter fun f => decide (Dbl l s f)
theorem dblF_snoc (l : List Vote) (s : Int) {r : List Int} {k : Nat} (h : k < r.length) : dblF l s (r.take (k + 1)) = dblF l s (r.take k) ++ (if Dbl l s r[k] then [r[k]] else []) := by
  unfold dblF
  rw [List.take_succ_eq_append_getElem h, List.filter_append]
  by_cases e : Dbl l s r[k] <;> simp [e]
theorem dblF_len (l : List Vote) (s : Int) (r : List Int) : (dblF l s r).length ≤ r.length := List.length_filter_le _ _
theorem dblF_all {l : List Vote} {s : Int} {r : List Int} (h : WhoOk l r) : dblF l s r = dblL l s :=
  dblL_eq ⟨rises_filter _ h.1, fun f => by
    unfold dblF
    rw [List.mem_filter, decide_eq_true_eq, h.2.1]
    exact ⟨fun h => h.2, fun hd => ⟨by obtain ⟨x, hx, hf, _⟩ := dbl_mem hd; exact ⟨x, hx, hf⟩, hd⟩⟩⟩
end Go.Proofs.YtdocgemfedohdaaGreat
/-! marigoldref07.Of, walked. -/
namespace Go.Proofs.YtdocgemfedohdaaGreat
open Go.RowKit
/-- The votes that count, of some. -/
def OfPart (l : List Vote) (s : Int) (rs : List Int) (out : List Vote) : Prop := RisesV out ∧ (∀ v, v ∈ out ↔ InOf l s v ∧ v.frm ∈ rs) ∧ out.length ≤ rs.length
theorem ofp_nil (l : List Vote) (s : Int) : OfPart l s [] [] := ⟨trivial, by simp, Nat.le_refl _⟩
theorem ofp_skip {l : List Vote} {s : Int} {rs : List Int} {out : List Vote} {f : Int} (h : OfPart l s rs out) (hn : ∀ v, InOf l s v → v.frm ≠ f) : OfPart l s (rs ++ [f]) out := by
  refine ⟨h.1, fun v => ?_, by have := h.2.2; simp; omega⟩
  rw [h.2.1, List.mem_append, List.mem_singleton]
  exact ⟨fun ⟨h1, h2⟩ => ⟨h1, .inl h2⟩, fun ⟨h1, h2⟩ => ⟨h1, h2.elim id (fun e => absurd e (hn v h1))⟩⟩
theorem risesV_snoc : ∀ {out : List Vote} {v : Vote}, RisesV out → (∀ x ∈ out, x.frm < v.frm) → RisesV (out ++ [v])
  | [], _, _, _ => ⟨by simp, trivial⟩
  | x :: xs, v, h, hl => by
    refine ⟨fun z hz => ?_, risesV_snoc (out := xs) h.2 (fun y hy => hl y (by simp [hy]))⟩
    obtain ⟨y, hy, rfl⟩ := List.mem_map.1 hz
    rcases List.mem_append.1 hy with hy | hy
    · exact h.1 _ (List.mem_map_of_mem hy)
    · rw [List.mem_singleton.1 hy]; exact hl x (by simp)
theorem ofp_take {l : List Vote} {s : Int} {rs : List Int} {out : List Vote} {v : Vote} (h : OfPart l s rs out) (hv : InOf l s v) (hlt : ∀ g ∈ rs, g < v.frm) : OfPart l s (rs ++ [v.frm]) (out ++ [v]) := by
  refine ⟨risesV_snoc h.1 (fun x hx => hlt _ ((h.2.1 x).1 hx).2), fun x => ?_, by have := h.2.2; simp; omega⟩
  rw [List.mem_append, List.mem_singleton, h.2.1, List.mem_append, List.mem_singleton]
  constructor
  · rintro (⟨h1, h2⟩ | rfl)
    · exact ⟨h1, .inl h2⟩
    · exact ⟨hv, .inr rfl⟩
  · rintro ⟨h1, h2 | h2⟩
    · exact .inl ⟨h1, h2⟩
    · exact .inr (dbl_one h1.1 hv.1 h2 (h1.2.1.trans hv.2.1.symm) (by rw [h1.2.1]; exact h1.2.2))
theorem ofp_all {l : List Vote} {s : Int} {r : List Int} {out : List Vote} (hw : WhoOk l r) (h : OfPart l s r out) : out = ofL l s :=
  ofL_eq ⟨h.1, fun v => by
    rw [h.2.1]
    exact ⟨fun h => h.1, fun hv => ⟨hv, (hw.2.1 _).2 ⟨v, hv.1, rfl⟩⟩⟩⟩
end Go.Proofs.YtdocgemfedohdaaGreat
/-! The document's votes of a committee, walked. -/
namespace Go.Proofs.YtdocgemfedohdaaGreat
open Go.RowKit
end Go.Proofs.YtdocgemfedohdaaGreat
/-! The walks of marigoldref06.Kids, Chain and Under. -/
namespace Go.Proofs.YtdocgemfedohdaaGreat
open Go.RowKit
theorem own_new1 {α : Type} {k : Nat} {enc : α → List Value} {w : World} {base g : Nat} {T : TypeId} {x : α} {cs : Array Value} (h : w.heap[g]? = some (.cells cs T (0, 0))) (hk : ∀ x, (enc x).length = k) (hcs : cs = (enc x).toArray) (hb : base ≤ g) : Own w base T k enc (.slice (some ⟨g, 0, none⟩) 1 1) [x] := by
  subst hcs
  exact ⟨by simp [hk], .inr ⟨g, 1, _, rfl, hb, h, Nat.le_refl _, by unfold maxLen; omega, by simp [hk], by simp [← hk x]⟩⟩
end Go.Proofs.YtdocgemfedohdaaGreat
