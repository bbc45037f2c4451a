/- What each voted for, and who is double: a book of votes, in plain words. -/
import Derived.Test.YtkccakaaklemdaaVoteP
import Derived.Test.YtkccakaaklemdaaMapRange
import Derived.Test.YtkccakaaklemdaaKeys
namespace Go.Proofs.Ytkccakaaklemdaa
open Go.RowKit
/-- Who votes, and in which slot. -/
structure Dty where
  frm : Int
  slot : Int
  deriving DecidableEq
def dtyv (d : Dty) : Value := .agg #[.int .i64 d.frm, .int .i64 d.slot]
theorem eqlIn_dty (n : Nat) (x y : Dty) (w : World) : (Op.equalIn (n + 3) 61 (dtyv x) (dtyv y)).run Try.prog w = .ok (decide (x = y)) w := by
  have u := Try.underlying61
  have u3 := Try.underlying3
  have p := fun cs off v h w => part_int (P := Try.prog) u3 cs off v h w
  unfold dtyv
  rw [run_equalIn_struct _ _ _ _ _ (by kernel_rfl) (by kernel_rfl)]
  simp only [Program.fieldsOf, u]
  obtain ⟨x1, x2⟩ := x
  obtain ⟨y1, y2⟩ := y
  by_cases h1 : x1 = y1 <;> by_cases h2 : x2 = y2 <;> simp [Op.eqFields, p, run_equalIn_int _ _ _ _ _ _ _ u3, h1, h2]
theorem eql_dtyw (x y : Dty) (w : World) : (binOp .eql 61 (.agg #[.int .i64 x.frm, .int .i64 x.slot]) (.agg #[.int .i64 y.frm, .int .i64 y.slot])).run Try.prog w = .ok (.bool (decide (x = y))) w := by
  have h := eqlIn_dty 9997 x y w
  unfold dtyv at h
  rw [run_eql_struct, h]
  rfl
theorem KeyD : Key Try.prog 61 dtyv where
  chk := fun b x w => by
    have u := Try.underlying61
    have u3 := Try.underlying3
    have p := fun cs off v h w => part_int (P := Try.prog) u3 cs off v h w
    have c := fun b n x w => check_int (P := Try.prog) u3 b n x w
    unfold dtyv Instr.checkKey
    simp only [Sem.run_bind, run_underlying u, Result.andThen_ok]
    simp [List.forIn_cons, p, c]
  eq := fun x y w => eqlIn_dty 9997 x y w
  now := ⟨_, Try.underlying61, fun x y => .inl rfl⟩
  bits := fun x => by simp [Instr.sameBits, dtyv]
section
variable {κ ν : Type} [DecidableEq κ]
theorem mget_mput (m : List (κ × ν)) (x y : κ) (v : ν) : mget (mput m x v) y = if x = y then some v else mget m y := by
  unfold mput
  by_cases h : (mget m x).isSome
  · rw [if_pos h]
    unfold mget at h ⊢
    rw [List.find?_map]
    have hq : ((fun p : κ × ν => decide (p.1 = y)) ∘ fun p => if p.1 = x then (p.1, v) else p) = fun p => decide (p.1 = y) := by
      funext p
      simp only [Function.comp]
      split <;> rfl
    rw [hq]
    by_cases hxy : x = y
    · subst hxy
      rw [Option.isSome_map] at h
      obtain ⟨p, hp⟩ := Option.isSome_iff_exists.1 h
      have hpx := List.find?_some hp
      simp only [decide_eq_true_eq] at hpx
      simp [hp, hpx]
    · cases hf : m.find? (fun p => decide (p.1 = y)) with
      | none => simp [hxy]
      | some p =>
        have hpy := List.find?_some hf
        simp only [decide_eq_true_eq] at hpy
        have : ¬ p.1 = x := fun e => hxy (e.symm.trans hpy)
        simp [hxy, this]
  · rw [if_neg h]
    have hn : mget m x = none := by simpa using h
    unfold mget at hn ⊢
    rw [List.find?_append]
    by_cases hxy : x = y
    · subst hxy
      rw [Option.map_eq_none_iff] at hn
      simp [hn]
    · simp only [hxy, if_false]
      cases hf : m.find? (fun p => decide (p.1 = y)) with
      | none => simp [hxy]
      | some q => simp
theorem mgot_mem {m : List (κ × ν)} {x : κ} {v : ν} (h : mget m x = some v) : (x, v) ∈ m := by
  unfold mget at h
  obtain ⟨q, hq, rfl⟩ := Option.map_eq_some_iff.1 h
  have h1 := List.find?_some hq
  have h2 := List.mem_of_find?_eq_some hq
  simp only [decide_eq_true_eq] at h1
  subst h1
  exact h2
theorem mem_mget {m : List (κ × ν)} (hn : (m.map (·.1)).Nodup) {x : κ} {v : ν} (h : (x, v) ∈ m) : mget m x = some v := by
  induction m with
  | nil => cases h
  | cons p m ih =>
    simp only [List.map_cons, List.nodup_cons] at hn
    unfold mget
    rw [List.find?_cons]
    rcases List.mem_cons.1 h with rfl | h
    · simp
    · have hne : p.1 ≠ x := fun e => hn.1 (e ▸ List.mem_map_of_mem (f := (·.1)) h)
      simp only [hne, decide_false]
      exact ih hn.2 h
theorem mget_mdel (m : List (κ × ν)) (x y : κ) : mget (mdel m x) y = if x = y then none else mget m y := by
  unfold mdel mget
  induction m with
  | nil => simp
  | cons p m ih =>
    by_cases hp : p.1 = x
    · have e1 : decide (p.1 ≠ x) = false := by simp [hp]
      rw [List.filter_cons, e1]
      simp only [Bool.false_eq_true, if_false, ih]
      by_cases hxy : x = y
      · simp [hxy]
      · have : decide (p.1 = y) = false := by simp only [decide_eq_false_iff_not]; intro e; exact hxy (hp.symm.trans e)
        simp only [hxy, if_false, List.find?_cons, this]
    · have e1 : decide (p.1 ≠ x) = true := by simp [hp]
      rw [List.filter_cons, e1]
      simp only [if_true, List.find?_cons]
      by_cases hpy : p.1 = y
      · have hxy : ¬ x = y := fun e => hp (hpy.trans e.symm)
        simp [hpy, hxy]
      · simp only [hpy, decide_false]
        exact ih
end
def dty (v : Vote) : Dty := ⟨v.frm, v.slot⟩
/-- The book of votes: m the heads, b who is double. -/
structure Book (l : List Vote) (m : List (Dty × ID)) (b : List (Dty × Bool)) : Prop where
  there : ∀ d id, mget m d = some id → ⟨d.frm, d.slot, id⟩ ∈ l
  all : ∀ v ∈ l, (mget m (dty v)).isSome = true
  bad : ∀ d, (mget b d).isSome = true ↔ Dbl l d.slot d.frm
  yes : ∀ d x, mget b d = some x → x = true
theorem book_nil : Book [] [] [] := ⟨by simp [mget], by simp, by simp [mget, Dbl], by simp [mget]⟩
theorem dbl_snoc {l : List Vote} {v : Vote} {s f : Int} : Dbl (l ++ [v]) s f ↔ Dbl l s f ∨ (v.frm = f ∧ v.slot = s ∧ ∃ y ∈ l, y.frm = f ∧ y.slot = s ∧ y.head ≠ v.head) := by
  constructor
  · rintro ⟨x, hx, y, hy, h1, h2, h3, h4, h5⟩
    rw [List.mem_append, List.mem_singleton] at hx hy
    rcases hx with hx | rfl
    · rcases hy with hy | rfl
      · exact .inl ⟨x, hx, y, hy, h1, h2, h3, h4, h5⟩
      · exact .inr ⟨h2, h4, x, hx, h1, h3, h5⟩
    · rcases hy with hy | rfl
      · exact .inr ⟨h1, h3, y, hy, h2, h4, fun e => h5 e.symm⟩
      · exact absurd rfl h5
  · rintro (h | ⟨h1, h2, y, hy, h3, h4, h5⟩)
    · exact dbl_mono (fun x hx => by simp [hx]) h
    · exact ⟨y, by simp [hy], v, by simp, h3, h1, h4, h2, h5⟩
theorem book_heads {l : List Vote} {m : List (Dty × ID)} {b : List (Dty × Bool)} (h : Book l m b) (v : Vote) :
    (∀ d id, mget (mput m (dty v) v.head) d = some id → ⟨d.frm, d.slot, id⟩ ∈ l ++ [v]) ∧ ∀ x ∈ l ++ [v], (mget (mput m (dty v) v.head) (dty x)).isSome = true := by
  constructor
  · intro d id hd
    rw [mget_mput] at hd
    by_cases he : dty v = d
    · rw [if_pos he] at hd
      cases hd
      subst he
      simp [dty]
    · rw [if_neg he] at hd
      exact List.mem_append_left _ (h.there d id hd)
  · intro x hx
    rw [mget_mput]
    split
    · rfl
    · rename_i hne
      rw [List.mem_append, List.mem_singleton] at hx
      rcases hx with hx | rfl
      · exact h.all x hx
      · exact absurd rfl hne
theorem book_same {l : List Vote} {m : List (Dty × ID)} {b : List (Dty × Bool)} (h : Book l m b) (v : Vote) (hw : mget m (dty v) = none ∨ mget m (dty v) = some v.head) : Book (l ++ [v]) (mput m (dty v) v.head) b := by
  obtain ⟨h1, h2⟩ := book_heads h v
  refine ⟨h1, h2, fun d => ?_, h.yes⟩
  rw [h.bad, dbl_snoc]
  constructor
  · exact .inl
  · rintro (h' | ⟨e1, e2, y, hy, e3, e4, e5⟩)
    · exact h'
    · have hd : dty y = dty v := by unfold dty; rw [e3, e4, ← e1, ← e2]
      have hall := h.all y hy
      rw [hd] at hall
      rcases hw with hw | hw
      · rw [hw] at hall; cases hall
      · have := h.there _ _ hw
        refine ⟨y, hy, _, this, e3, ?_, e4, ?_, e5⟩
        · exact e1
        · exact e2
theorem book_diff {l : List Vote} {m : List (Dty × ID)} {b : List (Dty × Bool)} (h : Book l m b) (v : Vote) {id : ID} (hw : mget m (dty v) = some id) (hne : id ≠ v.head) : Book (l ++ [v]) (mput m (dty v) v.head) (mput b (dty v) true) := by
  obtain ⟨h1, h2⟩ := book_heads h v
  refine ⟨h1, h2, fun d => ?_, fun d x hx => ?_⟩
  · rw [mget_mput, dbl_snoc]
    by_cases he : dty v = d
    · rw [if_pos he]
      subst he
      simp only [Option.isSome_some, true_iff]
      exact .inr ⟨rfl, rfl, _, h.there _ _ hw, rfl, rfl, hne⟩
    · rw [if_neg he, h.bad]
      constructor
      · exact .inl
      · rintro (h' | ⟨e1, e2, _⟩)
        · exact h'
        · exact absurd (by unfold dty; rw [e1, e2]) he
  · rw [mget_mput] at hx
    by_cases he : dty v = d
    · rw [if_pos he] at hx; cases hx; rfl
    · rw [if_neg he] at hx; exact h.yes d x hx
end Go.Proofs.Ytkccakaaklemdaa
