/- Items that come in, read. -/
import Derived.Test.YtibmfpcbjopojaaGJ
import Derived.Test.YtibmfpcbjopojaaArrW
namespace Go.Proofs.Ytibmfpcbjopojaa
open Go.RowKit
def Item.Ok (x : Item) : Prop := x.id.Ok ∧ I64 x.par ∧ I64 x.own ∧ I64 x.w ∧ I64 x.best ∧ I64 x.head
theorem cells_item : Try.prog.cellsOf 103 = 7 := by kernel_rfl
theorem l7 {α : Type} {l : List α} (h : l.length = 7) : ∃ a b c d e f g, l = [a, b, c, d, e, f, g] := by
  match l, h with
  | [a, b, c, d, e, f, g], _ => exact ⟨a, b, c, d, e, f, g, rfl⟩
section
variable {H : Type} {en : TypeId × Value → H} {W : World} {base : Nat} {spare : Nat → Bool} {held : Bool} {n : Nat} {cs : List Value} {y : DataW H × List MemPlace}
theorem read_item (h : DataW.trod en Try.prog W base spare held n 103 cs = some y) : ∃ b : Item, cs = encItem b ∧ b.Ok := by
  obtain ⟨hl, m, hf⟩ := trd_field Try.underlying103 h
  rw [cells_item] at hl
  obtain ⟨a, b, c, d, e, f, g, rfl⟩ := l7 hl
  simp only [List.mem_cons, List.not_mem_nil, or_false, forall_eq_or_imp, forall_eq] at hf
  obtain ⟨⟨_, h0⟩, ⟨_, h1⟩, ⟨_, h2⟩, ⟨_, h3⟩, ⟨_, h4⟩, ⟨_, h5⟩⟩ := hf
  simp only [cells_int, cells_id, List.drop_zero, List.drop_succ_cons, List.take_succ_cons, List.take_zero] at h0 h1 h2 h3 h4 h5
  obtain ⟨x0, e0, k0⟩ := read_id h0
  obtain ⟨x1, e1, k1⟩ := read_i64 h1
  obtain ⟨x2, e2, k2⟩ := read_i64 h2
  obtain ⟨x3, e3, k3⟩ := read_i64 h3
  obtain ⟨x4, e4, k4⟩ := read_i64 h4
  obtain ⟨x5, e5, k5⟩ := read_i64 h5
  simp only [encID, List.cons.injEq, and_true] at e0 e1 e2 e3 e4 e5
  obtain ⟨rfl, rfl⟩ := e0
  subst e1 e2 e3 e4 e5
  exact ⟨⟨x0, x1, x2, x3, x4, x5⟩, rfl, k0, k1, k2, k3, k4, k5⟩
end
section
variable {H : Type} {en : TypeId × Value → H} {W : World} {held : Bool} {r : Reach} {b0 : Nat} {v : Value} {d : DataW H} {p : List MemPlace}
open Go.ChangeShapes Go.WideShapes Go.ChangeAt
set_option maxRecDepth 100000 in
theorem open_itemsN (hv : Value.okWide Try.prog W r b0 51 v) (h : DataW.Trod en Try.prog W 0 (fun _ => true) held 51 v d p) :
    ∃ (A : Option Addr) (l : List Item) (k : Nat), v = .slice A l.length k ∧ l.length ≤ k ∧ k ≤ maxLen ∧ Rd 7 encItem W A l ∧ (∀ b ∈ l, b.Ok) ∧ (A = none → k = 0) := by
  obtain ⟨A, len, cap, rfl⟩ := okWide_slice Try.underlying51 hv
  obtain ⟨fuel, hf⟩ := h
  obtain ⟨l, rfl, hc, hm, hR, hk⟩ := open_sl encItem_len Try.underlying51 cells_item (by decide) (fun n cs y h => read_item h) hf
  exact ⟨A, l, cap, rfl, hc, hm, hR, hk, none_cap Try.underlying51 hf⟩
end
theorem SameSk.symm {a b : List Item} (h : SameSk a b) : SameSk b a := ⟨h.1.symm, fun i hi => by obtain ⟨h1, h2, h3⟩ := h.2 i (by rw [h.1]; exact hi); exact ⟨h1.symm, h2.symm, h3.symm⟩⟩
theorem sk_uniq {a b T : List Item} (hp : ParOk T) (h1 : Settled a ∧ SameSk a T) (h2 : Settled b ∧ SameSk b T) : a = b := settled_uniq (h1.2.par hp) (h1.2.trans h2.2.symm) h1.1 h2.1
theorem insE_may {a : List Item} {id par : ID} (h : insE a id par = 0) : MayA a ∧ id ≠ zid ∧ findI a id = -1 ∧ ¬ (findI a par = -1 ∧ par ≠ zid) ∧ a.length ≠ 60 := by
  unfold insE at h
  split at h
  · omega
  · rename_i h1
    split at h
    · omega
    · rename_i h2
      split at h
      · omega
      · rename_i h3
        split at h
        · omega
        · rename_i h4
          exact ⟨Classical.not_not.1 (fun h => h1 (.inl h)), fun h => h1 (.inr h), Classical.not_not.1 h2, h3, h4⟩
theorem new_par {a : List Item} (hM : MayA a) (id par : ID) : ParOk (a ++ [newItem id (findI a par) a.length]) := fun i hi => by
  simp at hi
  by_cases e : i < a.length
  · rw [itm_app _ _ _ e]; exact hM.2.1.parOk i e
  · obtain rfl : i = a.length := by omega
    rw [itm_new]
    show -1 ≤ findI a par ∧ findI a par < a.length
    rcases find_spec a par with ⟨h, _⟩ | ⟨q, hq, h, _⟩ <;> omega
theorem ins_same {a x y : List Item} {id par : ID} (h1 : InsP a id par x) (h2 : InsP a id par y) : x = y := by
  by_cases hE : insE a id par = 0
  · exact sk_uniq (new_par (insE_may hE).1 id par) (h1.2 hE) (h2.2 hE)
  · rw [h1.1 hE, h2.1 hE]
theorem mvE_may {a : List Item} {id : ID} {y : Int} (h : mvE a id y = 0) : MayA a ∧ ∃ k : Nat, k < a.length ∧ findI a id = k ∧ (itm a k).id = id ∧ -1125899906842624 ≤ y ∧ y ≤ 1125899906842624 ∧ 0 ≤ (itm a k).own + y ∧ (itm a k).own + y ≤ 1125899906842624 := by
  unfold mvE at h
  split at h
  · omega
  · rename_i h1
    split at h
    · omega
    · rename_i h2
      split at h
      · omega
      · rename_i h3
        refine ⟨Classical.not_not.1 h1, ?_⟩
        rcases find_spec a id with ⟨e, _⟩ | ⟨k, hk, e, e2, _⟩
        · exact absurd e h2
        · rw [e] at h3
          simp only [Int.toNat_natCast] at h3
          exact ⟨k, hk, e, e2, by omega, by omega, by omega, by omega⟩
theorem moved_parok {a : List Item} (hM : MayA a) {k : Nat} (hk : k < a.length) (y : Int) : ParOk (moved a k y) := fun i hi => by
  rw [moved_len] at hi
  rw [(moved_par hk i).1]
  exact hM.2.1.parOk i hi
theorem mv_same {a l1 l2 : List Item} {id : ID} {y : Int} (h1 : MvP a id y l1) (h2 : MvP a id y l2) : l1 = l2 := by
  by_cases hE : mvE a id y = 0
  · obtain ⟨hM, k, hk, e, _⟩ := mvE_may hE
    have := moved_parok hM hk y
    refine sk_uniq (T := moved a (findI a id).toNat y) ?_ (h1.2 hE) (h2.2 hE)
    rw [e]
    simpa using this
  · rw [h1.1 hE, h2.1 hE]
end Go.Proofs.Ytibmfpcbjopojaa
