/- Whether two votes may not both be, walked. -/
import Derived.Test.YtigdbcfpamnkcaaSlashA
namespace Go.Proofs.Ytigdbcfpamnkcaa
open Go.RowKit
def encF (v : Value) : List Value := [v]
theorem Rd.atF {w : World} {A : Option Addr} {xs : List Value} (h : Rd 1 encF w A xs) {i : Nat} (hi : i < xs.length) :
    ∃ b o, A = some ⟨b, o, none⟩ ∧ b < w.heap.size ∧ w.cell? ⟨b, o + i, none⟩ = some xs[i] := by
  obtain ⟨b, o, hA, hlt, hc⟩ := h.at hi
  exact ⟨b, o, hA, hlt, by simpa using hc 0 _ rfl⟩
theorem any_step {α : Type} {p : α → Bool} {xs : List α} {k : Nat} (hlt : k < xs.length) (h : (xs.take k).any p = false) (hk : p xs[k] = false) : (xs.take (k + 1)).any p = false := by
  rw [← List.take_append_getElem hlt, List.any_append, h]
  simp [hk]
theorem any_at {α : Type} {p : α → Bool} {xs : List α} {k : Nat} (hlt : k < xs.length) (hk : p xs[k] = true) : xs.any p = true := List.any_eq_true.2 ⟨_, List.getElem_mem hlt, hk⟩
/-- Where the first one is, or -1. -/
def idxP {α : Type} (p : α → Bool) (xs : List α) : Int := if xs.any p then ((xs.findIdx p : Nat) : Int) else -1
theorem findIdx_at {α : Type} {p : α → Bool} {xs : List α} {k : Nat} (hlt : k < xs.length) (h : (xs.take k).any p = false) (hk : p xs[k] = true) : xs.findIdx p = k := by
  rw [List.findIdx_eq hlt]
  refine ⟨hk, fun j hj => ?_⟩
  rw [List.any_eq_false] at h
  simpa using h xs[j] (List.mem_take_iff_getElem.2 ⟨j, by omega, rfl⟩)
theorem idxP_at {α : Type} {p : α → Bool} {xs : List α} {k : Nat} (hlt : k < xs.length) (h : (xs.take k).any p = false) (hk : p xs[k] = true) : idxP p xs = k := by
  unfold idxP
  rw [if_pos (any_at hlt hk), findIdx_at hlt h hk]
theorem idxP_none {α : Type} {p : α → Bool} {xs : List α} (h : xs.any p = false) : idxP p xs = -1 := by unfold idxP; rw [h]; rfl
theorem idxP_geq {α : Type} {p : α → Bool} (xs : List α) : decide (0 ≤ idxP p xs) = xs.any p := by
  unfold idxP
  cases xs.any p <;> simp
set_option maxRecDepth 100000 in
set_option maxHeartbeats 1000000 in
theorem fidx_any (p : Value → Bool) (fs : List Value) (A : Option Addr) (c : Nat) (p1 p2 : Value) (w : World) (hr : Rd 1 encF w A fs)
    (h : ∀ f ∈ fs, ∀ V, Below w.heap.size w V → Calls Try.prog 27 #[f, p1, p2] V fun e V' => e = .returned (.bool (p f)) ∧ Below V.heap.size V V') :
    Calls Try.prog 39 #[.slice A fs.length c, .func (.func 27) #[] #[p1, p2]] w fun e w' =>
      e = .returned (.int .i64 (idxP p fs)) ∧ Below w.heap.size w w' := by
  have hm := hr.1
  have hh := Lib.hid h
  clear h
  go_enter Try.func39, Try.ntmps39
  go_wp2_with fail
  go_loopw [5, 8] (fun u5 i wr => ∃ k : Nat, k ≤ fs.length ∧ i = .int .i64 k ∧ Hid ((fs.take k).any p = false) ∧ Below w.heap.size w wr) (fun _ i _ => fs.length - (intOf i).toNat)
  case atStart => exact ⟨0, Nat.zero_le _, rfl, Lib.hid (by simp), Below.refl _ _⟩
  case round =>
    obtain ⟨k, hk, rfl, hno, hB⟩ := hrel
    by_cases hlt : k < fs.length
    · obtain ⟨b, o, rfl, hbo, d⟩ := (hr.below hB).atF hlt
      have hst := Lib.hid (fun e => any_step hlt hno.out e)
      have hst2 := Lib.hid (fun e => idxP_at hlt hno.out e)
      have hc := Lib.hid (hh.out fs[k] (List.getElem_mem hlt))
      obtain ⟨f, hf⟩ : ∃ f, fs[k] = f := ⟨_, rfl⟩
      have hst' := Lib.hid (show p f = false → (fs.take (k + 1)).any p = false from hf ▸ hst.out)
      have hst2' := Lib.hid (show p f = true → idxP p fs = k from hf ▸ hst2.out)
      have hc' := Lib.hid (show ∀ V, Below w.heap.size w V → Calls Try.prog 27 #[f, p1, p2] V fun e V' => e = .returned (.bool (p f)) ∧ Below V.heap.size V V' from hf ▸ hc.out)
      clear hst hst2 hc
      rw [hf] at d
      clear hf
      cases hp : p f with
      | true =>
        have hx := Lib.hid (hst2'.out hp)
        have hcc := hc'.out _ hB
        rw [hp] at hcc
        clear hp hst' hst2' hc'
        go_wp2_with (go_at_call 27; with_reducible refine hcc.mono ?_; clear hcc; rintro e w1 ⟨rfl, hb1⟩)
        go_ret
        exact ⟨ret_int hx.out.symm, below_call hB hB.size hb1⟩
      | false =>
        have hx := Lib.hid (hst'.out hp)
        have hcc := hc'.out _ hB
        rw [hp] at hcc
        clear hp hst' hst2' hc'
        go_wp2_with (go_at_call 27; with_reducible refine hcc.mono ?_; clear hcc; rintro e w1 ⟨rfl, hb1⟩)
        go_roundw
        case rel => exact ⟨k + 1, hlt, by go_num, hx, below_call hB hB.size hb1⟩
        case measure => simp [intOf]; omega
    · obtain rfl : k = fs.length := by omega
      have hx := Lib.hid (show idxP p fs = -1 from idxP_none (by have := hno.out; rwa [List.take_length] at this))
      go_wp2_with fail
      go_ret
      exact ⟨ret_int hx.out.symm, hB⟩
set_option maxRecDepth 100000 in
set_option maxHeartbeats 1000000 in
theorem fany_any (p : Value → Bool) (fs : List Value) (A : Option Addr) (c : Nat) (p1 p2 : Value) (w : World) (hr : Rd 1 encF w A fs)
    (h : ∀ f ∈ fs, ∀ V, Below w.heap.size w V → Calls Try.prog 27 #[f, p1, p2] V fun e V' => e = .returned (.bool (p f)) ∧ Below V.heap.size V V') :
    Calls Try.prog 26 #[.slice A fs.length c, .func (.func 27) #[] #[p1, p2]] w fun e w' =>
      e = .returned (.bool (fs.any p)) ∧ Below w.heap.size w w' := by
  have hm := hr.1
  have hc := fidx_any p fs A c p1 p2 w hr h
  have hg := idxP_geq (p := p) fs
  clear h
  obtain ⟨r, hr'⟩ : ∃ r, idxP p fs = r := ⟨_, rfl⟩
  rw [hr'] at hc hg
  have hg' := Lib.hid hg
  clear hr' hg
  go_enter Try.func26, Try.ntmps26
  go_wp2_with (go_at_call 39; with_reducible refine hc.mono ?_; clear hc; rintro e w1 ⟨rfl, hb1⟩)
  go_ret
  exact ⟨ret_bool hg'.out, hb1⟩
end Go.Proofs.Ytigdbcfpamnkcaa
