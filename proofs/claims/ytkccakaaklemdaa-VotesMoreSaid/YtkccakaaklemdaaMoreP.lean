/- VotesMore: the plain law; marigoldlaw07.without, walked. -/
import Derived.Test.YtkccakaaklemdaaLaw07b
import Derived.Test.YtkccakaaklemdaaApart
namespace Go.Proofs.Ytkccakaaklemdaa
open Go.RowKit
theorem nodup_of_rises : ∀ {l : List Int}, Rises l → l.Nodup
  | [], _ => List.nodup_nil
  | x :: xs, h => List.nodup_cons.2 ⟨fun hx => by have := h.1 x hx; omega, nodup_of_rises h.2⟩
def noF (f : Int) (o : List Vote) : List Vote := o.filter fun x => x.frm != f
theorem mem_noF {f : Int} {o : List Vote} {x : Vote} : x ∈ noF f o ↔ x ∈ o ∧ x.frm ≠ f := by simp [noF]
theorem noF_snoc (f : Int) {o : List Vote} {k : Nat} (h : k < o.length) : noF f (o.take (k + 1)) = noF f (o.take k) ++ (if o[k].frm ≠ f then [o[k]] else []) := by
  unfold noF
  rw [List.take_succ_eq_append_getElem h, List.filter_append]
  by_cases e : o[k].frm = f <;> simp [e]
theorem noF_len (f : Int) (o : List Vote) : (noF f o).length ≤ o.length := List.length_filter_le _ _
theorem noF_rises (f : Int) : ∀ {o : List Vote}, RisesV o → RisesV (noF f o)
  | [], _ => trivial
  | x :: xs, h => by
    have ih := noF_rises f (o := xs) h.2
    unfold noF at *
    by_cases e : (x.frm != f) = true
    · rw [List.filter_cons_of_pos (p := fun x : Vote => x.frm != f) e]
      refine ⟨fun z hz => ?_, ih⟩
      obtain ⟨y, hy, rfl⟩ := List.mem_map.1 hz
      exact h.1 _ (List.mem_map_of_mem (List.mem_filter.1 hy).1)
    · rw [List.filter_cons_of_neg (p := fun x : Vote => x.frm != f) e]
      exact ih
theorem dbl_more {l : List Vote} {v : Vote} {s f : Int} (hf : f ≠ v.frm) : Dbl (l ++ [v]) s f ↔ Dbl l s f := by
  constructor
  · rintro ⟨x, hx, y, hy, h1, h2, r⟩
    have : ∀ z ∈ l ++ [v], z.frm = f → z ∈ l := fun z hz e => by
      rcases List.mem_append.1 hz with hz | hz
      · exact hz
      · rw [List.mem_singleton.1 hz] at e; exact absurd e.symm hf
    exact ⟨x, this x hx h1, y, this y hy h2, h1, h2, r⟩
  · exact dbl_mono fun x hx => List.mem_append_left _ hx
theorem more_mem {l : List Vote} {v x : Vote} (hf : x.frm ≠ v.frm) : x ∈ l ++ [v] ↔ x ∈ l := by
  rw [List.mem_append, List.mem_singleton]
  exact ⟨fun h => h.elim id (fun e => absurd (by rw [e]) hf), .inl⟩
theorem of_more {l : List Vote} {v x : Vote} {s : Int} (hf : x.frm ≠ v.frm) : x ∈ ofL (l ++ [v]) s ↔ x ∈ ofL l s := by
  rw [(ofL_is _ s).2 x, (ofL_is _ s).2 x]
  unfold InOf
  rw [more_mem hf, dbl_more hf]
theorem last_more {l : List Vote} {v x : Vote} {s : Int} (hf : x.frm ≠ v.frm) : x ∈ lastL (l ++ [v]) s ↔ x ∈ lastL l s := by
  rw [(lastL_is _ s).2 x, (lastL_is _ s).2 x]
  unfold InLast
  rw [more_mem hf]
  constructor
  · rintro ⟨h1, h2, h3, h4⟩
    exact ⟨h1, h2, fun y hy e => h3 y (List.mem_append_left _ hy) e, fun y hy e hu hd => h4 y (List.mem_append_left _ hy) e hu ((dbl_more hf).2 hd)⟩
  · rintro ⟨h1, h2, h3, h4⟩
    refine ⟨h1, h2, fun y hy e => h3 y ?_ e, fun y hy e hu hd => h4 y ?_ e hu ((dbl_more hf).1 hd)⟩
    · exact (more_mem (by rw [e]; exact hf)).1 hy
    · exact (more_mem (by rw [e]; exact hf)).1 hy
theorem noF_of (l : List Vote) (v : Vote) (s : Int) : noF v.frm (ofL (l ++ [v]) s) = noF v.frm (ofL l s) :=
  risesV_uniq (noF_rises _ (ofL_is _ s).1) (noF_rises _ (ofL_is _ s).1) fun x => by
    rw [mem_noF, mem_noF]
    exact ⟨fun h => ⟨(of_more h.2).1 h.1, h.2⟩, fun h => ⟨(of_more h.2).2 h.1, h.2⟩⟩
theorem noF_last (l : List Vote) (v : Vote) (s : Int) : noF v.frm (lastL (l ++ [v]) s) = noF v.frm (lastL l s) :=
  risesV_uniq (noF_rises _ (lastL_is _ s).1) (noF_rises _ (lastL_is _ s).1) fun x => by
    rw [mem_noF, mem_noF]
    exact ⟨fun h => ⟨(last_more h.2).1 h.1, h.2⟩, fun h => ⟨(last_more h.2).2 h.1, h.2⟩⟩
theorem len_of_more (l : List Vote) (v : Vote) (s : Int) : (ofL (l ++ [v]) s).length ≤ (ofL l s).length + 1 := by
  have := nodup_sub_len (l := (ofL (l ++ [v]) s).map (·.frm)) (m := v.frm :: (ofL l s).map (·.frm)) (nodup_of_rises (show Rises ((ofL (l ++ [v]) s).map (·.frm)) from (ofL_is (l ++ [v]) s).1)) (fun f hf => by
    obtain ⟨x, hx, rfl⟩ := List.mem_map.1 hf
    by_cases e : x.frm = v.frm
    · simp [e]
    · exact List.mem_cons_of_mem _ (List.mem_map_of_mem ((of_more e).1 hx)))
  simpa using this
theorem len_dbl_more (l : List Vote) (v : Vote) (s : Int) : (dblL (l ++ [v]) s).length ≤ (dblL l s).length + 1 ∧ (dblL l s).length ≤ (dblL (l ++ [v]) s).length := by
  constructor
  · have := nodup_sub_len (l := dblL (l ++ [v]) s) (m := v.frm :: dblL l s) (nodup_of_rises (dblL_is _ s).1) (fun f hf => by
      by_cases e : f = v.frm
      · simp [e]
      · exact List.mem_cons_of_mem _ (((dblL_is l s).2 f).2 ((dbl_more e).1 (((dblL_is _ s).2 f).1 hf))))
    simpa using this
  · exact nodup_sub_len (nodup_of_rises (dblL_is _ s).1) (fun f hf => ((dblL_is _ s).2 f).2 (dbl_mono (fun x hx => List.mem_append_left _ hx) (((dblL_is l s).2 f).1 hf)))
set_option maxRecDepth 100000 in
set_option maxHeartbeats 1000000 in
theorem without_any (l : List Vote) (f : Int) (A : Option Addr) (k : Nat) (w : World) (hr : Rd 4 encVote w A l) (hl : l.length ≤ 100000) :
    Calls Try.prog 28 #[.slice A l.length k, .int .i64 f] w fun e w' => ∃ u, e = .returned u ∧ Own w' w.heap.size 38 4 encVote u (noF f l) ∧ Below w.heap.size w w' := by
  have hm := hr.1
  have hunV := Try.underlying27
  go_enter Try.func28, Try.ntmps28
  go_wp2_with fail
  go_loopw [5, 6] (fun u i wr => ∃ j : Nat, j ≤ l.length ∧ i = .int .i64 j ∧ Own wr w.heap.size 38 4 encVote u (noF f (l.take j)) ∧ Below w.heap.size w wr) (fun _ i _ => l.length - (intOf i).toNat)
  case atStart => exact ⟨0, Nat.zero_le _, rfl, Own.nil _ _ _ _ _, Below.refl _ _⟩
  case round =>
    obtain ⟨j, hj, rfl, hu, hB⟩ := hrel
    by_cases hlt : j < l.length
    · obtain ⟨b', o', rfl, hbo, d0, d1, d2, d3⟩ := (hr.below hB).atVote hlt
      have hsu := noF_snoc f hlt
      have hlu : (noF f (l.take j)).length ≤ 100000 := by have := noF_len f (l.take j); simp at this; omega
      obtain ⟨x, hxe⟩ : ∃ x, l[j] = x := ⟨_, rfl⟩
      rw [hxe] at d0 d1 d2 d3 hsu
      clear hxe
      have hub : ∀ k, u5.ownBlock = some k → w.heap.size ≤ k := fun k hk => (hu.base k hk).1
      have hvl := vlay wr x
      have hu1 := hu.below hvl.1
      have hBv := below_call hB hB.size hvl.1
      have hx1 := hvl.2
      clear hvl
      by_cases hf : x.frm = f
      · have c1 : (x.frm != f) = false := by simp [hf]
        have hno : ¬ (x.frm ≠ f) := fun h => h hf
        rw [if_neg hno, List.append_nil] at hsu
        have hsu' := Lib.hid hsu
        clear hsu hf hno
        go_wp2_with fail
        go_roundw
        case rel => exact ⟨j + 1, hlt, by go_num, by rw [hsu'.out]; exact hu, hB⟩
        case measure => simp [intOf]; omega
      · have c1 : (x.frm != f) = true := by simpa using hf
        rw [if_pos hf] at hsu
        have hsu' := Lib.hid hsu
        clear hsu hf
        go_wp2_with (at_builtin; refine wp_append1 rfl rfl hunV infoV rfl (by decide) encVote_len encVote_one rfl hu1 (g := wr.heap.size) (c := 1) rfl (y := x) hx1 rfl (by omega) (by unfold maxLen; omega) hBv.size ?_; intro v6 w6 hu6 hg6 hat6)
        go_roundw
        case rel =>
          refine ⟨j + 1, hlt, by go_num, ?_, below_step hBv hBv.size hg6 hub⟩
          rw [hsu'.out]; exact hu6
        case measure => simp [intOf]; omega
    · obtain rfl : j = l.length := by omega
      rw [List.take_length] at hu
      obtain ⟨A2, k2, rfl, _⟩ := hu.rd encVote_len
      go_wp2_with fail
      go_ret
      exact ⟨_, rfl, hu, hB⟩
end Go.Proofs.Ytkccakaaklemdaa
