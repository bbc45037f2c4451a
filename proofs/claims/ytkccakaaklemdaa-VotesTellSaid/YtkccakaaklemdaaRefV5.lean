/- marigoldref07.Of, walked. -/
import Derived.Test.YtkccakaaklemdaaRefV4
namespace Go.Proofs.Ytkccakaaklemdaa
open Go.RowKit
/-- The votes that count, of some. -/
def OfPart (l : List Vote) (s : Int) (rs : List Int) (out : List Vote) : Prop := RisesV out ∧ (∀ v, v ∈ out ↔ InOf l s v ∧ v.frm ∈ rs) ∧ out.length ≤ rs.length
theorem ofp_nil (l : List Vote) (s : Int) : OfPart l s [] [] := ⟨trivial, by simp, Nat.le_refl _⟩
theorem ofp_skip {l : List Vote} {s : Int} {rs : List Int} {out : List Vote} {f : Int} (h : OfPart l s rs out) (hn : ∀ v, InOf l s v → v.frm ≠ f) : OfPart l s (rs ++ [f]) out := by
  refine ⟨h.1, fun v => ?_, by have := h.2.2; simp; omega⟩
  rw [h.2.1, List.mem_append, List.mem_singleton]
  exact ⟨fun ⟨h1, h2⟩ => ⟨h1, .inl h2⟩, fun ⟨h1, h2⟩ => ⟨h1, h2.elim id (fun e => absurd e (hn v h1))⟩⟩
theorem risesV_snoc : ∀ {out : List Vote} {v : Vote}, RisesV out → (∀ x ∈ out, x.frm < v.frm) → RisesV (out ++ [v])
  | [], _, _, _ => ⟨by simp, trivial⟩
  | x :: xs, v, h, hl => by
    refine ⟨fun z hz => ?_, risesV_snoc (out := xs) h.2 (fun y hy => hl y (by simp [hy]))⟩
    obtain ⟨y, hy, rfl⟩ := List.mem_map.1 hz
    rcases List.mem_append.1 hy with hy | hy
    · exact h.1 _ (List.mem_map_of_mem hy)
    · rw [List.mem_singleton.1 hy]; exact hl x (by simp)
theorem ofp_take {l : List Vote} {s : Int} {rs : List Int} {out : List Vote} {v : Vote} (h : OfPart l s rs out) (hv : InOf l s v) (hlt : ∀ g ∈ rs, g < v.frm) : OfPart l s (rs ++ [v.frm]) (out ++ [v]) := by
  refine ⟨risesV_snoc h.1 (fun x hx => hlt _ ((h.2.1 x).1 hx).2), fun x => ?_, by have := h.2.2; simp; omega⟩
  rw [List.mem_append, List.mem_singleton, h.2.1, List.mem_append, List.mem_singleton]
  constructor
  · rintro (⟨h1, h2⟩ | rfl)
    · exact ⟨h1, .inl h2⟩
    · exact ⟨hv, .inr rfl⟩
  · rintro ⟨h1, h2 | h2⟩
    · exact .inl ⟨h1, h2⟩
    · exact .inr (dbl_one h1.1 hv.1 h2 (h1.2.1.trans hv.2.1.symm) (by rw [h1.2.1]; exact h1.2.2))
theorem ofp_all {l : List Vote} {s : Int} {r : List Int} {out : List Vote} (hw : WhoOk l r) (h : OfPart l s r out) : out = ofL l s :=
  ofL_eq ⟨h.1, fun v => by
    rw [h.2.1]
    exact ⟨fun h => h.1, fun hv => ⟨hv, (hw.2.1 _).2 ⟨v, hv.1, rfl⟩⟩⟩⟩
set_option maxRecDepth 100000 in
set_option maxHeartbeats 4000000 in
theorem rvof_any (l : List Vote) (s : Int) (A : Option Addr) (k : Nat) (w : World) (hr : Rd 4 encVote w A l) (hl : l.length ≤ 100000) :
    Calls Try.prog 24 #[.slice A l.length k, .int .i64 s] w fun e w' => ∃ u, e = .returned u ∧ Own w' w.heap.size 38 4 encVote u (ofL l s) ∧ Below w.heap.size w w' := by
  have hm := hr.1
  have hunV := Try.underlying27
  have hwho := rwho_any l A k w hr hl
  have hdb := fun V (hV : Below w.heap.size w V) (f : Int) => rdouble_any l s f A k V (hr.below hV)
  go_enter Try.func24, Try.ntmps24
  go_wp2_with (go_at_call 42; (with_reducible refine hwho.mono ?_); clear hwho; rintro e w1 ⟨r, A1, k1, rfl, hw, hs, hB1⟩; have hw' := Lib.hid hw; have hrl : r.length ≤ 100000 := Nat.le_trans hw.2.2 hl; have hR1 := hs.rd; have hm1 := hR1.1; clear hw)
  go_loopw [5, 7, 8, 9] (fun u i _u8 _u9 wr => ∃ (j : Nat) (out : List Vote), j ≤ r.length ∧ i = .int .i64 j ∧ Own wr w1.heap.size 38 4 encVote u out ∧ Hid (OfPart l s (r.take j) out) ∧ Below w1.heap.size w1 wr) (fun _ i _ _ _ => r.length - (intOf i).toNat)
  case atStart => exact ⟨0, [], Nat.zero_le _, rfl, Own.nil _ _ _ _ _, Lib.hid (by simpa using ofp_nil l s), Below.refl _ _⟩
  case round =>
    obtain ⟨j, out, hj, rfl, hu, hop, hBW⟩ := hrel
    have hB := below_call hB1 hB1.size hBW
    by_cases hlt : j < r.length
    · obtain ⟨b', o', rfl, hbo, d0⟩ := (hR1.below hBW).atI hlt
      have htk := Lib.hid (List.take_succ_eq_append_getElem hlt)
      have hst := Lib.hid (show ∀ V, Below w1.heap.size w1 V → V.cell? ⟨b', o' + j, none⟩ = some (.int .i64 r[j]) from fun V hV => by
        obtain ⟨b2, o2, he, _, q0⟩ := (hR1.below hV).atI hlt
        cases he
        exact q0)
      have hless := Lib.hid (show ∀ g ∈ r.take j, g < r[j] from fun g hg => by
        obtain ⟨i, hi, rfl⟩ := List.mem_take_iff_getElem.1 hg
        exact rises_le hw'.out.1 i j (by omega) hlt (by omega))
      obtain ⟨f, hfe⟩ : ∃ f, r[j] = f := ⟨_, rfl⟩
      rw [hfe] at d0 htk hst hless
      clear hfe
      have hub : ∀ k, u5.ownBlock = some k → w1.heap.size ≤ k := fun k hk => (hu.base k hk).1
      have hol : out.length ≤ 100000 := by have := hop.out.2.2; simp at this; omega
      have hdx := hdb wr hB f
      by_cases hD : Dbl l s f
      · rw [show decide (Dbl l s f) = true by simpa using hD] at hdx
        have hs2 := Lib.hid (show OfPart l s (r.take (j + 1)) out by rw [htk.out]; exact ofp_skip hop.out (fun v hv e => hv.2.2 (e ▸ hD)))
        clear hD
        go_wp2_with (go_at_call 43; (with_reducible refine hdx.mono ?_); clear hdx; rintro e w2 ⟨rfl, hb2⟩; have hB2 := below_call hBW hBW.size hb2)
        go_roundw
        case rel => exact ⟨j + 1, out, hlt, by go_num, hu.below hb2, hs2, hB2⟩
        case measure => simp [intOf]; omega
      · rw [show decide (Dbl l s f) = false by simpa using hD] at hdx
        have htake := Lib.hid (show ∀ v ∈ l, v.frm = f → v.slot = s → OfPart l s (r.take (j + 1)) (out ++ [v]) from fun v hv hf hs => by
          rw [htk.out, ← hf]
          exact ofp_take hop.out ⟨hv, hs, by rw [hf]; exact hD⟩ (by rw [hf]; exact hless.out))
        have hskip := Lib.hid (show (∀ v ∈ l, ¬ (v.frm = f ∧ v.slot = s)) → OfPart l s (r.take (j + 1)) out from fun hno => by
          rw [htk.out]
          exact ofp_skip hop.out (fun v hv e => hno v hv.1 ⟨e, hv.2.1⟩))
        clear hD
        go_wp2_with (go_at_call 43; (with_reducible refine hdx.mono ?_); clear hdx; rintro e w2 ⟨rfl, hb2⟩; have hB2 := below_call hBW hBW.size hb2)
        have hu2 := hu.below hb2
        have hB02 := below_call hB hB.size hb2
        clear hu hb2 hBW hB d0
        go_loopw [5, 9] (fun u i wr => ∃ q : Nat, q ≤ l.length ∧ i = .int .i64 q ∧ Own wr w1.heap.size 38 4 encVote u out ∧ Hid (∀ y ∈ l.take q, ¬ (y.frm = f ∧ y.slot = s)) ∧ Below w2.heap.size w2 wr) (fun _ i _ => l.length - (intOf i).toNat)
        case atStart => exact ⟨0, Nat.zero_le _, rfl, hu2, Lib.hid (by simp), Below.refl _ _⟩
        case round =>
          clear hu2 hub
          obtain ⟨q, hq, rfl, hu3, hno, hBX⟩ := hrel
          have hub : ∀ k, u5.ownBlock = some k → w1.heap.size ≤ k := fun k hk => (hu3.base k hk).1
          have hB1x := below_call hB2 hB2.size hBX
          have hBx := below_call hB02 hB02.size hBX
          have d0 := hst.out _ hB1x
          by_cases hql : q < l.length
          · obtain ⟨b3, o3, rfl, hbo3, e0, e1, e2, e3⟩ := (hr.below hBx).atVote hql
            have hym := List.getElem_mem hql
            have htq := Lib.hid (List.take_succ_eq_append_getElem hql)
            obtain ⟨y, hy⟩ : ∃ y, l[q] = y := ⟨_, rfl⟩
            rw [hy] at e0 e1 e2 e3 hym htq
            have hsy := Lib.hid (show ∀ V, Below w.heap.size w V → V.cell? ⟨b3, o3 + q * 4, none⟩ = some (.int .i64 y.frm) ∧ V.cell? ⟨b3, o3 + q * 4 + 1, none⟩ = some (.int .i64 y.slot) ∧ V.cell? ⟨b3, o3 + q * 4 + 2, none⟩ = some (.int .u64 y.head.hi) ∧ V.cell? ⟨b3, o3 + q * 4 + 3, none⟩ = some (.int .u64 y.head.lo) from fun V hV => by
              obtain ⟨b2, o2, he, _, q0, q1, q2, q3⟩ := (hr.below hV).atVote hql
              cases he
              rw [hy] at q0 q1 q2 q3
              exact ⟨q0, q1, q2, q3⟩)
            clear hy
            have hnext := Lib.hid (fun (h : ¬ (y.frm = f ∧ y.slot = s)) => show ∀ z ∈ l.take (q + 1), ¬ (z.frm = f ∧ z.slot = s) from fun z hz => by
              rw [htq.out] at hz
              rcases List.mem_append.1 hz with hz | hz
              · exact hno.out z hz
              · rw [List.mem_singleton.1 hz]; exact h)
            by_cases h1 : y.frm = f
            · have c1 : (y.frm == f) = true := by simpa using h1
              by_cases h2 : y.slot = s
              · have c2 : (y.slot == s) = true := by simpa using h2
                have ht2 := Lib.hid (htake.out y hym h1 h2)
                clear h1 h2 hym
                go_wp2_with fail
                go_quiet (fail)
                have hvl := vlay (wr.drewN nq) y
                have hu4 := (hu3.below (pw_below_drewN (Below.refl _ wr) nq)).below hvl.1
                have hB4 := below_call (pw_below_drewN hB1x nq) hB1x.size hvl.1
                have hx4 := hvl.2
                clear hvl
                go_wp2_with (at_builtin; refine wp_append1 rfl rfl hunV infoV rfl (by decide) encVote_len encVote_one rfl hu4 (g := (wr.drewN nq).heap.size) (c := 1) rfl (y := y) hx4 rfl (by omega) (by unfold maxLen; omega) hB4.size ?_; intro v6 w6 hu6 hg6 hat6)
                go_roundw
                case rel => exact ⟨j + 1, out ++ [y], hlt, by go_num, hu6, ht2, below_step hB4 hB4.size hg6 hub⟩
                case measure => simp [intOf]; omega
              · have c2 : (y.slot == s) = false := by simpa using h2
                have hn2 := Lib.hid (hnext.out (fun h => h2 h.2))
                clear h1 h2 hym
                go_wp2_with fail
                go_quiet (fail)
                go_wp2_with fail
                go_roundw
                case rel => exact ⟨q + 1, hql, by go_num, hu3.below (pw_below_drewN (Below.refl _ wr) _), hn2, pw_below_drewN hBX _⟩
                case measure => simp [intOf]; omega
            · have c1 : (y.frm == f) = false := by simpa using h1
              have hn2 := Lib.hid (hnext.out (fun h => h1 h.1))
              clear h1 hym
              go_wp2_with fail
              go_quiet (fail)
              go_wp2_with fail
              go_roundw
              case rel => exact ⟨q + 1, hql, by go_num, hu3.below (pw_below_drewN (Below.refl _ wr) _), hn2, pw_below_drewN hBX _⟩
              case measure => simp [intOf]; omega
          · obtain rfl : q = l.length := by omega
            have hno2 := hno.out
            rw [List.take_length] at hno2
            have hs2 := Lib.hid (hskip.out hno2)
            clear hno2
            go_wp2_with fail
            go_roundw
            case rel => exact ⟨j + 1, out, hlt, by go_num, hu3, hs2, hB1x⟩
            case measure => simp [intOf]; omega
    · obtain rfl : j = r.length := by omega
      have ho := hop.out
      rw [List.take_length] at ho
      have he := ofp_all hw'.out ho
      subst he
      obtain ⟨A2, k2, rfl, _⟩ := hu.rd encVote_len
      clear ho
      go_wp2_with fail
      go_ret
      exact ⟨_, rfl, hu.mono hB1.size, hB⟩
end Go.Proofs.Ytkccakaaklemdaa
