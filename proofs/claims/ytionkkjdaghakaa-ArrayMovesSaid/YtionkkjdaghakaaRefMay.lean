/- The walk of marigoldref06.may. -/
import Derived.Test.YtionkkjdaghakaaRef
namespace Go.Proofs.Ytionkkjdaghakaa
open Go.RowKit
theorem names_take (l : List Blk) (k : Nat) : (names l).take k = names (l.take k) := by simp [names, List.map_take]
theorem mem_names {l : List Blk} {x : ID} : x ∈ names l ↔ ∃ b ∈ l, nameOf b = x := by simp [names]
theorem tree_pos {l : List Blk} (h : Tree l) : ∀ i (hi : i < l.length), 0 < l[i].slot := by
  intro i
  induction i using Nat.strongRecOn with
  | _ i ih =>
    intro hi
    rcases (h i hi).2.2 with ⟨_, h1⟩ | ⟨_, c, hc, _, h1⟩
    · exact h1
    · obtain ⟨j, hj, rfl⟩ := List.getElem_of_mem hc
      simp only [List.length_take] at hj
      have := ih j (by omega) (by omega)
      simp only [List.getElem_take] at h1
      omega
set_option maxRecDepth 100000 in
set_option maxHeartbeats 1000000 in
theorem rmay_any (l : List Blk) (A N : Option Addr) (c d : Nat) (w : World) (hr : Rd 5 encBlk w A l) (hn : Rd 2 encID w N (names l)) (hd : l.length ≤ d) (hl : l.length ≤ 100000) :
    Calls Try.prog 47 #[.slice A l.length c, .slice N l.length d] w fun e w' => e = .returned (.bool (mayB l)) ∧ Below w.heap.size w w' := by
  have hm := hr.1
  go_enter Try.func47, Try.ntmps47
  go_wp2_with fail
  go_loopw [5, 6, 7] (fun i s6 s7 wr => ∃ k : Nat, k ≤ l.length ∧ i = .int .i64 k ∧ Tree (l.take k) ∧ Below w.heap.size w wr) (fun i _ _ _ => l.length - (intOf i).toNat)
  case atStart => exact ⟨0, Nat.zero_le _, rfl, fun i h => by simp at h, Below.refl _ _⟩
  case round =>
    obtain ⟨k, hk, rfl, ht, hB⟩ := hrel
    by_cases hlt : k < l.length
    · have hnl : (names l)[k]'(by simpa [names] using hlt) = nameOf l[k] := by simp [names]
      obtain ⟨b', o, rfl, hbo, d0, d1, d2, d3, d4⟩ := (hr.below hB).atBlk hlt
      obtain ⟨n', q, rfl, hnq, e0, e1⟩ := (hn.below hB).atID (i := k) (by simpa [names] using hlt)
      rw [hnl] at e0 e1
      have htr : Tree (l.take (k + 1)) ↔ Tree (l.take k) ∧ Okb (l.take k) l[k] := tree_snoc hlt
      obtain ⟨b, hbk⟩ : ∃ b, l[k] = b := ⟨_, rfl⟩
      rw [hbk] at d0 d1 d2 d3 d4 e0 e1 htr
      have hfalse : ¬ Okb (l.take k) b → mayB l = false := fun h => by
        simp only [mayB, decide_eq_false_iff_not]
        intro ht'
        exact h (by rw [← hbk]; exact ht' k hlt)
      clear hbk
      have hokb : Okb (l.take k) b ↔ nameOf b ≠ zid ∧ (∀ c ∈ l.take k, nameOf c ≠ nameOf b) ∧ ((b.par = zid ∧ 0 < b.slot) ∨ (b.par ≠ zid ∧ ∃ c ∈ l.take k, nameOf c = b.par ∧ c.slot < b.slot)) := Iff.rfl
      obtain ⟨nm, hnm⟩ : ∃ nm, nameOf b = nm := ⟨_, rfl⟩
      rw [hnm] at e0 e1 hokb
      clear hnm
      have eqz := eql_idz nm
      have eqp := eql_idz b.par
      have hkl : ((names l).take k).length = k := by simp [names]; omega
      have hat := fun (x : ID) (W : World) (hW : Below w.heap.size w W) => rat_any x ((names l).take k) (some ⟨n', q, none⟩) d W ((hn.below hW).take k)
      rw [hkl] at hat
      unfold idv at hat
      have hBa : Below w.heap.size w (wr.alloc (.cells #[.int .i64 b.slot, .int .i64 b.frm, .int .u64 b.par.1, .int .u64 b.par.2, .int .u64 b.salt] 47)) := hB.alloc hB.size _
      have hatn := hat nm
      have hatp := hat b.par
      clear hat
      have hjn : (0 ≤ idxI ((names l).take k) nm) ↔ ∃ c ∈ l.take k, nameOf c = nm := by
        have := idx_mem ((names l).take k) nm
        rw [names_take, ← mem_names, ← names_take]
        simpa using this
      have hjp : ∀ n : Nat, idxI ((names l).take k) b.par = n → ∃ h : n < l.length, n < k ∧ nameOf l[n] = b.par := fun n h => by
        unfold idxI at h
        cases hf : ((names l).take k).findIdx? fun y => decide (y = b.par) with
        | none => rw [hf] at h; simp only at h; omega
        | some m =>
          rw [hf] at h
          rw [List.findIdx?_eq_some_iff_getElem] at hf
          obtain ⟨h1, h2, _⟩ := hf
          have : m = n := by simp only at h; omega
          subst this
          simp only [List.length_take, names, List.length_map] at h1
          simp only [names, List.getElem_take, List.getElem_map, decide_eq_true_eq] at h2
          exact ⟨by omega, by omega, h2⟩
      have hjp2 : (0 ≤ idxI ((names l).take k) b.par) ↔ ∃ c ∈ l.take k, nameOf c = b.par := by
        have := idx_mem ((names l).take k) b.par
        rw [names_take, ← mem_names, ← names_take]
        simpa using this
      have hlow : -1 ≤ idxI ((names l).take k) b.par := idx_low _ _
      obtain ⟨jn, hjne⟩ : ∃ j, idxI ((names l).take k) nm = j := ⟨_, rfl⟩
      obtain ⟨jp, hjpe⟩ : ∃ j, idxI ((names l).take k) b.par = j := ⟨_, rfl⟩
      rw [hjne] at hatn hjn
      rw [hjpe] at hatp hjp hjp2 hlow
      clear hjne hjpe
      have hfalse' := Lib.hid hfalse
      have htr' := Lib.hid htr
      have hokb' := Lib.hid hokb
      have hjn' := Lib.hid hjn
      have hjp' := Lib.hid hjp
      have hjp2' := Lib.hid hjp2
      clear hfalse htr hokb hjn hjp hjp2
      clear hnl hkl
      go_wp2_with fail
      obtain ⟨W5, hW5⟩ : ∃ W5, wr.alloc (.cells #[.int .i64 b.slot, .int .i64 b.frm, .int .u64 b.par.1, .int .u64 b.par.2, .int .u64 b.salt] 47) = W5 := ⟨_, rfl⟩
      rw [hW5]
      have hb6 : W5.heap[wr.heap.size]? = some (.cells #[.int .i64 b.slot, .int .i64 b.frm, .int .u64 b.par.1, .int .u64 b.par.2, .int .u64 b.salt] 47 (0, 0)) := by rw [← hW5]; exact ha_at rfl
      have hl5 : Below wr.heap.size wr W5 := by rw [← hW5]; exact (Below.refl _ wr).alloc (Nat.le_refl _) _
      rw [hW5] at hBa
      clear hW5
      have g0 := gr_cell ((hl5.cell (p := ⟨n', q + k * 2, none⟩) hnq).trans e0)
      have g1 := gr_cell ((hl5.cell (p := ⟨n', q + k * 2 + 1, none⟩) hnq).trans e1)
      have s0 := gr_cell (blk_cell hb6 0)
      have hBg : ∀ p, Below w.heap.size w (gr W5 p) := fun p => hBa.trans ((gr_below _ _).mono hBa.size)
      clear e0 e1 d0 d1 d2 d3 d4
      by_cases h1 : nm = zid
      · have hres := Lib.hid (hfalse'.out fun h => (hokb'.out.1 h).1 h1)
        have hz : decide (nm = zid) = true := by simpa using h1
        rw [hz] at eqz
        clear h1 hz
        refine wp_region_gr (by kernel_rfl) (by kernel_rfl) ?_
        repeat (go_big_quiet_step (fail))
        refine wpQuiet_nil ?_
        rintro _ ⟨pq, rfl⟩
        go_wp2
        go_ret
        exact ⟨ret_bool hres.out.symm, hBg _⟩
      · have hz : decide (nm = zid) = false := by simpa using h1
        rw [hz] at eqz
        clear hz
        have h1' := Lib.hid h1
        clear h1
        by_cases h2 : 0 ≤ jn
        · have hres := Lib.hid (hfalse'.out fun h => by
            obtain ⟨c, hc, he⟩ := hjn'.out.1 h2
            exact (hokb'.out.1 h).2.1 c hc he)
          have hz : decide (0 ≤ jn) = true := by simpa using h2
          refine wp_region_gr (by kernel_rfl) (by kernel_rfl) ?_
          repeat (go_big_quiet_step ((go_at_call 53; exact Calls.gr_of (hatn _ (hBg _)))))
          refine wpQuiet_nil ?_
          rintro _ ⟨pq, rfl⟩
          go_wp2
          go_ret
          exact ⟨ret_bool hres.out.symm, hBg _⟩
        · have hz2 : decide (0 ≤ jn) = false := by simpa using h2
          have h2' := Lib.hid h2
          clear h2
          by_cases h3 : b.slot < 1
          · have hres := Lib.hid (hfalse'.out fun h => by
              rcases (hokb'.out.1 h).2.2 with ⟨_, hs⟩ | ⟨_, c, hc, _, hs⟩
              · omega
              · obtain ⟨i, hi, rfl⟩ := List.getElem_of_mem hc
                have := tree_pos ht i hi
                omega)
            have hz3 : decide (b.slot < 1) = true := by simpa using h3
            clear h3
            refine wp_region_gr (by kernel_rfl) (by kernel_rfl) ?_
            repeat (go_big_quiet_step ((go_at_call 53; exact Calls.gr_of (hatn _ (hBg _)))))
            refine wpQuiet_nil ?_
            rintro _ ⟨pq, rfl⟩
            go_wp2
            go_ret
            exact ⟨ret_bool hres.out.symm, hBg _⟩
          · have hz3 : decide (b.slot < 1) = false := by simpa using h3
            refine wp_region_gr (by kernel_rfl) (by kernel_rfl) ?_
            repeat (go_big_quiet_step ((go_at_call 53; exact Calls.gr_of (hatn _ (hBg _)))))
            refine wpQuiet_nil ?_
            rintro _ ⟨pq, rfl⟩
            have t2 := gr_cell (blk_cell hb6 2) pq
            have t3 := gr_cell (blk_cell hb6 3) pq
            by_cases h4 : b.par = zid
            · have hz4 : decide (b.par = zid) = true := by simpa using h4
              rw [hz4] at eqp
              have ht2 : Tree (l.take (k + 1)) := htr'.out.2 ⟨ht, hokb'.out.2 ⟨h1'.out, fun c hc he => by have e1 := hjn'.out.2 ⟨c, hc, he⟩; have e2 := h2'.out; omega, .inl ⟨h4, by omega⟩⟩⟩
              clear h4 hz4 h3
              go_wp2
              go_roundw
              case rel => exact ⟨k + 1, hlt, by go_num, ht2, hBg _⟩
              case measure => simp [intOf]; omega
            · have hz4 : decide (b.par = zid) = false := by simpa using h4
              rw [hz4] at eqp
              have h4' := Lib.hid h4
              clear h4 hz4
              go_wp2
              have hb7 := gr_blk hb6 pq
              obtain ⟨W6, hW6⟩ : ∃ W6, gr W5 pq = W6 := ⟨_, rfl⟩
              have hB6 := hBg pq
              rw [hW6] at t2 t3 hb7 hB6 ⊢
              have p2 := gr_cell t2
              have p3 := gr_cell t3
              have p0 := gr_cell (blk_cell hb7 0)
              have hBg6 : ∀ p, Below w.heap.size w (gr W6 p) := fun p => hB6.trans ((gr_below _ _).mono hB6.size)
              clear hW6 t2 t3 hBg
              refine wp_region_gr (by kernel_rfl) (by kernel_rfl) ?_
              repeat (go_big_quiet_step ((go_at_call 53; exact Calls.gr_of (hatp _ (hBg6 _)))))
              refine wpQuiet_nil ?_
              rintro _ ⟨pq2, rfl⟩
              have hb8 := gr_blk hb7 pq2
              obtain ⟨W7, hW7⟩ : ∃ W7, gr W6 pq2 = W7 := ⟨_, rfl⟩
              have hB7 := hBg6 pq2
              rw [hW7] at hb8 hB7 ⊢
              have q0 := gr_cell (blk_cell hb8 0)
              have hBg7 : ∀ p, Below w.heap.size w (gr W7 p) := fun p => hB7.trans ((gr_below _ _).mono hB7.size)
              clear hW7 p0 p2 p3 hBg6 hatn hatp
              by_cases h5 : jp < 0
              · have hz5 : decide (jp < 0) = true := by simpa using h5
                have hres := Lib.hid (hfalse'.out fun h => by
                  rcases (hokb'.out.1 h).2.2 with ⟨hs, _⟩ | ⟨_, c, hc, he, _⟩
                  · exact h4'.out hs
                  · have := hjp2'.out.2 ⟨c, hc, he⟩
                    omega)
                clear h5
                go_wp2
                refine wp_region_gr (by kernel_rfl) (by kernel_rfl) ?_
                repeat (go_big_quiet_step (fail))
                refine wpQuiet_nil ?_
                rintro _ ⟨pq3, rfl⟩
                go_wp2
                go_ret
                exact ⟨ret_bool hres.out.symm, hBg7 _⟩
              · have hz5 : decide (jp < 0) = false := by simpa using h5
                obtain ⟨n, rfl⟩ : ∃ n : Nat, jp = n := ⟨jp.toNat, by omega⟩
                obtain ⟨hnl2, hnk, hnp⟩ := hjp'.out n rfl
                have hcell : W7.cell? ⟨b', o + n * 5, none⟩ = some (.int .i64 l[n].slot) := by
                  obtain ⟨b2, o2, he, _, x0, _⟩ := (hr.below hB7).atBlk hnl2
                  cases he
                  exact x0
                have q1 := gr_cell hcell
                have hnl3 : (n : Int) < (l.length : Int) := by omega
                by_cases h6 : b.slot ≤ l[n].slot
                · have hz6 : decide (b.slot ≤ l[n].slot) = true := by simpa using h6
                  have hres := Lib.hid (hfalse'.out fun h => by
                    rcases (hokb'.out.1 h).2.2 with ⟨hs, _⟩ | ⟨_, c, hc, he, hs⟩
                    · exact h4'.out hs
                    · obtain ⟨i, hi, rfl⟩ := List.getElem_of_mem hc
                      simp only [List.length_take] at hi
                      simp only [List.getElem_take] at he hs
                      have hin : i = n := by
                        have := tree_inj ht (i := i) (j := n) (by simp; omega) (by simp; omega) (by simp only [List.getElem_take]; rw [he, hnp])
                        exact this
                      subst hin
                      omega)
                  clear h6 h5
                  go_wp2
                  refine wp_region_gr (by kernel_rfl) (by kernel_rfl) ?_
                  repeat (go_big_quiet_step (fail))
                  refine wpQuiet_nil ?_
                  rintro _ ⟨pq3, rfl⟩
                  go_wp2
                  go_ret
                  exact ⟨ret_bool hres.out.symm, hBg7 _⟩
                · have hz6 : decide (b.slot ≤ l[n].slot) = false := by simpa using h6
                  have ht2 : Tree (l.take (k + 1)) := htr'.out.2 ⟨ht, hokb'.out.2 ⟨h1'.out, fun c hc he => by have e1 := hjn'.out.2 ⟨c, hc, he⟩; have e2 := h2'.out; omega, .inr ⟨h4'.out, l[n], List.mem_take_iff_getElem.2 ⟨n, by omega, rfl⟩, hnp, by omega⟩⟩⟩
                  clear h6 h5 h3
                  go_wp2
                  refine wp_region_gr (by kernel_rfl) (by kernel_rfl) ?_
                  repeat (go_big_quiet_step (fail))
                  refine wpQuiet_nil ?_
                  rintro _ ⟨pq3, rfl⟩
                  go_wp2
                  go_roundw
                  case rel => exact ⟨k + 1, hlt, by go_num, ht2, hBg7 _⟩
                  case measure => simp [intOf]; omega
    · obtain rfl : k = l.length := by omega
      rw [List.take_length] at ht
      have hres := Lib.hid (show mayB l = true by simp [mayB, ht])
      clear ht
      go_wp2_with fail
      go_ret
      exact ⟨ret_bool hres.out.symm, hB⟩
end Go.Proofs.Ytionkkjdaghakaa
