/- What grows stays what may be, and its top (the plain law). -/
import Derived.Test.YtionkkjdaghakaaArrX
namespace Go.Proofs.Ytionkkjdaghakaa
theorem plain_ne {a : List Item} (h : Plain a) {j k : Nat} (hk : k < a.length) (hj : j < k) : (itm a j).id ≠ (itm a k).id := by
  have h1 := (h k hk).2.1
  rcases find_spec a (itm a k).id with ⟨e, h2⟩ | ⟨q, hq, e, h3, h4⟩
  · omega
  · have : q = k := by omega
    subst this
    exact h4 j hj
theorem plain_of {a : List Item} (h1 : ∀ k, k < a.length → (itm a k).id ≠ zid ∧ -1 ≤ (itm a k).par ∧ (itm a k).par < k ∧ 0 ≤ (itm a k).own ∧ (itm a k).own ≤ 1125899906842624) (h2 : ∀ k, k < a.length → ∀ j, j < k → (itm a j).id ≠ (itm a k).id) : Plain a := fun k hk =>
  ⟨(h1 k hk).1, find_hit hk (h2 k hk) rfl, (h1 k hk).2.1, (h1 k hk).2.2.1, (h1 k hk).2.2.2⟩
theorem plain_find {a : List Item} (h : Plain a) {k : Nat} (hk : k < a.length) : findI a (itm a k).id = k := (h k hk).2.1
theorem ins_may {a l : List Item} {id par : ID} (hE : insE a id par = 0) (h : InsP a id par l) : MayA l ∧ l.length = a.length + 1 ∧ (∀ i, i < a.length → (itm l i).id = (itm a i).id ∧ (itm l i).par = (itm a i).par ∧ (itm l i).own = (itm a i).own) ∧ (itm l a.length).id = id ∧ (itm l a.length).par = findI a par ∧ (itm l a.length).own = 0 := by
  obtain ⟨hM, hz, hf, _, h60⟩ := insE_may hE
  obtain ⟨hs, hl, hk⟩ := h.2 hE
  simp at hl
  have hold : ∀ i, i < a.length → (itm l i).id = (itm a i).id ∧ (itm l i).par = (itm a i).par ∧ (itm l i).own = (itm a i).own := fun i hi => by
    have := hk i (by omega)
    rwa [itm_app _ _ _ hi] at this
  have hnew := hk a.length (by omega)
  rw [itm_new] at hnew
  obtain ⟨n1, n2, n3⟩ := hnew
  have n1' : (itm l a.length).id = id := n1
  have n2' : (itm l a.length).par = findI a par := n2
  have n3' : (itm l a.length).own = 0 := n3
  refine ⟨⟨by have := hM.1; omega, plain_of (fun k hk2 => ?_) (fun k hk2 j hj => ?_), hs⟩, hl, hold, n1', n2', n3'⟩
  · by_cases e : k < a.length
    · obtain ⟨o1, o2, o3⟩ := hold k e
      obtain ⟨p1, _, p3, p4, p5⟩ := hM.2.1 k e
      rw [o1, o2, o3]
      exact ⟨p1, p3, p4, p5⟩
    · obtain rfl : k = a.length := by omega
      rw [n1', n2', n3']
      rcases find_spec a par with ⟨e2, _⟩ | ⟨q, hq, e2, _⟩
      · exact ⟨hz, by omega, by omega, by omega, by omega⟩
      · exact ⟨hz, by omega, by omega, by omega, by omega⟩
  · by_cases e : k < a.length
    · rw [(hold k e).1, (hold j (by omega)).1]
      exact plain_ne hM.2.1 e hj
    · obtain rfl : k = a.length := by omega
      rw [n1', (hold j hj).1]
      rcases find_spec a id with ⟨_, e2⟩ | ⟨q, hq, e2, _⟩
      · exact e2 j hj
      · omega
theorem mv_may {a l : List Item} {id : ID} {y : Int} (hE : mvE a id y = 0) (h : MvP a id y l) : MayA l := by
  obtain ⟨hM, k, hk, e, _, _, _, y1, y2⟩ := mvE_may hE
  obtain ⟨hs, hl, hsk⟩ := h.2 hE
  rw [e] at hl hsk
  simp only [Int.toNat_natCast] at hl hsk
  rw [moved_len] at hl
  have hold : ∀ i, i < a.length → (itm l i).id = (itm a i).id ∧ (itm l i).par = (itm a i).par ∧ (itm l i).own = (itm a i).own + if i = k then y else 0 := fun i hi => by
    obtain ⟨s1, s2, s3⟩ := hsk i (by omega)
    rw [s2, s3, (moved_par hk i).1, (moved_par hk i).2]
    refine ⟨?_, rfl, rfl⟩
    rw [s1]
    unfold moved
    rw [itm_set _ _ _ _ hk]
    by_cases e2 : i = k
    · subst e2; rw [if_pos rfl]
    · rw [if_neg e2]
  refine ⟨by rw [hl]; exact hM.1, plain_of (fun i hi => ?_) (fun i hi j hj => ?_), hs⟩
  · obtain ⟨o1, o2, o3⟩ := hold i (by omega)
    obtain ⟨p1, _, p3, p4, p5⟩ := hM.2.1 i (by omega)
    rw [o1, o2, o3]
    refine ⟨p1, p3, p4, ?_⟩
    by_cases e2 : i = k
    · subst e2; rw [if_pos rfl]; exact ⟨y1, y2⟩
    · rw [if_neg e2]; omega
  · rw [(hold i (by omega)).1, (hold j (by omega)).1]
    exact plain_ne hM.2.1 (by omega) hj
/-! Which one is the best. -/
theorem idLess_asymm {x y : ID} (h : idLess x y = true) : idLess y x = false := by
  rw [rless_dec] at h ⊢
  simp only [decide_eq_true_eq] at h
  simp only [decide_eq_false_iff_not]
  omega
theorem idLess_trans {x y z : ID} (h1 : idLess x y = true) (h2 : idLess y z = true) : idLess x z = true := by
  rw [rless_dec] at h1 h2 ⊢
  simp only [decide_eq_true_eq] at h1 h2 ⊢
  omega
theorem idLess_total {x y : ID} (h : x ≠ y) : idLess x y = true ∨ idLess y x = true := by
  rw [rless_dec, rless_dec]
  simp only [decide_eq_true_eq]
  obtain ⟨x1, x2⟩ := x
  obtain ⟨y1, y2⟩ := y
  have : ¬ (x1 = y1 ∧ x2 = y2) := fun e => h (by rw [e.1, e.2])
  show (x1 < y1 ∨ x1 = y1 ∧ x2 < y2) ∨ (y1 < x1 ∨ y1 = x1 ∧ y2 < x2)
  omega
theorem better_iff {x y : Item} : better x y = true ↔ y.w < x.w ∨ x.w = y.w ∧ idLess y.id x.id = true := by rw [better_dec]; simp
theorem better_asymm {x y : Item} (h : better x y = true) : better y x = false := by
  cases hb : better y x with
  | false => rfl
  | true =>
    exfalso
    rw [better_iff] at h hb
    rcases h with h | ⟨h, h2⟩ <;> rcases hb with h3 | ⟨h3, h4⟩
    · omega
    · omega
    · omega
    · rw [idLess_asymm h2] at h4; cases h4
theorem better_trans {x y z : Item} (h1 : better x y = true) (h2 : better y z = true) : better x z = true := by
  rw [better_iff] at h1 h2 ⊢
  rcases h1 with h | ⟨h, h3⟩ <;> rcases h2 with h4 | ⟨h4, h5⟩
  · exact .inl (by omega)
  · exact .inl (by omega)
  · exact .inl (by omega)
  · exact .inr ⟨by omega, idLess_trans h5 h3⟩
theorem better_total {x y : Item} (h : x.id ≠ y.id) : better x y = true ∨ better y x = true := by
  rw [better_iff, better_iff]
  by_cases e : x.w = y.w
  · rcases idLess_total h with h2 | h2
    · exact .inr (.inr ⟨e.symm, h2⟩)
    · exact .inl (.inr ⟨e, h2⟩)
  · omega
theorem bestTo_beats {a : List Item} {p : Int} (hd : ∀ i j, i < a.length → j < i → (itm a j).id ≠ (itm a i).id) : ∀ n, n ≤ a.length → ∀ j : Nat, bestTo a p n = j → ∀ c, c < n → (itm a c).par = p → c ≠ j → better (itm a j) (itm a c) = true := by
  intro n
  induction n with
  | zero => intro _ j _ c hc; omega
  | succ n ih =>
    intro hn j hj c hc hpc hne
    have hstep : bestTo a p (n + 1) = if (itm a n).par = p ∧ (bestTo a p n = -1 ∨ better (itm a n) (itm a (bestTo a p n).toNat) = true) then (n : Int) else bestTo a p n := rfl
    rw [hstep] at hj
    split at hj
    · rename_i h
      have hjn : j = n := by omega
      subst hjn
      have hcl : c < j := by omega
      rcases h.2 with h2 | h2
      · exact absurd hpc (bestTo_none.1 h2 c hcl)
      · rcases bestTo_spec a p j with h3 | ⟨q, hq, hqp, hqe⟩
        · exact absurd hpc (bestTo_none.1 h3 c hcl)
        · rw [hqe] at h2
          simp only [Int.toNat_natCast] at h2
          by_cases e : c = q
          · subst e; exact h2
          · exact better_trans h2 (ih (by omega) q hqe c hcl hpc e)
    · rename_i h
      by_cases e : c = n
      · subst e
        have hjl : j < c := by
          rcases bestTo_spec a p c with h3 | ⟨q, hq, hqp, hqe⟩
          · omega
          · omega
        rcases better_total (x := itm a j) (y := itm a c) (hd c j (by omega) hjl) with h2 | h2
        · exact h2
        · exact absurd ⟨hpc, .inr (by rw [hj]; simpa using h2)⟩ h
      · exact ih (by omega) j hj c (by omega) hpc hne
theorem bestTo_is {a : List Item} {p : Int} {j : Nat} (hjp : (itm a j).par = p) : ∀ n, j < n → (∀ c, c < n → (itm a c).par = p → c ≠ j → better (itm a j) (itm a c) = true) → bestTo a p n = j := by
  intro n
  induction n with
  | zero => intro h; omega
  | succ n ih =>
    intro hj hb
    show (if (itm a n).par = p ∧ (bestTo a p n = -1 ∨ better (itm a n) (itm a (bestTo a p n).toNat) = true) then (n : Int) else bestTo a p n) = j
    by_cases e : j = n
    · subst e
      rw [if_pos]
      refine ⟨hjp, ?_⟩
      rcases bestTo_spec a p j with h3 | ⟨q, hq, hqp, hqe⟩
      · exact .inl h3
      · refine .inr ?_
        rw [hqe]
        simp only [Int.toNat_natCast]
        exact hb q (by omega) hqp (by omega)
    · have h := ih (by omega) (fun c hc => hb c (by omega))
      rw [h, if_neg]
      rintro ⟨h1, h2 | h2⟩
      · omega
      · simp only [Int.toNat_natCast] at h2
        rw [better_asymm (hb n (by omega) h1 (fun e2 => e e2.symm))] at h2
        cases h2
/-! The top. -/
theorem top_nil : topA ([] : List Item) = zid := by
  unfold topA
  rw [if_pos may_nil]
  rfl
theorem root_some {a : List Item} (hM : MayA a) (hn : 0 < a.length) : ∃ j : Nat, j < a.length ∧ (itm a j).par = -1 ∧ best a (-1) = j := by
  rcases bestTo_spec a (-1) a.length with h | ⟨j, h1, h2, h3⟩
  · have := hM.2.1.parOk 0 hn
    exact absurd (show (itm a 0).par = -1 by omega) (bestTo_none.1 h 0 hn)
  · exact ⟨j, h1, h2, h3⟩
theorem top_some {a : List Item} (hM : MayA a) (hn : 0 < a.length) : ∃ j h : Nat, j < a.length ∧ (itm a j).par = -1 ∧ best a (-1) = j ∧ (itm a j).head = h ∧ h < a.length ∧ best a h = -1 ∧ topA a = (itm a h).id := by
  obtain ⟨j, h1, h2, h3⟩ := root_some hM hn
  obtain ⟨h, q1, q2, q3, q4⟩ := head_lt hM.2.1.parOk hM.2.2 j h1
  refine ⟨j, h, h1, h2, h3, q1, q3, q4, ?_⟩
  unfold topA
  rw [if_pos hM]
  unfold topP
  rw [h3, if_neg (by omega)]
  simp only [Int.toNat_natCast]
  rw [q1]
  simp only [Int.toNat_natCast]
theorem grows1 {a l : List Item} {id : ID} (hE : insE a id (topA a) = 0) (h : InsP a id (topA a) l) (hw : ∀ j, j < a.length → (itm l j).w = (itm a j).w) : topA l = id := by
  obtain ⟨hM, _⟩ := insE_may hE
  obtain ⟨hMl, hl, hold, n1, n2, n3⟩ := ins_may hE h
  rcases Nat.eq_zero_or_pos a.length with h0 | h0
  · have ha : a = [] := List.eq_nil_of_length_eq_zero h0
    subst ha
    obtain ⟨j, q, j1, j2, j3, j4, q1, q2, ht⟩ := top_some hMl (by omega)
    rw [ht]
    have : q = 0 := by simp at hl; omega
    subst this
    exact n1
  · obtain ⟨j, q, j1, j2, j3, j4, q1, q2, ht⟩ := top_some hM h0
    rw [ht] at n2
    rw [plain_find hM.2.1 q1] at n2
    have hsame : ∀ p : Int, p ≠ q → best l p = best a p := fun p hp => by
      unfold best
      rw [hl]
      show (if (itm l a.length).par = p ∧ _ then _ else bestTo l p a.length) = _
      rw [if_neg (fun hc => hp (by rw [← hc.1, n2]))]
      exact bestTo_congr (fun k hk => by rw [(hold k hk).2.1]) (fun k hk _ => ⟨hw k hk, (hold k hk).1⟩)
    have hq : best l q = a.length := by
      refine bestTo_is n2 l.length (by omega) (fun c hc hpc hne => ?_)
      have hcl : c < a.length := by omega
      exact absurd (by rw [← (hold c hcl).2.1]; exact hpc) (bestTo_none.1 q2 c hcl)
    have hnone : best l (a.length : Nat) = -1 := bestTo_none.2 (fun k hk e => by
      have := (hMl.2.1.parOk k hk).2
      omega)
    have hhn : (itm l a.length).head = a.length := by
      rw [(hMl.2.2 a.length (by omega)).2.2]
      unfold headOf
      rw [if_pos hnone]
    have hhead : ∀ d i, i < a.length → a.length ≤ i + d → (itm a i).head = q → (itm l i).head = a.length := by
      intro d
      induction d with
      | zero => intro i h1 h2; omega
      | succ d ih =>
        intro i hi hd2 hh
        rw [(hMl.2.2 i (by omega)).2.2]
        have hha := (hM.2.2 i hi).2.2
        rw [hh] at hha
        unfold headOf at hha ⊢
        by_cases e : i = q
        · subst e
          rw [hq, if_neg (by omega)]
          simpa using hhn
        · rw [hsame i (by omega)]
          rcases bestTo_spec a i a.length with hb | ⟨c, c1, c2, c3⟩
          · have hb' : best a i = -1 := hb
            rw [if_pos hb'] at hha
            omega
          · have hb' : best a i = c := c3
            rw [hb', if_neg (by omega)] at hha ⊢
            simp only [Int.toNat_natCast] at hha ⊢
            have := (hM.2.1.parOk c c1).2
            exact ih c c1 (by omega) hha.symm
    unfold topA
    rw [if_pos hMl]
    unfold topP
    rw [hsame (-1) (by omega), j3, if_neg (by omega)]
    simp only [Int.toNat_natCast]
    rw [hhead a.length j j1 (by omega) j4]
    simpa using n1
/-- Of those that stand on one at most one has k below it. -/
theorem up_one {a : List Item} (hp : ParOk a) : ∀ m k, k ≤ m → k < a.length → ∀ i j : Nat, Up a k i → Up a k j → (itm a i).par = (itm a j).par → i = j := by
  intro m
  induction m with
  | zero =>
    intro k hk hl i j h1 h2 _
    have := Up_le hp k k i (Nat.le_refl _) hl h1
    have := Up_le hp k k j (Nat.le_refl _) hl h2
    omega
  | succ m ih =>
    intro k hk hl i j h1 h2 he
    have hpk := hp k hl
    have below : ∀ q : Nat, Up a (itm a k).par q → ∃ p : Nat, (itm a k).par = p ∧ q ≤ p := fun q hq => by
      by_cases e : (itm a k).par = -1
      · rw [e] at hq; exact absurd hq Up_none
      · refine ⟨(itm a k).par.toNat, by omega, ?_⟩
        have e2 : (itm a k).par = ((itm a k).par.toNat : Int) := by omega
        rw [e2] at hq
        exact Up_le hp _ _ q (Nat.le_refl _) (by omega) hq
    rcases Up_iff.1 h1 with r1 | r1 <;> rcases Up_iff.1 h2 with r2 | r2
    · omega
    · subst r1
      obtain ⟨p, p1, p2⟩ := below j r2
      have hj := (hp j (by omega)).2
      omega
    · subst r2
      obtain ⟨p, p1, p2⟩ := below i r1
      have hi := (hp i (by omega)).2
      omega
    · obtain ⟨p, p1, p2⟩ := below i r1
      rw [p1] at r1 r2
      exact ih p (by omega) (by omega) i j r1 r2 he
theorem grows2 {a l : List Item} {y : Int} (hE : mvE a (topA a) y = 0) (hy : 0 ≤ y) (h : MvP a (topA a) y l) (hj : J a (findI a (topA a)).toNat y (-1) l) : topA l = topA a := by
  obtain ⟨hM, k, hk, hfe, hke, _⟩ := mvE_may hE
  have hMl := mv_may hE h
  obtain ⟨j, q, j1, j2, j3, j4, q1, q2, ht⟩ := top_some hM (by omega)
  rw [ht, plain_find hM.2.1 q1] at hfe hj
  simp only [Int.toNat_natCast] at hj
  have hl := hj.len
  have hp := hM.2.1.parOk
  have hid : ∀ i, i < a.length → (itm l i).id = (itm a i).id ∧ (itm l i).par = (itm a i).par := fun i hi => ⟨(hj.sk i (by omega)).1, (hj.sk i (by omega)).2.1⟩
  have hyes : ∀ i, i < a.length → Up a q i → (itm l i).w = (itm a i).w + y := fun i hi hu => hj.tr1 i (by omega) hu Up_none
  have hno : ∀ i, i < a.length → ¬ Up a q i → (itm l i).w = (itm a i).w := fun i hi hu => hj.tr2 i (by omega) (.inl hu)
  have hup : ∀ d i, i < a.length → a.length ≤ i + d → (itm a i).head = q → Up a q i := by
    intro d
    induction d with
    | zero => intro i h1 h2; omega
    | succ d ih =>
      intro i hi hd2 hh
      have hha := (hM.2.2 i hi).2.2
      rw [hh] at hha
      unfold headOf at hha
      rcases bestTo_spec a i a.length with hb | ⟨c, c1, c2, c3⟩
      · have hb' : best a i = -1 := hb
        rw [if_pos hb'] at hha
        have : i = q := by omega
        subst this
        exact Up_self a i
      · have hb' : best a i = c := c3
        rw [hb', if_neg (by omega)] at hha
        simp only [Int.toNat_natCast] at hha
        have := (hp c c1).2
        have hc := ih c c1 (by omega) hha.symm
        exact Up_trans hc (Up_iff.2 (.inr (by rw [c2]; exact Up_self a i)))
  have hbest : ∀ p : Int, ∀ c : Nat, c < a.length → (itm a c).par = p → best a p = c → Up a q c → best l p = c := fun p c hc hcp hcb hcu => by
    refine bestTo_is (by rw [(hid c hc).2]; exact hcp) l.length (by omega) (fun d hd hdp hne => ?_)
    have hda : d < a.length := by omega
    rw [(hid d hda).2] at hdp
    have hb := bestTo_beats (fun i j hi hji => plain_ne hM.2.1 hi hji) a.length (Nat.le_refl _) c hcb d hda hdp hne
    have hdn : ¬ Up a q d := fun hu => hne (up_one hp q q (Nat.le_refl _) q1 d c hu hcu (by rw [hdp, hcp]))
    rw [better_iff] at hb ⊢
    rw [hyes c hc hcu, hno d hda hdn, (hid c hc).1, (hid d hda).1]
    rcases hb with hb | ⟨hb, hb2⟩
    · exact .inl (by omega)
    · by_cases e : y = 0
      · exact .inr ⟨by omega, hb2⟩
      · exact .inl (by omega)
  have hqn : best l q = -1 := bestTo_none.2 (fun c hc e => by
    rw [(hid c (by omega)).2] at e
    exact bestTo_none.1 q2 c (by omega) e)
  have hhead : ∀ d i, i < a.length → a.length ≤ i + d → (itm a i).head = q → (itm l i).head = q := by
    intro d
    induction d with
    | zero => intro i h1 h2; omega
    | succ d ih =>
      intro i hi hd2 hh
      rw [(hMl.2.2 i (by omega)).2.2]
      have hha := (hM.2.2 i hi).2.2
      rw [hh] at hha
      unfold headOf at hha ⊢
      rcases bestTo_spec a i a.length with hb | ⟨c, c1, c2, c3⟩
      · have hb' : best a i = -1 := hb
        rw [if_pos hb'] at hha
        have : i = q := by omega
        subst this
        rw [if_pos hqn]
      · have hb' : best a i = c := c3
        rw [hb', if_neg (by omega)] at hha
        simp only [Int.toNat_natCast] at hha
        have := (hp c c1).2
        have hcu := hup a.length c c1 (by omega) hha.symm
        rw [hbest i c c1 c2 hb' hcu, if_neg (by omega)]
        simp only [Int.toNat_natCast]
        exact ih c c1 (by omega) hha.symm
  rw [ht]
  unfold topA
  rw [if_pos hMl]
  unfold topP
  have hju := hup a.length j j1 (by omega) j4
  rw [hbest (-1) j j1 j2 j3 hju, if_neg (by omega)]
  simp only [Int.toNat_natCast]
  rw [hhead a.length j j1 (by omega) j4]
  simp only [Int.toNat_natCast]
  exact (hid q q1).1
end Go.Proofs.Ytionkkjdaghakaa
