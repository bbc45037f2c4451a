/- GN: several texts in one. -/
import Derived.Test.YtdocgemfedohdaaGreatGK
import Derived.Test.YtdocgemfedohdaaGreatGC
import Derived.Deep.RegionHeld3
import Derived.Test.YtdocgemfedohdaaGreatGJ
/-! The document's shuffle and committee, walked. -/
namespace Go.Proofs.YtdocgemfedohdaaGreat
open Go.RowKit
end Go.Proofs.YtdocgemfedohdaaGreat
/-! The document's committee, walked. -/
namespace Go.Proofs.YtdocgemfedohdaaGreat
open Go.RowKit
end Go.Proofs.YtdocgemfedohdaaGreat
/-! votes.Last: the plain law of its loops. -/
namespace Go.Proofs.YtdocgemfedohdaaGreat
/-- What has been told of the duties that came. -/
structure LR (u : Int) (m : List (Dty × ID)) (came : List Dty) (t : List (Int × Vote)) : Prop where
  sub : ∀ d ∈ came, d ∈ m.map (·.1)
  nd : came.Nodup
  is : ∀ f v, mget t f = some v → v.frm = f ∧ v.slot ≤ u ∧ mget m (dty v) = some v.head
  most : ∀ d ∈ came, d.slot ≤ u → ∃ v, mget t d.frm = some v ∧ d.slot ≤ v.slot
  len : t.length ≤ came.length
theorem lr_nil (u : Int) (m : List (Dty × ID)) : LR u m [] [] := ⟨by simp, List.nodup_nil, by simp [mget], by simp, Nat.le_refl _⟩
theorem lr_len {u : Int} {m : List (Dty × ID)} {came : List Dty} {t : List (Int × Vote)} (h : LR u m came t) : t.length ≤ m.length := by
  have := nodup_sub_len h.nd h.sub
  rw [List.length_map] at this
  exact Nat.le_trans h.len this
theorem mput_len2 {κ ν : Type} [DecidableEq κ] (m : List (κ × ν)) (x : κ) (v : ν) : (mput m x v).length ≤ m.length + 1 := by
  unfold mput
  split <;> simp
theorem lr_skip {u : Int} {m : List (Dty × ID)} {came : List Dty} {t : List (Int × Vote)} (h : LR u m came t) {d : Dty} {i : ID} (hd : (d, i) ∈ m) (hn : d ∉ came) (hs : d.slot ≤ u → ∃ v, mget t d.frm = some v ∧ d.slot ≤ v.slot) : LR u m (d :: came) t := by
  refine ⟨fun x hx => ?_, List.nodup_cons.2 ⟨hn, h.nd⟩, h.is, fun x hx hu => ?_, Nat.le_succ_of_le h.len⟩
  · rcases List.mem_cons.1 hx with rfl | hx
    · exact List.mem_map_of_mem hd
    · exact h.sub x hx
  · rcases List.mem_cons.1 hx with rfl | hx
    · exact hs hu
    · exact h.most x hx hu
theorem lr_put {u : Int} {m : List (Dty × ID)} (hm : (m.map (·.1)).Nodup) {came : List Dty} {t : List (Int × Vote)} (h : LR u m came t) {d : Dty} {i : ID} (hd : (d, i) ∈ m) (hn : d ∉ came) (hu : d.slot ≤ u) (hs : ∀ v, mget t d.frm = some v → v.slot < d.slot) : LR u m (d :: came) (mput t d.frm ⟨d.frm, d.slot, i⟩) := by
  refine ⟨fun x hx => ?_, List.nodup_cons.2 ⟨hn, h.nd⟩, fun f v hv => ?_, fun x hx hxu => ?_, Nat.le_trans (mput_len2 _ _ _) (Nat.succ_le_succ h.len)⟩
  · rcases List.mem_cons.1 hx with rfl | hx
    · exact List.mem_map_of_mem hd
    · exact h.sub x hx
  · rw [mget_mputV] at hv
    split at hv
    · rename_i e
      cases hv
      exact ⟨e, hu, mem_mget hm hd⟩
    · exact h.is f v hv
  · rw [mget_mputV]
    split
    · rename_i e
      refine ⟨_, rfl, ?_⟩
      rcases List.mem_cons.1 hx with rfl | hx
      · exact Int.le_refl _
      · obtain ⟨v, hv, hle⟩ := h.most x hx hxu
        rw [← e] at hv
        have := hs v hv
        show x.slot ≤ d.slot
        omega
    · rename_i e
      rcases List.mem_cons.1 hx with rfl | hx
      · exact absurd rfl e
      · exact h.most x hx hxu
/-- Who is double has been taken out. -/
structure LD (u : Int) (b : List (Dty × Bool)) (t : List (Int × Vote)) (came : List Dty) (t2 : List (Int × Vote)) : Prop where
  gone : ∀ d ∈ came, d.slot ≤ u → mget t2 d.frm = none
  from_ : ∀ f v, mget t2 f = some v → mget t f = some v
  stay : ∀ f v, mget t f = some v → (∀ d ∈ b.map (·.1), d.slot ≤ u → d.frm ≠ f) → mget t2 f = some v
  len : t2.length ≤ t.length
theorem ld_nil (u : Int) (b : List (Dty × Bool)) (t : List (Int × Vote)) : LD u b t [] t := ⟨by simp, fun _ _ h => h, fun _ _ h _ => h, Nat.le_refl _⟩
theorem ld_skip {u : Int} {b : List (Dty × Bool)} {t : List (Int × Vote)} {came : List Dty} {t2 : List (Int × Vote)} (h : LD u b t came t2) {d : Dty} (hd : ¬ d.slot ≤ u) : LD u b t (d :: came) t2 := by
  refine ⟨fun x hx hu => ?_, h.from_, h.stay, h.len⟩
  rcases List.mem_cons.1 hx with rfl | hx
  · exact absurd hu hd
  · exact h.gone x hx hu
theorem ld_take {u : Int} {b : List (Dty × Bool)} {t : List (Int × Vote)} {came : List Dty} {t2 : List (Int × Vote)} (h : LD u b t came t2) {d : Dty} {x : Bool} (hd : (d, x) ∈ b) (hu : d.slot ≤ u) : LD u b t (d :: came) (mdel t2 d.frm) := by
  refine ⟨fun x hx hxu => ?_, fun f v hv => ?_, fun f v hv hno => ?_, Nat.le_trans (List.length_filter_le _ _) h.len⟩
  · rw [mget_mdel]
    split
    · rfl
    · rename_i e
      rcases List.mem_cons.1 hx with rfl | hx
      · exact absurd rfl e
      · exact h.gone x hx hxu
  · rw [mget_mdel] at hv
    split at hv
    · cases hv
    · exact h.from_ f v hv
  · rw [mget_mdel, if_neg (hno d (List.mem_map_of_mem hd) hu)]
    exact h.stay f v hv hno
theorem last_end {l : List Vote} {u : Int} {m : List (Dty × ID)} {b : List (Dty × Bool)} {came came2 : List Dty} {t t2 : List (Int × Vote)} {ys o : List Vote} (hb : Book l m b) (h : LR u m came t) (hall : ∀ p ∈ m, p.1 ∈ came) (h2 : LD u b t came2 t2) (hall2 : ∀ p ∈ b, p.1 ∈ came2)
    (hn : (t2.map (·.1)).Nodup) (hy : ys.Perm (t2.map (·.2))) (hp : o.Perm ys) (hs : o.Pairwise (fun x y => x.frm ≤ y.frm)) : o = lastL l u := by
  have hpo := hp.trans hy
  have hfrm : ∀ p ∈ t2, p.2.frm = p.1 := fun p hp => (h.is _ _ (h2.from_ _ _ (mem_mget hn (show (p.1, p.2) ∈ t2 from hp)))).1
  have hmem : ∀ v, v ∈ o ↔ mget t2 v.frm = some v := fun v => by
    rw [hpo.mem_iff]
    constructor
    · intro hv
      obtain ⟨p, hp, rfl⟩ := List.mem_map.1 hv
      rw [hfrm p hp]
      exact mem_mget hn hp
    · intro hv
      exact List.mem_map.2 ⟨_, mgot_mem hv, rfl⟩
  have hmm : (t2.map (·.2)).map (·.frm) = t2.map (·.1) := by
    rw [List.map_map]
    exact List.map_congr_left fun p hp => hfrm p hp
  have hnd : (o.map (·.frm)).Nodup := by
    refine (hpo.map (·.frm)).nodup_iff.2 ?_
    rw [hmm]
    exact hn
  have hthere : ∀ f v, mget t f = some v → v ∈ l ∧ v.frm = f ∧ v.slot ≤ u := fun f v hv => by
    obtain ⟨h1, h2, h3⟩ := h.is f v hv
    exact ⟨hb.there _ _ h3, h1, h2⟩
  have hcame : ∀ y ∈ l, dty y ∈ came := fun y hy => by
    obtain ⟨i, hi⟩ := Option.isSome_iff_exists.1 (hb.all y hy)
    exact hall _ (mgot_mem hi)
  have hbad : ∀ d : Dty, d ∈ b.map (·.1) ↔ Dbl l d.slot d.frm := fun d => by
    rw [← hb.bad d]
    unfold mget
    rw [Option.isSome_map, List.find?_isSome]
    constructor
    · intro hd
      obtain ⟨p, hp, e⟩ := List.mem_map.1 hd
      exact ⟨p, hp, by simpa using e⟩
    · rintro ⟨p, hp, e⟩
      exact List.mem_map.2 ⟨p, hp, by simpa using e⟩
  refine lastL_eq ⟨sortedV_rises hs hnd, fun v => ?_⟩
  rw [hmem]
  unfold InLast
  constructor
  · intro hv
    have ht := h2.from_ _ _ hv
    obtain ⟨h1, _, h3⟩ := hthere _ _ ht
    refine ⟨h1, h3, fun y hy hf hu => ?_, fun y hy hf hu hd => ?_⟩
    · obtain ⟨v', hv', hle⟩ := h.most _ (hcame y hy) hu
      rw [show (dty y).frm = v.frm from hf, ht] at hv'
      cases hv'
      exact hle
    · obtain ⟨p, hp, e⟩ := List.mem_map.1 ((hbad ⟨v.frm, y.slot⟩).2 hd)
      have := h2.gone p.1 (hall2 p hp) (by rw [e]; exact hu)
      rw [e] at this
      rw [show mget t2 v.frm = none from this] at hv
      cases hv
  · rintro ⟨h1, h3, h4, h5⟩
    obtain ⟨v', hv', hle⟩ := h.most _ (hcame v h1) h3
    obtain ⟨g1, g2, g3⟩ := hthere _ _ hv'
    have hle2 := h4 v' g1 g2 g3
    have hsl : v.slot = v'.slot := by
      have : (dty v).slot = v.slot := rfl
      omega
    have : v = v' := dbl_one h1 g1 g2.symm hsl (h5 v h1 rfl h3)
    subst this
    refine h2.stay _ _ hv' fun d hd hu e => ?_
    have hdb := (hbad d).1 hd
    obtain ⟨y, hy, hf, hsy⟩ := dbl_mem hdb
    refine h5 y hy (hf.trans e) (by omega) ?_
    rw [hsy]
    rw [← show d.frm = v.frm from e]
    exact hdb
end Go.Proofs.YtdocgemfedohdaaGreat
/-! The walk of votes.Last. -/
namespace Go.Proofs.YtdocgemfedohdaaGreat
open Go.RowKit
theorem own_empty {w : World} {base g : Nat} (h : w.heap[g]? = some (.cells #[] 37 (0, 0))) (hb : base ≤ g) : Own w base 37 4 encVote (.slice (some ⟨g, 0, none⟩) 0 0) ([] : List Vote) :=
  ⟨by simp, .inr ⟨g, 0, #[], rfl, hb, h, Nat.le_refl _, by unfold maxLen; omega, rfl, rfl⟩⟩
theorem last_lay (w : World) (M1 M2 : Nat) : ∃ W, (((w.alloc (.cells #[.map (some M1), .map (some M2)] 110)).alloc (.map #[] 0)).alloc (.cells #[] 37)) = W ∧ Below w.heap.size w W ∧ W.heap[w.heap.size]? = some (.cells #[.map (some M1), .map (some M2)] 110 (0, 0)) ∧
    MapIs (Value.int .i64) votev W (w.heap.size + 1) [] ∧ W.heap[w.heap.size + 1 + 1]? = some (.cells #[] 37 (0, 0)) ∧ W.heap.size = w.heap.size + 1 + 1 + 1 :=
  ⟨_, rfl, (((Below.refl _ w).alloc (Nat.le_refl _) _).alloc (by simp) _).alloc (by simp; omega) _, ha_lt (ha_lt (ha_at rfl)), MapIs_alloc (MapIs_new _ _ (ha_at (by simp))) _, ha_at (by simp), by simp⟩
theorem dlay (w : World) (d : Dty) : Below w.heap.size w (w.alloc (.cells #[.int .i64 d.frm, .int .i64 d.slot] 113)) ∧ (w.alloc (.cells #[.int .i64 d.frm, .int .i64 d.slot] 113)).heap[w.heap.size]? = some (.cells #[.int .i64 d.frm, .int .i64 d.slot] 113 (0, 0)) :=
  ⟨(Below.refl _ w).alloc (Nat.le_refl _) _, ha_at rfl⟩
end Go.Proofs.YtdocgemfedohdaaGreat
/-! Votes compared; marigoldlaw07.awake, walked. -/
namespace Go.Proofs.YtdocgemfedohdaaGreat
open Go.RowKit
theorem eqlIn_vote (d : Nat) (x y : Vote) (w : World) : (Op.equalIn (d + 3) 37 (votev x) (votev y)).run Tryz.prog w = .ok (decide (x = y)) w := by
  have u := Tryz.underlying37
  have hid := fun (a b c e : Int) w => show (Op.equalIn (d + 2) 28 (.agg #[.int .u64 a, .int .u64 b]) (.agg #[.int .u64 c, .int .u64 e])).run Tryz.prog w = .ok (decide ((⟨a, b⟩ : ID) = ⟨c, e⟩)) w from eqlIn_id d ⟨a, b⟩ ⟨c, e⟩ w
  have z := Tryz.sizeOf3
  have z2 := Tryz.sizeOf28
  have u3 := Tryz.underlying3
  have g := Tryz.isAgg28
  unfold votev
  rw [run_equalIn_struct _ _ _ _ _ (by kernel_rfl) (by kernel_rfl)]
  simp only [Program.fieldsOf, u]
  obtain ⟨x1, x2, x3, x4⟩ := x
  obtain ⟨y1, y2, y3, y4⟩ := y
  by_cases h1 : x1 = y1 <;> by_cases h2 : x2 = y2 <;> by_cases h3 : x3 = y3 <;> by_cases h4 : x4 = y4 <;> simp [Op.eqFields, part, z, z2, g, hid, run_equalIn_int _ _ _ _ _ _ _ u3, h1, h2, h3, h4]
theorem eql_votew (x y : Vote) (w : World) : (binOp .eql 37 (.agg #[.int .i64 x.frm, .int .i64 x.slot, .int .u64 x.head.hi, .int .u64 x.head.lo]) (.agg #[.int .i64 y.frm, .int .i64 y.slot, .int .u64 y.head.hi, .int .u64 y.head.lo])).run Tryz.prog w = .ok (.bool (decide (x = y))) w := by
  have h := eqlIn_vote 9997 x y w
  unfold votev at h
  rw [run_eql_struct, h]
  rfl
theorem neq_votew (x y : Vote) (w : World) : (binOp .neq 37 (.agg #[.int .i64 x.frm, .int .i64 x.slot, .int .u64 x.head.hi, .int .u64 x.head.lo]) (.agg #[.int .i64 y.frm, .int .i64 y.slot, .int .u64 y.head.hi, .int .u64 y.head.lo])).run Tryz.prog w = .ok (.bool (!decide (x = y))) w := by
  have h := eqlIn_vote 9997 x y w
  unfold votev at h
  rw [run_neq_struct, h]
  rfl
/-! The chapter's example. -/
def awL : List Vote := [⟨1, 3, ⟨0, 0⟩⟩, ⟨1, 3, ⟨1, 1⟩⟩, ⟨2, 3, ⟨0, 0⟩⟩]
theorem awL_d : dblL awL 3 = [1] := by
  refine (dblL_eq (o := [1]) ⟨⟨by simp, trivial⟩, fun f => ⟨fun h => ?_, fun h => ?_⟩⟩).symm
  · rw [List.mem_singleton.1 h]
    decide
  · obtain ⟨x, hx, hf, _⟩ := dbl_mem h
    unfold awL at hx
    simp only [List.mem_cons, List.not_mem_nil, or_false] at hx
    rcases hx with rfl | rfl | rfl
    · simp [← hf]
    · simp [← hf]
    · subst hf
      exact absurd h (by decide)
theorem awL_o : ofL awL 3 = [⟨2, 3, ⟨0, 0⟩⟩] := by kernel_rfl
theorem awL_l3 : (lastL awL 3).length = 1 := by kernel_rfl
theorem awL_l2 : (lastL awL 2).length = 0 := by kernel_rfl
end Go.Proofs.YtdocgemfedohdaaGreat
/-! VotesEach: the plain law. -/
namespace Go.Proofs.YtdocgemfedohdaaGreat
def cntV (f : Int) (o : List Vote) : Nat := (o.filter fun x => decide (x.frm = f)).length
def cntI (f : Int) (d : List Int) : Nat := (d.filter fun x => decide (x = f)).length
theorem cntV_snoc (f : Int) {o : List Vote} {k : Nat} (hlt : k < o.length) : cntV f (o.take (k + 1)) = cntV f (o.take k) + (if o[k].frm = f then 1 else 0) := by
  unfold cntV
  rw [List.take_succ_eq_append_getElem hlt, List.filter_append, List.length_append]
  by_cases h : o[k].frm = f <;> simp [h]
theorem cntI_snoc (f : Int) {d : List Int} {k : Nat} (hlt : k < d.length) : cntI f (d.take (k + 1)) = cntI f (d.take k) + (if d[k] = f then 1 else 0) := by
  unfold cntI
  rw [List.take_succ_eq_append_getElem hlt, List.filter_append, List.length_append]
  by_cases h : d[k] = f <;> simp [h]
theorem cntV_len (f : Int) (o : List Vote) (k : Nat) : cntV f (o.take k) ≤ k := by
  unfold cntV
  refine Nat.le_trans (List.length_filter_le _ _) ?_
  simp; omega
theorem cntI_len (f : Int) (d : List Int) (k : Nat) : cntI f (d.take k) ≤ k := by
  unfold cntI
  refine Nat.le_trans (List.length_filter_le _ _) ?_
  simp; omega
theorem one_of {α : Type} (p : α → Bool) : ∀ {l : List α}, (∃ x ∈ l, p x = true) → (∀ i j (hi : i < l.length) (hj : j < l.length), p l[i] = true → p l[j] = true → i = j) → (l.filter p).length = 1
  | [], h, _ => by obtain ⟨x, hx, _⟩ := h; cases hx
  | a :: l, h, hu => by
    by_cases ha : p a = true
    · have : l.filter p = [] := by
        rw [List.filter_eq_nil_iff]
        intro x hx hp
        obtain ⟨j, hj, rfl⟩ := List.getElem_of_mem hx
        have := hu 0 (j + 1) (by simp) (by simpa using hj) (by simpa using ha) (by simpa using hp)
        omega
      rw [List.filter_cons_of_pos ha, this]
      rfl
    · rw [List.filter_cons_of_neg ha]
      refine one_of p ?_ (fun i j hi hj h1 h2 => ?_)
      · obtain ⟨x, hx, hp⟩ := h
        rcases List.mem_cons.1 hx with rfl | hx
        · exact absurd hp ha
        · exact ⟨x, hx, hp⟩
      · have := hu (i + 1) (j + 1) (by simpa using hi) (by simpa using hj) (by simpa using h1) (by simpa using h2)
        omega
theorem rises_inj {d : List Int} (h : Rises d) (i j : Nat) (hi : i < d.length) (hj : j < d.length) (he : d[i] = d[j]) : i = j := by
  rcases Nat.lt_trichotomy i j with h1 | h1 | h1
  · have := rises_le h i j hi hj h1; omega
  · exact h1
  · have := rises_le h j i hj hi h1; omega
theorem each_law {l : List Vote} {v : Vote} (hv : v ∈ l) : cntV v.frm (ofL l v.slot) + cntI v.frm (dblL l v.slot) = 1 ∧ ∀ x ∈ ofL l v.slot, x.frm = v.frm → x = v := by
  have ho := ofL_is l v.slot
  have hd := dblL_is l v.slot
  have hx : ∀ x ∈ ofL l v.slot, x.frm = v.frm → x = v := fun x hx hf => by
    obtain ⟨h1, h2, h3⟩ := (ho.2 x).1 hx
    exact dbl_one h1 hv hf h2 (by rw [h2]; exact h3)
  refine ⟨?_, hx⟩
  by_cases hD : Dbl l v.slot v.frm
  · have h1 : cntV v.frm (ofL l v.slot) = 0 := by
      unfold cntV
      rw [List.length_eq_zero_iff, List.filter_eq_nil_iff]
      intro x hx hp
      simp only [decide_eq_true_eq] at hp
      obtain ⟨_, _, h3⟩ := (ho.2 x).1 hx
      rw [hp] at h3
      exact h3 hD
    have h2 : cntI v.frm (dblL l v.slot) = 1 := one_of _ ⟨v.frm, (hd.2 _).2 hD, by simp⟩ (fun i j hi hj h1 h2 => by
      simp only [decide_eq_true_eq] at h1 h2
      exact rises_inj hd.1 i j hi hj (h1.trans h2.symm))
    omega
  · have h2 : cntI v.frm (dblL l v.slot) = 0 := by
      unfold cntI
      rw [List.length_eq_zero_iff, List.filter_eq_nil_iff]
      intro x hx hp
      simp only [decide_eq_true_eq] at hp
      rw [hp] at hx
      exact hD ((hd.2 _).1 hx)
    have h1 : cntV v.frm (ofL l v.slot) = 1 := one_of _ ⟨v, (ho.2 v).2 ⟨hv, rfl, hD⟩, by simp⟩ (fun i j hi hj h1 h2 => by
      simp only [decide_eq_true_eq] at h1 h2
      rcases Nat.lt_trichotomy i j with h | h | h
      · have := risesV_lt ho.1 i j hi hj h; omega
      · exact h
      · have := risesV_lt ho.1 j i hj hi h; omega)
    omega
end Go.Proofs.YtdocgemfedohdaaGreat
/-! marigoldref07.double, walked. -/
namespace Go.Proofs.YtdocgemfedohdaaGreat
open Go.RowKit
/-- Two votes that make one double. -/
def Pv (s f : Int) (x y : Vote) : Prop := x.frm = f ∧ y.frm = f ∧ x.slot = s ∧ y.slot = s ∧ x.head ≠ y.head
theorem pv_dbl {l : List Vote} {s f : Int} {x y : Vote} (hx : x ∈ l) (hy : y ∈ l) (h : Pv s f x y) : Dbl l s f := ⟨x, hx, y, hy, h⟩
/-- No two of the first k make one double. -/
def Nop (l : List Vote) (s f : Int) (k : Nat) : Prop := ∀ a b (ha : a < l.length) (hb : b < l.length), b < a → a < k → ¬ Pv s f l[a] l[b]
theorem nop_zero (l : List Vote) (s f : Int) : Nop l s f 0 := fun a b _ _ _ h => by omega
theorem nop_all {l : List Vote} {s f : Int} (h : Nop l s f l.length) : ¬ Dbl l s f := by
  rintro ⟨x, hx, y, hy, h1, h2, h3, h4, h5⟩
  obtain ⟨a, ha, rfl⟩ := List.getElem_of_mem hx
  obtain ⟨b, hb, rfl⟩ := List.getElem_of_mem hy
  rcases Nat.lt_trichotomy a b with hab | hab | hab
  · exact h b a hb ha hab hb ⟨h2, h1, h4, h3, fun e => h5 e.symm⟩
  · subst hab; exact h5 rfl
  · exact h a b ha hb hab ha ⟨h1, h2, h3, h4, h5⟩
def Nop2 (l : List Vote) (s f : Int) (x : Vote) (k : Nat) : Prop := ∀ b (hb : b < l.length), b < k → ¬ Pv s f x l[b]
theorem nop2_step {l : List Vote} {s f : Int} {x y : Vote} {k : Nat} (hk : k < l.length) (h : Nop2 l s f x k) (hy : l[k] = y) (hn : ¬ Pv s f x y) : Nop2 l s f x (k + 1) := fun b hb hbk => by
  by_cases e : b = k
  · subst e; rw [hy]; exact hn
  · exact h b hb (by omega)
theorem nop_step {l : List Vote} {s f : Int} {x : Vote} {k : Nat} (hk : k < l.length) (h : Nop l s f k) (hx : l[k] = x) (h2 : Nop2 l s f x k) : Nop l s f (k + 1) := fun a b ha hb hba hak => by
  by_cases e : a = k
  · subst e; rw [hx]; exact h2 b hb hba
  · exact h a b ha hb hba (by omega)
end Go.Proofs.YtdocgemfedohdaaGreat
