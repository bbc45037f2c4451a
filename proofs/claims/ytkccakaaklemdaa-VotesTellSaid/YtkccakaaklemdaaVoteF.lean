/- votes.Last: the plain law of its loops. -/
import Derived.Test.YtkccakaaklemdaaVoteE
namespace Go.Proofs.Ytkccakaaklemdaa
/-- What has been told of the duties that came. -/
structure LR (u : Int) (m : List (Dty × ID)) (came : List Dty) (t : List (Int × Vote)) : Prop where
  sub : ∀ d ∈ came, d ∈ m.map (·.1)
  nd : came.Nodup
  is : ∀ f v, mget t f = some v → v.frm = f ∧ v.slot ≤ u ∧ mget m (dty v) = some v.head
  most : ∀ d ∈ came, d.slot ≤ u → ∃ v, mget t d.frm = some v ∧ d.slot ≤ v.slot
  len : t.length ≤ came.length
theorem lr_nil (u : Int) (m : List (Dty × ID)) : LR u m [] [] := ⟨by simp, List.nodup_nil, by simp [mget], by simp, Nat.le_refl _⟩
theorem lr_len {u : Int} {m : List (Dty × ID)} {came : List Dty} {t : List (Int × Vote)} (h : LR u m came t) : t.length ≤ m.length := by
  have := nodup_sub_len h.nd h.sub
  rw [List.length_map] at this
  exact Nat.le_trans h.len this
theorem mput_len2 {κ ν : Type} [DecidableEq κ] (m : List (κ × ν)) (x : κ) (v : ν) : (mput m x v).length ≤ m.length + 1 := by
  unfold mput
  split <;> simp
theorem lr_skip {u : Int} {m : List (Dty × ID)} {came : List Dty} {t : List (Int × Vote)} (h : LR u m came t) {d : Dty} {i : ID} (hd : (d, i) ∈ m) (hn : d ∉ came) (hs : d.slot ≤ u → ∃ v, mget t d.frm = some v ∧ d.slot ≤ v.slot) : LR u m (d :: came) t := by
  refine ⟨fun x hx => ?_, List.nodup_cons.2 ⟨hn, h.nd⟩, h.is, fun x hx hu => ?_, Nat.le_succ_of_le h.len⟩
  · rcases List.mem_cons.1 hx with rfl | hx
    · exact List.mem_map_of_mem hd
    · exact h.sub x hx
  · rcases List.mem_cons.1 hx with rfl | hx
    · exact hs hu
    · exact h.most x hx hu
theorem lr_put {u : Int} {m : List (Dty × ID)} (hm : (m.map (·.1)).Nodup) {came : List Dty} {t : List (Int × Vote)} (h : LR u m came t) {d : Dty} {i : ID} (hd : (d, i) ∈ m) (hn : d ∉ came) (hu : d.slot ≤ u) (hs : ∀ v, mget t d.frm = some v → v.slot < d.slot) : LR u m (d :: came) (mput t d.frm ⟨d.frm, d.slot, i⟩) := by
  refine ⟨fun x hx => ?_, List.nodup_cons.2 ⟨hn, h.nd⟩, fun f v hv => ?_, fun x hx hxu => ?_, Nat.le_trans (mput_len2 _ _ _) (Nat.succ_le_succ h.len)⟩
  · rcases List.mem_cons.1 hx with rfl | hx
    · exact List.mem_map_of_mem hd
    · exact h.sub x hx
  · rw [mget_mput] at hv
    split at hv
    · rename_i e
      cases hv
      exact ⟨e, hu, mem_mget hm hd⟩
    · exact h.is f v hv
  · rw [mget_mput]
    split
    · rename_i e
      refine ⟨_, rfl, ?_⟩
      rcases List.mem_cons.1 hx with rfl | hx
      · exact Int.le_refl _
      · obtain ⟨v, hv, hle⟩ := h.most x hx hxu
        rw [← e] at hv
        have := hs v hv
        show x.slot ≤ d.slot
        omega
    · rename_i e
      rcases List.mem_cons.1 hx with rfl | hx
      · exact absurd rfl e
      · exact h.most x hx hxu
/-- Who is double has been taken out. -/
structure LD (u : Int) (b : List (Dty × Bool)) (t : List (Int × Vote)) (came : List Dty) (t2 : List (Int × Vote)) : Prop where
  gone : ∀ d ∈ came, d.slot ≤ u → mget t2 d.frm = none
  from_ : ∀ f v, mget t2 f = some v → mget t f = some v
  stay : ∀ f v, mget t f = some v → (∀ d ∈ b.map (·.1), d.slot ≤ u → d.frm ≠ f) → mget t2 f = some v
  len : t2.length ≤ t.length
theorem ld_nil (u : Int) (b : List (Dty × Bool)) (t : List (Int × Vote)) : LD u b t [] t := ⟨by simp, fun _ _ h => h, fun _ _ h _ => h, Nat.le_refl _⟩
theorem ld_skip {u : Int} {b : List (Dty × Bool)} {t : List (Int × Vote)} {came : List Dty} {t2 : List (Int × Vote)} (h : LD u b t came t2) {d : Dty} (hd : ¬ d.slot ≤ u) : LD u b t (d :: came) t2 := by
  refine ⟨fun x hx hu => ?_, h.from_, h.stay, h.len⟩
  rcases List.mem_cons.1 hx with rfl | hx
  · exact absurd hu hd
  · exact h.gone x hx hu
theorem ld_take {u : Int} {b : List (Dty × Bool)} {t : List (Int × Vote)} {came : List Dty} {t2 : List (Int × Vote)} (h : LD u b t came t2) {d : Dty} {x : Bool} (hd : (d, x) ∈ b) (hu : d.slot ≤ u) : LD u b t (d :: came) (mdel t2 d.frm) := by
  refine ⟨fun x hx hxu => ?_, fun f v hv => ?_, fun f v hv hno => ?_, Nat.le_trans (List.length_filter_le _ _) h.len⟩
  · rw [mget_mdel]
    split
    · rfl
    · rename_i e
      rcases List.mem_cons.1 hx with rfl | hx
      · exact absurd rfl e
      · exact h.gone x hx hxu
  · rw [mget_mdel] at hv
    split at hv
    · cases hv
    · exact h.from_ f v hv
  · rw [mget_mdel, if_neg (hno d (List.mem_map_of_mem hd) hu)]
    exact h.stay f v hv hno
theorem last_end {l : List Vote} {u : Int} {m : List (Dty × ID)} {b : List (Dty × Bool)} {came came2 : List Dty} {t t2 : List (Int × Vote)} {ys o : List Vote} (hb : Book l m b) (h : LR u m came t) (hall : ∀ p ∈ m, p.1 ∈ came) (h2 : LD u b t came2 t2) (hall2 : ∀ p ∈ b, p.1 ∈ came2)
    (hn : (t2.map (·.1)).Nodup) (hy : ys.Perm (t2.map (·.2))) (hp : o.Perm ys) (hs : o.Pairwise (fun x y => x.frm ≤ y.frm)) : o = lastL l u := by
  have hpo := hp.trans hy
  have hfrm : ∀ p ∈ t2, p.2.frm = p.1 := fun p hp => (h.is _ _ (h2.from_ _ _ (mem_mget hn (show (p.1, p.2) ∈ t2 from hp)))).1
  have hmem : ∀ v, v ∈ o ↔ mget t2 v.frm = some v := fun v => by
    rw [hpo.mem_iff]
    constructor
    · intro hv
      obtain ⟨p, hp, rfl⟩ := List.mem_map.1 hv
      rw [hfrm p hp]
      exact mem_mget hn hp
    · intro hv
      exact List.mem_map.2 ⟨_, mgot_mem hv, rfl⟩
  have hmm : (t2.map (·.2)).map (·.frm) = t2.map (·.1) := by
    rw [List.map_map]
    exact List.map_congr_left fun p hp => hfrm p hp
  have hnd : (o.map (·.frm)).Nodup := by
    refine (hpo.map (·.frm)).nodup_iff.2 ?_
    rw [hmm]
    exact hn
  have hthere : ∀ f v, mget t f = some v → v ∈ l ∧ v.frm = f ∧ v.slot ≤ u := fun f v hv => by
    obtain ⟨h1, h2, h3⟩ := h.is f v hv
    exact ⟨hb.there _ _ h3, h1, h2⟩
  have hcame : ∀ y ∈ l, dty y ∈ came := fun y hy => by
    obtain ⟨i, hi⟩ := Option.isSome_iff_exists.1 (hb.all y hy)
    exact hall _ (mgot_mem hi)
  have hbad : ∀ d : Dty, d ∈ b.map (·.1) ↔ Dbl l d.slot d.frm := fun d => by
    rw [← hb.bad d]
    unfold mget
    rw [Option.isSome_map, List.find?_isSome]
    constructor
    · intro hd
      obtain ⟨p, hp, e⟩ := List.mem_map.1 hd
      exact ⟨p, hp, by simpa using e⟩
    · rintro ⟨p, hp, e⟩
      exact List.mem_map.2 ⟨p, hp, by simpa using e⟩
  refine lastL_eq ⟨sortedV_rises hs hnd, fun v => ?_⟩
  rw [hmem]
  unfold InLast
  constructor
  · intro hv
    have ht := h2.from_ _ _ hv
    obtain ⟨h1, _, h3⟩ := hthere _ _ ht
    refine ⟨h1, h3, fun y hy hf hu => ?_, fun y hy hf hu hd => ?_⟩
    · obtain ⟨v', hv', hle⟩ := h.most _ (hcame y hy) hu
      rw [show (dty y).frm = v.frm from hf, ht] at hv'
      cases hv'
      exact hle
    · obtain ⟨p, hp, e⟩ := List.mem_map.1 ((hbad ⟨v.frm, y.slot⟩).2 hd)
      have := h2.gone p.1 (hall2 p hp) (by rw [e]; exact hu)
      rw [e] at this
      rw [show mget t2 v.frm = none from this] at hv
      cases hv
  · rintro ⟨h1, h3, h4, h5⟩
    obtain ⟨v', hv', hle⟩ := h.most _ (hcame v h1) h3
    obtain ⟨g1, g2, g3⟩ := hthere _ _ hv'
    have hle2 := h4 v' g1 g2 g3
    have hsl : v.slot = v'.slot := by
      have : (dty v).slot = v.slot := rfl
      omega
    have : v = v' := dbl_one h1 g1 g2.symm hsl (h5 v h1 rfl h3)
    subst this
    refine h2.stay _ _ hv' fun d hd hu e => ?_
    have hdb := (hbad d).1 hd
    obtain ⟨y, hy, hf, hsy⟩ := dbl_mem hdb
    refine h5 y hy (hf.trans e) (by omega) ?_
    rw [hsy]
    rw [← show d.frm = v.frm from e]
    exact hdb
end Go.Proofs.Ytkccakaaklemdaa
