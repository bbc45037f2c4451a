/- The top of an array of blocks is the head by weights: the plain law. -/
import Derived.Test.YtibmfpcbjopojaaGE
import Derived.Test.YtibmfpcbjopojaaFrom10
namespace Go.Proofs.Ytibmfpcbjopojaa
theorem wsum_app (W : List Int) (a : List Int) {x : Int} (hx : x ∉ a) : ∀ k, wsumTo W (fun i => decide ((i : Int) ∈ a ++ [x])) k = wsumTo W (fun i => decide ((i : Int) ∈ a)) k + (if 0 ≤ x ∧ x < k then W[x.toNat]?.getD 0 else 0)
  | 0 => by
    have : ¬ (0 ≤ x ∧ x < ((0 : Nat) : Int)) := by omega
    rw [if_neg this]; rfl
  | k + 1 => by
    simp only [wsumTo]
    rw [wsum_app W a hx k]
    by_cases e : x = k
    · subst e
      have h1 : ¬ (0 ≤ (k : Int) ∧ (k : Int) < (k : Int)) := by omega
      have h2 : 0 ≤ (k : Int) ∧ (k : Int) < ((k + 1 : Nat) : Int) := by omega
      rw [if_neg h1, if_pos h2]
      simp [hx]
    · have h1 : ((k : Int) ∈ a ++ [x]) ↔ (k : Int) ∈ a := by
        simp only [List.mem_append, List.mem_singleton]
        exact ⟨fun h => h.elim id (fun h => absurd h.symm e), .inl⟩
      have h2 : (0 ≤ x ∧ x < ((k + 1 : Nat) : Int)) ↔ (0 ≤ x ∧ x < (k : Int)) := by omega
      simp only [h1, h2]
      omega
theorem weight_app {c : Cfg} (hm : MayC c) {a : List Int} {x : Int} (hx : x ∉ a) : weightC c (a ++ [x]) = weightC c a + (if 0 ≤ x ∧ x < c.W.length then c.W[x.toNat]?.getD 0 else 0) := by
  unfold weightC
  rw [if_pos hm, if_pos hm]
  exact wsum_app c.W a hx _
theorem getD_bd {W : List Int} (h : ∀ x ∈ W, 0 ≤ x ∧ x ≤ 1099511627776) (i : Nat) : 0 ≤ W[i]?.getD 0 ∧ W[i]?.getD 0 ≤ 1099511627776 := by
  cases hi : W[i]? with
  | none => simp
  | some y =>
    have := h y (List.mem_of_getElem? hi)
    simpa using this
theorem voteA_par (W : List Int) (acc : List Item) (x : Vote) (i : Nat) : (itm (voteA W acc x) i).par = (itm acc i).par := by
  unfold voteA
  split
  · rename_i hv
    rcases find_spec acc x.head with ⟨e, _⟩ | ⟨q, hq, e, _⟩
    · exact absurd e hv.1
    · rw [e]
      simp only [Int.toNat_natCast]
      exact (moved_par hq i).1
  · rfl
theorem votesOf_par (W : List Int) (v : List Vote) : ∀ (acc : List Item) (i : Nat), (itm (votesOf W v acc) i).par = (itm acc i).par := by
  induction v with
  | nil => intro acc i; rfl
  | cons x v ih =>
    intro acc i
    show (itm (votesOf W v (voteA W acc x)) i).par = _
    rw [ih, voteA_par]
theorem blocksOf_par (l : List Blk) {i : Nat} (hi : i < l.length) : (itm (blocksOf l) i).par = findI (blocksOf (l.take i)) l[i].par := by
  have key : ∀ k, k ≤ l.length → ∀ i (h : i < k) (hl : i < l.length), (itm (blocksOf (l.take k)) i).par = findI (blocksOf (l.take i)) l[i].par := by
    intro k
    induction k with
    | zero => intro _ i h; omega
    | succ k ih =>
      intro hk i h hl
      have e : blocksOf (l.take (k + 1)) = blkA (blocksOf (l.take k)) l[k] := take_foldl blkA [] l (by omega)
      have hlen : (blocksOf (l.take k)).length = k := by rw [(blocksOf_ok _).1]; simp; omega
      rw [e]
      unfold blkA
      by_cases e2 : i < k
      · rw [itm_app _ _ _ (by omega)]
        exact ih (by omega) i e2 hl
      · obtain rfl : i = k := by omega
        have := itm_new (blocksOf (l.take i)) (bareItem (nameOf l[i]) (findI (blocksOf (l.take i)) l[i].par))
        rw [hlen] at this
        rw [this]
        rfl
  have := key l.length (Nat.le_refl _) i hi hi
  rwa [List.take_length] at this
/-- Where a block's parent is. -/
theorem par_where {l : List Blk} (ht : Tree l) {i : Nat} (hi : i < l.length) : (findI (blocksOf (l.take i)) l[i].par = -1 ∧ l[i].par = zid) ∨ ∃ (j : Nat) (hj : j < i), findI (blocksOf (l.take i)) l[i].par = j ∧ nameOf (l[j]'(by omega)) = l[i].par := by
  have hlen : (blocksOf (l.take i)).length = i := by rw [(blocksOf_ok _).1]; simp; omega
  have hid : ∀ j (hj : j < i), (itm (blocksOf (l.take i)) j).id = nameOf (l[j]'(by omega)) := fun j hj => by
    rw [blocksOf_id _ (by simp; omega)]
    simp
  rcases find_spec (blocksOf (l.take i)) l[i].par with ⟨e, hno⟩ | ⟨k, hk, e, h, _⟩
  · left
    refine ⟨e, ?_⟩
    rcases (ht i hi).2.2 with h | ⟨_, b, hb, h, _⟩
    · exact h.1
    · obtain ⟨j, hj, rfl⟩ := List.getElem_of_mem hb
      simp only [List.length_take] at hj
      simp only [List.getElem_take] at h
      exact absurd ((hid j (by omega)).trans h) (hno j (by omega))
  · right
    rw [hlen] at hk
    exact ⟨k, hk, e, by rw [← hid k hk]; exact h⟩
section
variable {c : Cfg} {l : List Blk} {m : List Vote} {r : List Item}
/-- What a block's own votes weigh. -/
theorem own_where (hM : MayC c) (ht : Tree l) (hm : RisesV m) : ∀ k, k ≤ m.length → ∀ i (hi : i < l.length), (itm (votesOf c.W (m.take k) (blocksOf l)) i).own = weightC c (ownOf (m.take k) (nameOf l[i]))
  | 0, _, i, hi => by
    have h1 := (blocksOf_ok l).2.2 i (by rw [(blocksOf_ok l).1]; exact hi)
    show (itm (blocksOf l) i).own = _
    rw [h1]
    simp [ownOf, weightC_nil]
  | k + 1, hk, i, hi => by
    have hlt : k < m.length := by omega
    have ih := own_where hM ht hm k (by omega)
    have e : votesOf c.W (m.take (k + 1)) (blocksOf l) = voteA c.W (votesOf c.W (m.take k) (blocksOf l)) m[k] := take_foldl (voteA c.W) (blocksOf l) m hlt
    have hlen : (votesOf c.W (m.take k) (blocksOf l)).length = l.length := by rw [(votesOf_ok hM.1.2.2 _ (blocksOf_sk l)).2, (blocksOf_ok l).1]
    have hid : ∀ j (hj : j < l.length), (itm (votesOf c.W (m.take k) (blocksOf l)) j).id = nameOf l[j] := fun j hj => by rw [votesOf_id, blocksOf_id l hj]
    rw [e, ownOf_snoc hlt]
    generalize votesOf c.W (m.take k) (blocksOf l) = acc at ih hlen hid ⊢
    have hnot : ∀ id, m[k].frm ∉ ownOf (m.take k) id := fun id hin => by
      obtain ⟨v, hv, _, hf⟩ := mem_ownOf.1 hin
      obtain ⟨j, hj, rfl⟩ := List.getElem_of_mem hv
      simp only [List.length_take] at hj
      simp only [List.getElem_take] at hf
      have := risesV_lt hm j k (by omega) hlt (by omega)
      omega
    have hgb := getD_bd hM.1.2.2 m[k].frm.toNat
    have hwb := fun id => weightC_bd c (ownOf (m.take k) id)
    unfold voteA
    by_cases hh : m[k].head = nameOf l[i]
    · rw [if_pos hh, weight_app hM (hnot _), ← ih i hi]
      have hf : findI acc m[k].head = i := find_hit (by omega) (fun j hj => by rw [hid j (by omega), hh]; exact fun e => by have := tree_inj ht (by omega) hi e; omega) (by rw [hid i hi, hh])
      by_cases hr : 0 ≤ m[k].frm ∧ m[k].frm < c.W.length
      · have hok : voteOk c.W acc m[k] := ⟨by rw [hf]; omega, hr.1, hr.2, by rw [hf]; simp only [Int.toNat_natCast]; rw [ih i hi]; have := hwb (nameOf l[i]); omega⟩
        rw [if_pos hok, if_pos hr, hf]
        simp only [Int.toNat_natCast]
        rw [(moved_par (by omega) i).2, if_pos rfl]
      · rw [if_neg (fun h => hr ⟨h.2.1, h.2.2.1⟩), if_neg hr]; omega
    · rw [if_neg hh, List.append_nil, ← ih i hi]
      by_cases hok : voteOk c.W acc m[k]
      · rw [if_pos hok]
        rcases find_spec acc m[k].head with ⟨e, _⟩ | ⟨q, hq, e, he, _⟩
        · exact absurd e hok.1
        · rw [e]
          simp only [Int.toNat_natCast]
          rw [(moved_par hq i).2, if_neg (fun e => hh (by rw [← he, hid q (by omega)]; subst e; rfl))]; omega
      · rw [if_neg hok]
theorem sum_kids (f : ID → Int) (p : Nat → Prop) [DecidablePred p] (id : ID) (hp : ∀ k (hk : k < l.length), p k ↔ l[k].par = id) : ∀ n, n ≤ l.length → sumR (fun k => if p k then f ((l[k]?.map nameOf).getD zid) else 0) n = sumL f (kidsOf (l.take n) id)
  | 0, _ => by simp [sumR, kidsOf, sumL]
  | n + 1, hn => by
    have hlt : n < l.length := by omega
    simp only [sumR]
    rw [sum_kids f p id hp n (by omega), kidsOf_snoc hlt]
    by_cases h : l[n].par = id
    · rw [if_pos ((hp n hlt).2 h), if_pos h, sumL_snoc]
      simp [hlt]
    · rw [if_neg (fun e => h ((hp n hlt).1 e)), if_neg h, List.append_nil]; omega
structure ArrAt (c : Cfg) (l : List Blk) (m : List Vote) (r : List Item) : Prop where
  hM : MayC c
  ht : Tree l
  len : r.length = l.length
  st : Settled r
  id : ∀ i (hi : i < l.length), (itm r i).id = nameOf l[i]
  par : ∀ i (hi : i < l.length), ((itm r i).par = -1 ∧ l[i].par = zid) ∨ ∃ (j : Nat) (hj : j < i), (itm r i).par = j ∧ nameOf (l[j]'(by omega)) = l[i].par
  own : ∀ i (hi : i < l.length), (itm r i).own = weightC c (ownOf m (nameOf l[i]))
theorem arrAt (hf : FromP c l m r) (hok : FromOk c l) (hm : RisesV m) : ArrAt c l m r := by
  obtain ⟨hst, hsk⟩ := hf.1 hok
  obtain ⟨hM, ht, _⟩ := hok
  have hlen : r.length = l.length := by rw [hsk.1, (votesOf_ok hM.1.2.2 _ (blocksOf_sk l)).2, (blocksOf_ok l).1]
  refine ⟨hM, ht, hlen, hst, fun i hi => ?_, fun i hi => ?_, fun i hi => ?_⟩
  · rw [(hsk.2 i (by omega)).1, votesOf_id, blocksOf_id l hi]
  · rw [(hsk.2 i (by omega)).2.1, votesOf_par, blocksOf_par l hi]
    exact par_where ht hi
  · rw [(hsk.2 i (by omega)).2.2]
    have := own_where hM ht hm m.length (Nat.le_refl _) i hi
    rwa [List.take_length] at this
theorem ArrAt.parIff (h : ArrAt c l m r) {i k : Nat} (hi : i < l.length) (hk : k < l.length) : (itm r k).par = i ↔ l[k].par = nameOf l[i] := by
  rcases h.par k hk with ⟨e, hz⟩ | ⟨j, hj, e, hn⟩
  · rw [e, hz]
    exact ⟨fun e => by omega, fun e => absurd e.symm (h.ht i hi).1⟩
  · rw [e, ← hn]
    constructor
    · intro e2
      have : j = i := by omega
      subst this; rfl
    · intro e2
      have := tree_inj h.ht (by omega) hi e2
      omega
theorem ArrAt.parZ (h : ArrAt c l m r) {k : Nat} (hk : k < l.length) : (itm r k).par = -1 ↔ l[k].par = zid := by
  rcases h.par k hk with ⟨e, hz⟩ | ⟨j, hj, e, hn⟩
  · rw [e, hz]; simp
  · rw [e, ← hn]
    exact ⟨fun e => by omega, fun e => absurd e (h.ht j (by omega)).1⟩
theorem ArrAt.parLt (h : ArrAt c l m r) {i k : Nat} (hk : k < l.length) (e : (itm r k).par = i) : i < k := by
  rcases h.par k hk with ⟨e2, _⟩ | ⟨j, hj, e2, _⟩ <;> omega
theorem ArrAt.w (h : ArrAt c l m r) (hm : RisesV m) : ∀ d i (hi : i < l.length), l.length ≤ i + d → (itm r i).w = onC c l m (nameOf l[i])
  | 0, i, hi, hd => by omega
  | d + 1, i, hi, hd => by
    have hw := (h.st i (by rw [h.len]; exact hi)).1
    unfold WEq at hw
    rw [hw, h.own i hi, on_splits c h.ht hm (id := nameOf l[i]) (by rw [chain_cons h.ht hi]; simp)]
    have e : wsum r i r.length = sumR (fun k => if (itm r k).par = i then onC c l m ((l[k]?.map nameOf).getD zid) else 0) l.length := by
      unfold wsum
      rw [h.len]
      refine sumR_congr fun k hk => ?_
      show (if (itm r k).par = i then (itm r k).w else 0) = if (itm r k).par = i then onC c l m ((l[k]?.map nameOf).getD zid) else 0
      by_cases hp : (itm r k).par = i
      · rw [if_pos hp, if_pos hp, ArrAt.w h hm d k hk (by have := h.parLt hk hp; omega)]
        simp [hk]
      · rw [if_neg hp, if_neg hp]
    rw [e, sum_kids (onC c l m) (fun k => (itm r k).par = i) (nameOf l[i]) (fun k hk => h.parIff hi hk) l.length (Nat.le_refl _), List.take_length]
    omega
/-- The best child, of those below n. -/
theorem ArrAt.best (h : ArrAt c l m r) (hm : RisesV m) (p : Int) (id : ID) (hp : ∀ k (hk : k < l.length), (itm r k).par = p ↔ l[k].par = id) : ∀ n, n ≤ l.length →
    (kidsOf (l.take n) id = [] ∧ bestTo r p n = -1) ∨ ∃ k0 ks, kidsOf (l.take n) id = k0 :: ks ∧ ∃ (j : Nat) (_ : j < n) (hj : j < l.length), bestTo r p n = j ∧ nameOf l[j] = ks.foldl (pick (onC c l m)) k0 ∧ l[j].par = id
  | 0, _ => .inl ⟨by simp [kidsOf], rfl⟩
  | n + 1, hn => by
    have hlt : n < l.length := by omega
    have hwn := ArrAt.w h hm l.length
    rw [kidsOf_snoc hlt, bestTo]
    rcases ArrAt.best h hm p id hp n (by omega) with ⟨h1, h2⟩ | ⟨k0, ks, h1, j, hjn, hj, h2, h3, h4⟩
    · rw [h1, h2]
      by_cases hpn : l[n].par = id
      · right
        rw [if_pos hpn, if_pos ⟨(hp n hlt).2 hpn, .inl rfl⟩]
        exact ⟨nameOf l[n], [], rfl, n, by omega, hlt, rfl, rfl, hpn⟩
      · left
        rw [if_neg hpn, if_neg (fun e => hpn ((hp n hlt).1 e.1))]
        exact ⟨rfl, rfl⟩
    · right
      rw [h1, h2]
      by_cases hpn : l[n].par = id
      · rw [if_pos hpn]
        refine ⟨k0, ks ++ [nameOf l[n]], rfl, ?_⟩
        have hb : better (itm r n) (itm r j) = beats (onC c l m) (nameOf l[j]) (nameOf l[n]) := by
          unfold better beats
          rw [hwn n hlt (by omega), hwn j hj (by omega), h.id n hlt, h.id j hj]
        rw [List.foldl_append, ← h3]
        simp only [List.foldl_cons, List.foldl_nil]
        by_cases hbt : beats (onC c l m) (nameOf l[j]) (nameOf l[n]) = true
        · have hb' : better (itm r n) (itm r ((j : Int)).toNat) = true := by rw [Int.toNat_natCast, hb]; exact hbt
          rw [if_pos ⟨(hp n hlt).2 hpn, .inr hb'⟩]
          exact ⟨n, by omega, hlt, rfl, by unfold pick; rw [if_pos hbt], hpn⟩
        · have hb' : ¬ better (itm r n) (itm r ((j : Int)).toNat) = true := by rw [Int.toNat_natCast, hb]; exact hbt
          rw [if_neg (fun e => e.2.elim (fun e => by omega) hb')]
          exact ⟨j, by omega, hj, rfl, by unfold pick; rw [if_neg hbt], h4⟩
      · rw [if_neg hpn, if_neg (fun e => hpn ((hp n hlt).1 e.1)), List.append_nil]
        exact ⟨k0, ks, rfl, j, by omega, hj, rfl, h3, h4⟩
theorem ArrAt.bestAll (h : ArrAt c l m r) (hm : RisesV m) (p : Int) (id : ID) (hp : ∀ k (hk : k < l.length), (itm r k).par = p ↔ l[k].par = id) :
    (kids l id = [] ∧ Go.Proofs.Ytibmfpcbjopojaa.best r p = -1) ∨ ∃ k0 ks, kids l id = k0 :: ks ∧ ∃ (j : Nat) (hj : j < l.length), Go.Proofs.Ytibmfpcbjopojaa.best r p = j ∧ nameOf l[j] = ks.foldl (pick (onC c l m)) k0 ∧ l[j].par = id := by
  have hb := ArrAt.best h hm p id hp l.length (Nat.le_refl _)
  have hk : kids l id = kidsOf l id := by simp [kids, h.ht]
  rw [List.take_length, ← hk] at hb
  unfold Go.Proofs.Ytibmfpcbjopojaa.best
  rw [h.len]
  rcases hb with hb | ⟨k0, ks, h1, j, _, hj, h2, h3, h4⟩
  · exact .inl hb
  · exact .inr ⟨k0, ks, h1, j, hj, h2, h3, h4⟩
theorem ArrAt.head (h : ArrAt c l m r) (hm : RisesV m) : ∀ d i (hi : i < l.length), l.length ≤ i + d → ∀ n, l.length + 1 ≤ n + (chain l (nameOf l[i])).length → headGo l (onC c l m) n (nameOf l[i]) = (itm r (itm r i).head.toNat).id
  | 0, i, hi, hd, _, _ => by omega
  | d + 1, i, hi, hd, n, hn => by
    have hbe := (h.st i (by rw [h.len]; exact hi)).2.2
    rw [hbe]
    unfold headOf
    rcases h.bestAll hm i (nameOf l[i]) (fun k hk => h.parIff hi hk) with ⟨h1, h2⟩ | ⟨k0, ks, h1, j, hj, h2, h3, h4⟩
    · rw [h2, if_pos rfl, headGo_nil h1]
      simp only [Int.toNat_natCast]
      rw [h.id i hi]
    · rw [h2, if_neg (by omega)]
      simp only [Int.toNat_natCast]
      have hkm : nameOf l[j] ∈ kids l (nameOf l[i]) := by rw [h3]; exact pick_kids h1
      have hro := kids_room hkm
      have hch := (kids_chain hkm).1
      have hij := h.parLt hj ((h.parIff hi hj).2 h4)
      cases n with
      | zero => omega
      | succ n =>
        rw [headGo_cons h1, ← h3]
        exact ArrAt.head h hm d j hj (by omega) n (by rw [hch, List.length_cons]; omega)
theorem top_head (hf : FromP c l m r) (hok : FromOk c l) (hm : RisesV m) : topA r = headBy l (onC c l m) := by
  have h := arrAt hf hok hm
  have hMA := (from_may hf).1
  unfold topA
  rw [if_pos hMA]
  unfold topP
  rcases h.bestAll hm (-1) zid (fun k hk => h.parZ hk) with ⟨h1, h2⟩ | ⟨k0, ks, h1, j, hj, h2, h3, h4⟩
  · rw [h2, if_pos rfl]
    unfold headBy
    rw [headGo_nil h1]
  · rw [h2, if_neg (by omega)]
    simp only [Int.toNat_natCast]
    have hkm : nameOf l[j] ∈ kids l zid := by rw [h3]; exact pick_kids h1
    have hch := (kids_chain hkm).1
    unfold headBy
    cases hl : l.length with
    | zero => omega
    | succ n =>
      rw [headGo_cons h1, ← h3]
      exact (ArrAt.head h hm l.length j hj (by omega) n (by rw [hch, chain_zid h.ht]; simp; omega)).symm
/-- ArrayHead. -/
theorem array_head (hf : FromP c l m r) (hm : RisesV m) {r0 : List Item} (h0 : FromP c l [] r0) (hl : r0.length = l.length) : topA r = headBy l (onC c l m) := by
  by_cases hok : FromOk c l
  · exact top_head hf hok hm
  · rw [h0.2 hok] at hl
    have : l = [] := List.eq_nil_of_length_eq_zero (by simpa using hl.symm)
    subst this
    rw [hf.2 hok]
    have e1 : topA [] = zid := by
      unfold topA
      split
      · rfl
      · rfl
    rw [e1]
    rfl
end
end Go.Proofs.Ytibmfpcbjopojaa
