/- HN: several texts in one. -/
import Derived.Test.YtdocgemfedohdaaHM
import Derived.Test.YtdocgemfedohdaaHL
import Derived.Test.YtdocgemfedohdaaHA
import Derived.Test.YtdocgemfedohdaaHC
import Derived.Deep.CutRange
import Derived.Deep.CutBlock
/-! A set of checkpoints in order: slices.Collect, slices.SortedFunc, ffg.told, walked. -/
namespace Go.Proofs.Ytdocgemfedohdaa
open Go.RowKit Go.Shelf Go.ChangeMaps Go.MapKept
set_option maxRecDepth 100000 in
set_option maxHeartbeats 1000000 in
theorem collectC_any (g : Nat) (lb : Array Value) (eg : ∀ args w, (callFunc g args).run Try.prog w = .ok (.enter g args) w) (S : List Chk → Prop) (N : Nat) (hN : N ≤ 100000) (w : World) (hseq : SeqGives Fence.wide 1 Try.prog g lb chkv S N w) :
    Calls Try.prog 83 #[.func (.func g) #[] lb] w fun e w' => ∃ (v : Value) (ss : List Chk), e = .returned v ∧ S ss ∧ Own w' w.heap.size 31 3 encChk v ss ∧ Below w.heap.size w w' := by
  have happ := (callsIn_wide (n := 2)).1 (appendSeq_in Fence.wide 2 trivial rfl (by decide) g lb trivial eg S N w.heap.size hN (.slice none 0 0) w (Nat.le_refl _) (Own.nil _ _ _ _ _) hseq)
  go_enter Try.func83, Try.ntmps83
  go_wp2_with (go_at_call 107; (with_reducible refine happ.mono ?_); clear happ; rintro e w1 ⟨v, ss, rfl, hS, ho, hb⟩)
  go_ret
  exact ⟨v, ss, rfl, hS, ho, hb⟩
set_option maxRecDepth 100000 in
set_option maxHeartbeats 1000000 in
theorem sortedFC_any (g : Nat) (lb : Array Value) (eg : ∀ args w, (callFunc g args).run Try.prog w = .ok (.enter g args) w) (S : List Chk → Prop) (N : Nat) (hN : N ≤ 100000) (w : World) (hseq : SeqGives Fence.wide 1 Try.prog g lb chkv S N w) (hS : ∀ ss, S ss → ss.length ≤ 100000) :
    Calls Try.prog 64 #[.func (.func g) #[] lb, .func (.func 66) #[] #[]] w fun e w' => ∃ (v : Value) (ss ll : List Chk), e = .returned v ∧ S ss ∧ ll.Perm ss ∧ ll.Pairwise (fun x y => ltC y x = false) ∧ Own w' w.heap.size 31 3 encChk v ll ∧ Below w.heap.size w w' := by
  have hcol := collectC_any g lb eg S N hN w hseq
  go_enter Try.func64, Try.ntmps64
  go_wp2_with (first
    | (go_at_call 83; (with_reducible refine hcol.mono ?_); clear hcol; rintro e w1 ⟨v, ss, rfl, hss, ho, hb⟩; have hso := csortf_any ss v w.heap.size w1 ho (by have := hS ss hss; omega); obtain ⟨A, c, rfl, _⟩ := ho.rd encChk_len; have hss' := Lib.hid hss; clear hss)
    | (go_at_call 84; (with_reducible refine hso.mono ?_); clear hso; rintro e w2 ⟨rfl, ll, ho2, hp, hps, hg⟩; have hpp := Lib.hid (And.intro hp hps); clear hp hps; have hB := below_step hb hb.size hg (fun q e => (ho.base q e).1)))
  go_ret
  exact ⟨_, ss, ll, rfl, hss'.out, hpp.out.1, hpp.out.2, ho2, hB⟩
set_option maxRecDepth 100000 in
set_option maxHeartbeats 1000000 in
theorem ctold_any (m : List (Chk × Bool)) (M : Nat) (w : World) (hM : MapIs chkv Value.bool w M m) (hl : m.length ≤ 100000) :
    Calls Try.prog 36 #[.map (some M)] w fun e w' => ∃ v, e = .returned v ∧ Own w' w.heap.size 31 3 encChk v (sortC (m.map (·.1))) ∧ Below w.heap.size w w' := by
  have hnd : (m.map (·.1)).Nodup := by obtain ⟨_, _, _, _, _, _, h⟩ := hM; exact h
  have hnd' := Lib.hid hnd
  clear hnd
  have hval := (callsIn_wide (n := 1)).1 (keys_in Fence.wide 1 trivial rfl (some M) w)
  have hBv : Below w.heap.size w (w.alloc (.cells #[.map (some M)] 57)) := (Below.refl _ w).alloc (Nat.le_refl _) _
  have xv : (w.alloc (.cells #[.map (some M)] 57)).heap[w.heap.size]? = some (.cells #[.map (some M)] 57 (0, 0)) := ha_at rfl
  have hMv := MapIs_below hM hBv
  have hseq : SeqGives Fence.wide 1 Try.prog 85 #[.pointer (some ⟨w.heap.size, 0, none⟩)] chkv (fun ys => ys.Perm (m.map (·.1))) m.length (w.alloc (.cells #[.map (some M)] 57)) := fun ll J V hV hJ hY h0 =>
    keys1_in Fence.wide 1 trivial rfl (by decide) ll w.heap.size M m J hY V hJ (blk_cell (bl_own hV xv) 0) (MapIs_below hMv hV) h0
  have hsf := sortedFC_any 85 #[.pointer (some ⟨w.heap.size, 0, none⟩)] (enters_of Try.func85 (by kernel_rfl) rfl) _ m.length hl _ hseq (fun ss h => by have := h.length_eq; simp at this; omega)
  clear hseq
  go_enter Try.func36, Try.ntmps36
  go_wp2_with (first
    | (go_at_call 65; (with_reducible refine hval.mono ?_); clear hval; rintro e w1 ⟨rfl, rfl⟩)
    | (go_at_call 64; (with_reducible refine hsf.mono ?_); clear hsf; rintro e w2 ⟨v, ss, ll, rfl, h1, h2, h3, ho, hb⟩; have hh := Lib.hid (And.intro h1 (And.intro h2 h3)); clear h1 h2 h3))
  go_ret
  obtain ⟨h1, h2, h3⟩ := hh.out
  have hp := h2.trans h1
  have he := sortC_eq (sortedC_of h3 (hp.nodup_iff.2 hnd'.out)) (fun x => hp.mem_iff)
  rw [he] at ho
  exact ⟨v, rfl, ho.mono hBv.size, below_call hBv hBv.size hb⟩
end Go.Proofs.Ytdocgemfedohdaa
/-! What is justified, walked: ffg.just. -/
namespace Go.Proofs.Ytdocgemfedohdaa
open Go.RowKit
def mapLen (w : World) (B : Nat) : Nat := match w.heap[B]? with | some (.map es _) => es.size | _ => 0
theorem mapLen_is {κ ν : Type} {ek : κ → Value} {ev : ν → Value} {w : World} {B : Nat} {m : List (κ × ν)} (h : MapIs ek ev w B m) : mapLen w B = m.length := by
  obtain ⟨es, clk, hb, hes, _⟩ := h
  unfold mapLen
  rw [hb]
  have := congrArg List.length hes
  simpa using this
/-- A set of checkpoints in which all is come to. -/
structure SetAt (o : List (Way × Bool)) (s : List (Chk × Bool)) : Prop where
  sound : ∀ x ∈ s.map (·.1), ComeTo (fun p => p ∈ o.map (·.1)) x
  zero : zchk ∈ s.map (·.1)
  yes : ∀ q ∈ s, q.2 = true
  nodup : (s.map (·.1)).Nodup
theorem SetAt.len {o : List (Way × Bool)} {s : List (Chk × Bool)} (h : SetAt o s) : s.length ≤ o.length + 1 := by
  have := nodup_len h.nodup (b := zchk :: o.map (·.1.tgt)) (fun x hx => by
    cases h.sound x hx with
    | zero => simp
    | @step p _ hp =>
      obtain ⟨q, hq, rfl⟩ := List.mem_map.1 hp
      exact List.mem_cons.2 (.inr (List.mem_map.2 ⟨q, hq, rfl⟩)))
  simpa using this
theorem set_zero (o : List (Way × Bool)) : SetAt o [(zchk, true)] :=
  ⟨fun x hx => by simp at hx; subst hx; exact .zero, by simp, fun q hq => by simp at hq; subst hq; rfl, by simp⟩
theorem set_put {o : List (Way × Bool)} {s : List (Chk × Bool)} (h : SetAt o s) {p : Way} {b : Bool} (hp : (p, b) ∈ o) (h1 : p.src ∈ s.map (·.1)) (h2 : p.tgt ∉ s.map (·.1)) : SetAt o (mput s p.tgt true) ∧ (mput s p.tgt true).length = s.length + 1 := by
  have hk : (mput s p.tgt true).map (·.1) = s.map (·.1) ++ [p.tgt] := by rw [mput_keys, if_neg h2]
  refine ⟨⟨fun x hx => ?_, by rw [hk]; simp only [List.mem_append]; exact .inl h.zero, fun q hq => ?_, mput_nodup h.nodup _ _⟩, ?_⟩
  · rw [hk, List.mem_append, List.mem_singleton] at hx
    rcases hx with hx | rfl
    · exact h.sound x hx
    · exact .step (h.sound _ h1) (List.mem_map.2 ⟨_, hp, rfl⟩)
  · rcases mem_mput hq with hq | rfl
    · exact h.yes q hq
    · rfl
  · have := congrArg List.length hk
    simpa using this
theorem set_get {o : List (Way × Bool)} {s : List (Chk × Bool)} (h : SetAt o s) (x : Chk) : ((mget s x).map Value.bool).getD (.bool false) = .bool (decide (x ∈ s.map (·.1))) := by
  cases hg : mget s x with
  | none => rw [decide_eq_false (mget_none.1 hg)]; rfl
  | some b =>
    have hm := mget_mem' hg
    have := h.yes _ hm
    simp only at this
    subst this
    rw [decide_eq_true (List.mem_map.2 ⟨_, hm, rfl⟩)]
    rfl
def ClosedW (s : List (Chk × Bool)) (p : Way) : Prop := p.src ∈ s.map (·.1) → p.tgt ∈ s.map (·.1)
/-- The set of what is come to. -/
def IsSet (J : Chk → Prop) (s : List (Chk × Bool)) : Prop := (∀ x, x ∈ s.map (·.1) ↔ J x) ∧ (∀ q ∈ s, q.2 = true) ∧ (s.map (·.1)).Nodup
theorem set_all {o : List (Way × Bool)} {s : List (Chk × Bool)} (h : SetAt o s) (hc : ∀ p ∈ o, ClosedW s p.1) : IsSet (ComeTo (fun p => p ∈ o.map (·.1))) s := by
  refine ⟨fun x => ⟨h.sound x, fun hx => ?_⟩, h.yes, h.nodup⟩
  induction hx with
  | zero => exact h.zero
  | @step p _ hp ih =>
    obtain ⟨q, hq, rfl⟩ := List.mem_map.1 hp
    exact hc q hq ih
/-- Is one in the set? -/
def inS (s : List (Chk × Bool)) (x : Chk) : Bool := decide (x ∈ s.map (·.1))
theorem look_set {w : World} {S : Nat} {o : List (Way × Bool)} {s : List (Chk × Bool)} (hS : MapIs chkv Value.bool w S s) (h : SetAt o s) (x : Chk) :
    (Instr.lookup 57 (.map (some S)) (.agg #[.int .i64 x.epoch, .int .u64 x.root.hi, .int .u64 x.root.lo]) false).run Try.prog w = .ok (.bool (inS s x)) w := by
  have := lookup_run KeyC Try.underlying57 (Try.zeroValue4 w) hS x false
  rw [set_get h x] at this
  exact this
def JustPost (o : List (Way × Bool)) (w : World) (e : Ending) (w' : World) : Prop :=
  ∃ (s : List (Chk × Bool)) (S : Nat), e = .returned (.map (some S)) ∧ w.heap.size ≤ S ∧ MapIs chkv Value.bool w' S s ∧ IsSet (ComeTo (fun p => p ∈ o.map (·.1))) s ∧ s.length ≤ o.length + 1 ∧ Below w.heap.size w w'
set_option maxRecDepth 100000 in
set_option maxHeartbeats 4000000 in
theorem just_any (o : List (Way × Bool)) (B : Nat) (w : World) (hM : MapIs wayv Value.bool w B o) :
    Calls Try.prog 37 #[.map (some B)] w (JustPost o w) := by
  have hmm := @run_makeMap Try.prog
  have hM0 : MapIs chkv Value.bool (w.alloc (.map #[] 0)) w.heap.size [] := MapIs_new _ _ (ha_at rfl)
  have hlb := MapIs_lt hM
  go_enter Try.func37, Try.ntmps37
  go_wp2_with fail
  refine wp_scope_straight ?_
  go_wp2_with (refine wp_update (ev := Value.bool) rfl (.inr rfl) KeyC Try.underlying57 rfl (x := zchk) rfl (v := true) rfl hM0 ?_; clear hM0; intro w1 hS hg hz)
  have hB0 : Below w.heap.size w (w.alloc (.map #[] 0)) := (Below.refl _ w).alloc (Nat.le_refl _) _
  have hB1 := below_step hB0 hB0.size hg (fun q e => by cases e; exact Nat.le_refl _)
  have hM1 := MapIs_grown (MapIs_below hM hB0) hg (fun e => by have e' := Option.some.inj e; omega)
  clear hz hg hB0 hM
  go_step3
  go_wp2_with fail
  go_loopw [4] (fun _ wr => ∃ s : List (Chk × Bool), MapIs chkv Value.bool wr w.heap.size s ∧ MapIs wayv Value.bool wr B o ∧ Hid (SetAt o s) ∧ Below w.heap.size w wr) (fun _ wr => o.length + 2 - mapLen wr w.heap.size)
  case atStart => exact ⟨[(zchk, true)], hS, hM1, Lib.hid (set_zero o), hB1⟩
  case round =>
    clear hS hM1 hB1
    obtain ⟨s, hS, hW, hset, hB⟩ := hrel
    rename World => wo
    have hmu := Lib.hid (mapLen_is hS)
    obtain ⟨r, hr⟩ : ∃ r, wo.heap.size = r := ⟨_, rfl⟩
    have hls := Lib.hid (show w.heap.size < r ∧ B < r by rw [← hr]; exact ⟨MapIs_lt hS, MapIs_lt hW⟩)
    go_wp2_with (at_range; refine wp_range rfl rfl Try.underlying59 rfl hW (r := r) hr ?_; intro w2 hR hBR hzR)
    go_frame
    have hS2 := MapIs_below hS hBR
    have hB2 := below_call hB hB.size hBR
    clear hS hW hB hr hzR hBR
    go_loopw [4] (fun _ wr => ∃ came : List Way, RIs wayv Value.bool wr B r o came ∧ MapIs chkv Value.bool wr w.heap.size s ∧ Hid (∀ p ∈ came, ClosedW s p) ∧ Below w.heap.size w wr) (fun _ wr => wr.rangeLeft B r)
    case atStart => exact ⟨[], hR, hS2, Lib.hid (fun _ h => by cases h), hB2⟩
    case round =>
      clear hR hS2 hB2
      obtain ⟨came, hR, hS, hcl, hB⟩ := hrel
      go_wp2_with (first
        | (at_next; refine wp_next rfl rfl rfl hR ?_ ?_; rotate_left; (intro p b w3 hcm hen; have hls3 := hls.out; have hS3 := MapIs_grown hS hcm.grown (fun e => by have e' := Option.some.inj e; omega); have hB3 := below_step hB hB.size hcm.grown (fun q e => by cases e; omega); obtain ⟨X, hX⟩ : ∃ X, w3.alloc (.cells #[.int .i64 p.src.epoch, .int .u64 p.src.root.hi, .int .u64 p.src.root.lo, .int .i64 p.tgt.epoch, .int .u64 p.tgt.root.hi, .int .u64 p.tgt.root.lo] 63) = X := ⟨_, rfl⟩; (have hBX : Below w3.heap.size w3 X := by subst hX; exact (Below.refl _ w3).alloc (Nat.le_refl _) _); (have x0 : X.heap[w3.heap.size]? = some (.cells #[.int .i64 p.src.epoch, .int .u64 p.src.root.hi, .int .u64 p.src.root.lo, .int .i64 p.tgt.epoch, .int .u64 p.tgt.root.hi, .int .u64 p.tgt.root.lo] 63 (0, 0)) := by subst hX; exact ha_at rfl); have hSX := MapIs_below hS3 hBX; have hrX := hcm.ris.below hBX; have hBx := below_call hB3 hB3.size hBX; have hk1 := look_set hSX hset.out p.src; have hk2 := look_set hSX hset.out p.tgt; obtain ⟨y0, y1, y2, y3, y4, y5⟩ := blk6 x0; have hmem := Lib.hid hcm.mem; have hless := Lib.hid hcm.less; have hrx := hrX.1; have hrl := Lib.hid hrX.2; clear hrX hcm; unfold wayv at hen); rotate_left)
        | (at_mapUpdate; refine wp_update (ev := Value.bool) rfl (.inl rfl) KeyC Try.underlying57 rfl (x := p.tgt) rfl (v := true) rfl hSX ?_; intro w5 hS5 hg5 hz5))
      · intro hall
        have hallB : ∀ p ∈ o, p.1 ∈ came := fun p hp => by
          obtain ⟨d, x⟩ := p
          cases x
          · exact (hall.out d).1 hp
          · exact (hall.out d).2 hp
        have hfin := Lib.hid (set_all hset.out (fun p hp => hcl.out p.1 (hallB p hp)))
        have hlen := Lib.hid hset.out.len
        clear hall hallB
        go_wp2
        rw [Exit.noGoto_ret]
        go_ret
        exact ⟨s, w.heap.size, rfl, Nat.le_refl _, hS, hfin.out, hlen.out, hB⟩
      · have h1 : inS s p.src = true := by assumption
        have h2 : (!inS s p.tgt) = true := by assumption
        have hsp := Lib.hid (set_put hset.out hmem.out (of_decide_eq_true h1) (of_decide_eq_false (show inS s p.tgt = false by simpa using h2)))
        have hsl := hset.out.len
        clear h1 h2
        (try dsimp only [Act.put])
        go_roundw
        case rel => exact ⟨mput s p.tgt true, hS5, MapIs_grown hrx.map hg5 (fun e => by have e' := Option.some.inj e; omega), Lib.hid hsp.out.1, below_step hBx hBx.size hg5 (fun q e => by cases e; exact Nat.le_refl _)⟩
        case measure => rw [mapLen_is hS5, hmu.out, hsp.out.2]; omega
      · have h1 : inS s p.src = true := by assumption
        have h2 : (!inS s p.tgt) = false := by assumption
        go_roundw
        case rel => exact ⟨p :: came, hrx, hSX, Lib.hid (fun q hq => by
          rcases List.mem_cons.1 hq with rfl | hq
          · exact fun _ => of_decide_eq_true (show inS s q.tgt = true by simpa using h2)
          · exact hcl.out q hq), hBx⟩
        case measure => rw [hrl.out]; exact hless.out
      · have h1 : ¬ inS s p.src = true := by assumption
        go_roundw
        case rel => exact ⟨p :: came, hrx, hSX, Lib.hid (fun q hq => by
          rcases List.mem_cons.1 hq with rfl | hq
          · exact fun h => absurd (show inS s q.src = true from decide_eq_true h) h1
          · exact hcl.out q hq), hBx⟩
        case measure => rw [hrl.out]; exact hless.out
end Go.Proofs.Ytdocgemfedohdaa
/-! What is final, walked: ffg.ends. -/
namespace Go.Proofs.Ytdocgemfedohdaa
open Go.RowKit
def undB (l : List Blk) (a b : ID) : Bool := decide (a ∈ chain l b)
/-- Does m stand between? -/
def hitB (l : List Blk) (p : Way) (m : Chk) : Bool := decide (m.epoch = p.src.epoch + 1) && (undB l p.src.root m.root && undB l m.root p.tgt.root)
def endsB (l : List Blk) (s : List (Chk × Bool)) (p : Way) : Bool := decide (p.tgt.epoch - p.src.epoch = 1) || (decide (p.tgt.epoch - p.src.epoch = 2) && s.any fun m => hitB l p m.1)
theorem endsB_iff {l : List Blk} {J : Chk → Prop} {s : List (Chk × Bool)} (hs : IsSet J s) (p : Way) : endsB l s p = true ↔ EndsW l J p := by
  unfold endsB EndsW hitB undB
  simp only [Bool.or_eq_true, Bool.and_eq_true, decide_eq_true_eq, List.any_eq_true]
  constructor
  · rintro (h | ⟨h, ⟨m, b⟩, hm, h1, h2, h3⟩)
    · exact .inl (by omega)
    · exact .inr ⟨by omega, m, (hs.1 m).1 (List.mem_map.2 ⟨_, hm, rfl⟩), h1, h2, h3⟩
  · rintro (h | ⟨h, m, hm, h1, h2, h3⟩)
    · exact .inl (by omega)
    · obtain ⟨q, hq, rfl⟩ := List.mem_map.1 ((hs.1 m).2 hm)
      exact .inr ⟨by omega, q, hq, h1, h2, h3⟩
theorem undB_any (l : List Blk) (low id : ID) (A : Option Addr) (c : Nat) (w : World) (hr : Rd 5 encBlk w A l) (hl : l.length ≤ 100000) :
    Calls Try.prog 23 #[.slice A l.length c, idv low, idv id] w fun e w' => e = .returned (.bool (undB l low id)) ∧ Below w.heap.size w w' := under_any l low id A c w hr hl
set_option maxRecDepth 100000 in
set_option maxHeartbeats 4000000 in
theorem ends_any (l : List Blk) (s : List (Chk × Bool)) (p : Way) (A2 : Option Addr) (k2 S : Nat) (w : World) (hr2 : Rd 5 encBlk w A2 l) (hl : l.length ≤ 100000) (hS : MapIs chkv Value.bool w S s) (ho : WayOk l p) :
    Calls Try.prog 41 #[.slice A2 l.length k2, .map (some S), wayv p] w fun e w' => e = .returned (.bool (endsB l s p)) ∧ Below w.heap.size w w' := by
  have hm2 := hr2.1
  have hund := fun low id V (hV : Below w.heap.size w V) => undB_any l low id A2 k2 V (hr2.below hV) hl
  obtain ⟨o1, o2, o3, _⟩ := ho
  obtain ⟨W, hW⟩ : ∃ W, w.alloc (.cells #[.int .i64 p.src.epoch, .int .u64 p.src.root.hi, .int .u64 p.src.root.lo, .int .i64 p.tgt.epoch, .int .u64 p.tgt.root.hi, .int .u64 p.tgt.root.lo] 63) = W := ⟨_, rfl⟩
  have hB : Below w.heap.size w W := by subst hW; exact (Below.refl _ w).alloc (Nat.le_refl _) _
  have b0 : W.heap[w.heap.size]? = some (.cells #[.int .i64 p.src.epoch, .int .u64 p.src.root.hi, .int .u64 p.src.root.lo, .int .i64 p.tgt.epoch, .int .u64 p.tgt.root.hi, .int .u64 p.tgt.root.lo] 63 (0, 0)) := by subst hW; exact ha_at rfl
  obtain ⟨c0, c1, c2, c3, c4, c5⟩ := blk6 b0
  have hSW := MapIs_below hS hB
  have hlS := MapIs_lt hS
  by_cases h1 : p.tgt.epoch - p.src.epoch = 1
  · have hres := Lib.hid (show endsB l s p = true by unfold endsB; rw [decide_eq_true h1]; rfl)
    have e1 : (p.tgt.epoch - p.src.epoch == 1) = true := by simpa using h1
    clear h1 hund
    unfold wayv
    go_enter Try.func41, Try.ntmps41
    go_wp2_with fail
    go_ret
    exact ⟨ret_bool hres.out.symm, hB⟩
  · have e1 : (p.tgt.epoch - p.src.epoch == 1) = false := by simpa using h1
    by_cases h2 : p.tgt.epoch - p.src.epoch = 2
    · have hres := Lib.hid (show endsB l s p = s.any (fun m => hitB l p m.1) by unfold endsB; rw [decide_eq_false h1, decide_eq_true h2]; simp)
      have e2 : (p.tgt.epoch - p.src.epoch == 2) = true := by simpa using h2
      clear h1 h2
      unfold wayv idv at *
      obtain ⟨r, hr⟩ : ∃ r, W.heap.size = r := ⟨_, rfl⟩
      have hls := Lib.hid (show w.heap.size < r ∧ S < r by rw [← hr]; exact ⟨lt_of_block b0, MapIs_lt hSW⟩)
      go_enter Try.func41, Try.ntmps41
      go_wp2_with (at_range; refine wp_range rfl rfl Try.underlying57 rfl hSW (r := r) hr ?_; intro w2 hR hBR hzR)
      go_frame
      have hSR := MapIs_below hSW hBR
      have bR := bl_own hBR b0
      have hB2 := below_call hB hB.size hBR
      clear hBR hr hzR c0 c1 c2 c3 c4 c5 hSW b0 hB hW hlS hS
      go_loopw [7] (fun _ wr => ∃ came : List Chk, RIs chkv Value.bool wr S r s came ∧ Hid (∀ m ∈ came, hitB l p m = false) ∧ Below w.heap.size w wr ∧ wr.heap[w.heap.size]? = some (.cells #[.int .i64 p.src.epoch, .int .u64 p.src.root.hi, .int .u64 p.src.root.lo, .int .i64 p.tgt.epoch, .int .u64 p.tgt.root.hi, .int .u64 p.tgt.root.lo] 63 (0, 0))) (fun _ wr => wr.rangeLeft S r)
      case atStart => exact ⟨[], hR, Lib.hid (fun _ h => by cases h), hB2, bR⟩
      case round =>
        clear hR hB2 bR hSR
        obtain ⟨came, hR, hno, hB, b1⟩ := hrel
        go_wp2_with (first
          | (at_next; refine wp_next rfl rfl rfl hR ?_ ?_; rotate_left; (intro m b w3 hcm hen; have hls3 := hls.out; have hB3 := below_step hB hB.size hcm.grown (fun q e => by cases e; omega); have b3 := grown_own hcm.grown b1 (fun e => by have e' := Option.some.inj e; omega); obtain ⟨X, hX⟩ : ∃ X, w3.alloc (.cells #[.int .i64 m.epoch, .int .u64 m.root.hi, .int .u64 m.root.lo] 31) = X := ⟨_, rfl⟩; (have hBX : Below w3.heap.size w3 X := by subst hX; exact (Below.refl _ w3).alloc (Nat.le_refl _) _); (have x0 : X.heap[w3.heap.size]? = some (.cells #[.int .i64 m.epoch, .int .u64 m.root.hi, .int .u64 m.root.lo] 31 (0, 0)) := by subst hX; exact ha_at rfl); have hrX := hcm.ris.below hBX; have hBx := below_call hB3 hB3.size hBX; have bX := bl_own hBX b3; obtain ⟨y0, y1, y2⟩ := blk3 x0; obtain ⟨t0, t1, t2, t3, t4, t5⟩ := blk6 bX; have hmem := Lib.hid hcm.mem; have hless := Lib.hid hcm.less; have hrx := hrX.1; have hrl := Lib.hid hrX.2; have hSX := hrx.map; clear hrX hcm; unfold chkv at hen); rotate_left)
          | (go_at_call 23; (with_reducible refine (hund p.src.root m.root _ hBx).mono ?_); rintro e w4 ⟨rfl, hb4⟩; have hB4 := below_call hBx hBx.size hb4; have r4 := hrx.below hb4; have s4 := MapIs_below hSX hb4; obtain ⟨z0, z1, z2⟩ := blk3 (bl_own hb4 x0); have b4 := bl_own hb4 bX; obtain ⟨v0, v1, v2, v3, v4, v5⟩ := blk6 b4)
          | (go_at_call 23; (with_reducible refine (hund m.root p.tgt.root _ hB4).mono ?_); rintro e w5 ⟨rfl, hb5⟩; have hB5 := below_call hB4 hB4.size hb5; have r5 := r4.1.below hb5; have s5 := MapIs_below s4 hb5; have b5 := bl_own hb5 b4))
        · intro hall
          have hallB : ∀ q ∈ s, hitB l p q.1 = false := fun q hq => hno.out _ (by
            obtain ⟨d, x⟩ := q
            cases x
            · exact (hall.out d).1 hq
            · exact (hall.out d).2 hq)
          have hres2 := Lib.hid (show endsB l s p = false by rw [hres.out, List.any_eq_false]; exact fun q hq => by rw [hallB q hq]; simp)
          clear hall hallB
          go_wp2
          go_ret
          exact ⟨ret_bool hres2.out.symm, hB⟩
        · have g1 : m.epoch = p.src.epoch + 1 := by assumption
          have g2 : undB l p.src.root m.root = true := by assumption
          have g3 : undB l m.root p.tgt.root = true := by assumption
          have hres2 := Lib.hid (show endsB l s p = true by rw [hres.out, List.any_eq_true]; exact ⟨_, hmem.out, by unfold hitB; rw [decide_eq_true g1, g2, g3]; rfl⟩)
          clear g1 g2 g3
          go_ret
          exact ⟨ret_bool hres2.out.symm, hB5⟩
        · have g3 : undB l m.root p.tgt.root = false := by assumption
          have hno2 : hitB l p m = false := by unfold hitB; rw [g3]; simp
          clear g3
          go_roundw
          case rel => exact ⟨m :: came, r5.1, Lib.hid (fun q hq => by
            rcases List.mem_cons.1 hq with rfl | hq
            · exact hno2
            · exact hno.out q hq), hB5, b5⟩
          case measure => rw [r5.2, r4.2, hrl.out]; exact hless.out
        · have g2 : ¬ undB l p.src.root m.root = true := by assumption
          have hno2 : hitB l p m = false := by unfold hitB; rw [Bool.not_eq_true] at g2; rw [g2]; simp
          clear g2
          go_roundw
          case rel => exact ⟨m :: came, r4.1, Lib.hid (fun q hq => by
            rcases List.mem_cons.1 hq with rfl | hq
            · exact hno2
            · exact hno.out q hq), hB4, b4⟩
          case measure => rw [r4.2, hrl.out]; exact hless.out
        · have g1 : ¬ m.epoch = p.src.epoch + 1 := by assumption
          have hno2 : hitB l p m = false := by unfold hitB; rw [decide_eq_false g1]; rfl
          clear g1
          go_roundw
          case rel => exact ⟨m :: came, hrx, Lib.hid (fun q hq => by
            rcases List.mem_cons.1 hq with rfl | hq
            · exact hno2
            · exact hno.out q hq), hBx, bX⟩
          case measure => rw [hrl.out]; exact hless.out
    · have hres := Lib.hid (show endsB l s p = false by unfold endsB; rw [decide_eq_false h1, decide_eq_false h2]; rfl)
      have e2 : (p.tgt.epoch - p.src.epoch == 2) = false := by simpa using h2
      clear h1 h2 hund
      unfold wayv
      go_enter Try.func41, Try.ntmps41
      go_wp2_with fail
      go_ret
      exact ⟨ret_bool hres.out.symm, hB⟩
end Go.Proofs.Ytdocgemfedohdaa
/-! ffg.Just and ffg.Strong, walked. -/
namespace Go.Proofs.Ytdocgemfedohdaa
open Go.RowKit
theorem comeTo_strong {c : Cfg} {l : List Blk} {v : List Lnk} {o : List (Way × Bool)} (h : IsStrong c l v o) (x : Chk) : ComeTo (fun p => p ∈ o.map (·.1)) x ↔ JustC c l v x :=
  ⟨fun hx => reach_mono (fun p hp => (h.1 p).1 hp) hx, fun hx => reach_mono (fun p hp => (h.1 p).2 hp) hx⟩
theorem strong_nodup {w : World} {B : Nat} {o : List (Way × Bool)} (hM : MapIs wayv Value.bool w B o) : (o.map (·.1)).Nodup := by obtain ⟨_, _, _, _, _, _, h⟩ := hM; exact h
theorem strong_len {c : Cfg} {l : List Blk} {v : List Lnk} {o : List (Way × Bool)} (h : IsStrong c l v o) (hn : (o.map (·.1)).Nodup) : o.length ≤ v.length := by
  have := nodup_len hn (b := v.map wayOf) (fun p hp => by
    obtain ⟨x, h1, _, rfl⟩ := strong_link ((h.1 p).1 hp)
    exact List.mem_map.2 ⟨x, h1, rfl⟩)
  simpa using this
theorem justL_sort {c : Cfg} {l : List Blk} {v : List Lnk} {o : List (Way × Bool)} {s : List (Chk × Bool)} (h : MayC c ∧ Tree l) (ho : IsStrong c l v o) (hs : IsSet (ComeTo (fun p => p ∈ o.map (·.1))) s) : sortC (s.map (·.1)) = justL c l v :=
  justL_eq h (sorted_sortC _) fun x => mem_sortC.trans ((hs.1 x).trans (comeTo_strong ho x))
set_option maxRecDepth 100000 in
set_option maxHeartbeats 2000000 in
theorem fjust_any (c : Cfg) (l : List Blk) (v : List Lnk) (A A2 A3 : Option Addr) (k k2 k3 : Nat) (w : World) (hr : Rd 1 encI w A c.W) (hr2 : Rd 5 encBlk w A2 l) (hl : l.length ≤ 100000) (hr3 : Rd 7 encLnk w A3 v) (hv : v.length ≤ 90000) :
    Calls Try.prog 16 #[cfgv A k c, .slice A2 l.length k2, .slice A3 v.length k3] w fun e w' => ∃ u, e = .returned u ∧ Own w' w.heap.size 31 3 encChk u (justL c l v) ∧ Below w.heap.size w w' := by
  have hm2 := hr2.1
  have hm3 := hr3.1
  have hmay := fun V (hV : Below w.heap.size w V) => dmay_any c A k V (hr.below hV)
  have htm := fun V (hV : Below w.heap.size w V) => may_any l A2 k2 V (hr2.below hV)
  have hst := fun V (hV : Below w.heap.size w V) => strong_any c l v A A2 A3 k k2 k3 V (hr.below hV) (hr2.below hV) hl (hr3.below hV) (by omega)
  obtain ⟨W, hW⟩ : ∃ W, w.alloc (.cells #[.slice A c.W.length k, .int .u64 c.seed, .int .i64 c.epoch, .int .i64 c.num, .int .i64 c.den] 25) = W := ⟨_, rfl⟩
  have hB : Below w.heap.size w W := by subst hW; exact (Below.refl _ w).alloc (Nat.le_refl _) _
  have b0 : W.heap[w.heap.size]? = some (.cells #[.slice A c.W.length k, .int .u64 c.seed, .int .i64 c.epoch, .int .i64 c.num, .int .i64 c.den] 25 (0, 0)) := by subst hW; exact ha_at rfl
  obtain ⟨c0, c1, c2, c3, c4⟩ := blk5 b0
  by_cases hmc : MayC c
  · rw [decide_eq_true hmc] at hmay
    by_cases ht : Tree l
    · have htb : mayB l = true := by simp [mayB, ht]
      rw [htb] at htm
      have hres := Lib.hid (fun o s (ho : IsStrong c l v o) hs => justL_sort (s := s) ⟨hmc, ht⟩ ho hs)
      clear hmc ht htb
      unfold cfgv at *
      go_enter Try.func16, Try.ntmps16
      go_wp2_with (first
        | (go_at_call 34; (with_reducible refine (hmay _ hB).mono ?_); clear hmay; rintro e w1 ⟨rfl, hb1⟩; have hB1 := below_call hB hB.size hb1; have b1 := bl_own hb1 b0)
        | (go_at_call 35; (with_reducible refine (htm _ hB1).mono ?_); clear htm; rintro e w2 ⟨rfl, hb2⟩; have hB2 := below_call hB1 hB1.size hb2; obtain ⟨d0, d1, d2, d3, d4⟩ := blk5 (bl_own hb2 b1))
        | (go_at_call 38; (with_reducible refine (hst _ hB2).mono ?_); clear hst; rintro e w3 ⟨o, B, rfl, hBl, hM, hso, hb3⟩; have hB3 := below_call hB2 hB2.size hb3; have hso' := Lib.hid hso; have hol := strong_len hso (strong_nodup hM); clear hso)
        | (go_at_call 37; (with_reducible refine (just_any _ _ _ hM).mono ?_); rintro e w4 ⟨s, S, rfl, hSl, hS, hss, hsl, hb4⟩; have hB4 := below_call hB3 hB3.size hb4; have hss' := Lib.hid hss; clear hss)
        | (go_at_call 36; (with_reducible refine (ctold_any _ _ _ hS (by omega)).mono ?_); rintro e w5 ⟨u, rfl, ho5, hb5⟩; have hB5 := below_call hB4 hB4.size hb5))
      go_ret
      exact ⟨u, rfl, by rw [← hres.out o s hso'.out hss'.out]; exact ho5.mono hB4.size, hB5⟩
    · have htb : mayB l = false := by simp [mayB, ht]
      rw [htb] at htm
      have hres := Lib.hid (justL_no (fun h : MayC c ∧ Tree l => ht h.2) v)
      clear hmc ht htb hst
      unfold cfgv at *
      go_enter Try.func16, Try.ntmps16
      go_wp2_with (first
        | (go_at_call 34; (with_reducible refine (hmay _ hB).mono ?_); clear hmay; rintro e w1 ⟨rfl, hb1⟩; have hB1 := below_call hB hB.size hb1; have b1 := bl_own hb1 b0)
        | (go_at_call 35; (with_reducible refine (htm _ hB1).mono ?_); clear htm; rintro e w2 ⟨rfl, hb2⟩; have hB2 := below_call hB1 hB1.size hb2))
      go_ret
      exact ⟨_, rfl, by rw [hres.out]; exact Own.nil _ _ _ _ _, hB2⟩
  · rw [decide_eq_false hmc] at hmay
    have hres := Lib.hid (justL_no (fun h : MayC c ∧ Tree l => hmc h.1) v)
    clear hmc hst htm
    unfold cfgv at *
    go_enter Try.func16, Try.ntmps16
    go_wp2_with (go_at_call 34; (with_reducible refine (hmay _ hB).mono ?_); clear hmay; rintro e w1 ⟨rfl, hb1⟩; have hB1 := below_call hB hB.size hb1)
    go_ret
    exact ⟨_, rfl, by rw [hres.out]; exact Own.nil _ _ _ _ _, hB1⟩
/-- Is a way in the map? -/
def inW (o : List (Way × Bool)) (p : Way) : Bool := decide (p ∈ o.map (·.1))
theorem look_way {c : Cfg} {l : List Blk} {v : List Lnk} {w : World} {B : Nat} {o : List (Way × Bool)} (hM : MapIs wayv Value.bool w B o) (h : IsStrong c l v o) (p : Way) :
    (Instr.lookup 59 (.map (some B)) (.agg #[.int .i64 p.src.epoch, .int .u64 p.src.root.hi, .int .u64 p.src.root.lo, .int .i64 p.tgt.epoch, .int .u64 p.tgt.root.hi, .int .u64 p.tgt.root.lo]) false).run Try.prog w = .ok (.bool (decide (StrongW c l v p))) w := by
  have := lookup_run KeyW Try.underlying59 (Try.zeroValue4 w) hM p false
  have hg : ((mget o p).map Value.bool).getD (.bool false) = .bool (decide (StrongW c l v p)) := by
    cases hg : mget o p with
    | none => rw [decide_eq_false (fun hs => mget_none.1 hg ((h.1 p).2 hs))]; rfl
    | some b =>
      have hm := mget_mem' hg
      have hb := h.2 _ hm
      simp only at hb
      subst hb
      rw [decide_eq_true ((h.1 p).1 (List.mem_map.2 ⟨_, hm, rfl⟩))]
      rfl
  rw [hg] at this
  exact this
set_option maxRecDepth 100000 in
set_option maxHeartbeats 2000000 in
theorem fstrong_any (c : Cfg) (l : List Blk) (v : List Lnk) (x y : Chk) (A A2 A3 : Option Addr) (k k2 k3 : Nat) (w : World) (hr : Rd 1 encI w A c.W) (hr2 : Rd 5 encBlk w A2 l) (hl : l.length ≤ 100000) (hr3 : Rd 7 encLnk w A3 v) (hv : v.length ≤ 90000) :
    Calls Try.prog 21 #[cfgv A k c, .slice A2 l.length k2, .slice A3 v.length k3, chkv x, chkv y] w fun e w' => e = .returned (.bool (decide (StrongW c l v ⟨x, y⟩))) ∧ Below w.heap.size w w' := by
  have hm2 := hr2.1
  have hm3 := hr3.1
  have hst := fun V (hV : Below w.heap.size w V) => strong_any c l v A A2 A3 k k2 k3 V (hr.below hV) (hr2.below hV) hl (hr3.below hV) (by omega)
  unfold cfgv chkv at *
  obtain ⟨W, hW⟩ : ∃ W, ((w.alloc (.cells #[.slice A c.W.length k, .int .u64 c.seed, .int .i64 c.epoch, .int .i64 c.num, .int .i64 c.den] 25)).alloc (.cells #[.int .i64 x.epoch, .int .u64 x.root.hi, .int .u64 x.root.lo] 31)).alloc (.cells #[.int .i64 y.epoch, .int .u64 y.root.hi, .int .u64 y.root.lo] 31) = W := ⟨_, rfl⟩
  have hB : Below w.heap.size w W := by subst hW; exact (((Below.refl _ w).alloc (Nat.le_refl _) _).alloc (by simp) _).alloc (by simp; omega) _
  have b0 : W.heap[w.heap.size]? = some (.cells #[.slice A c.W.length k, .int .u64 c.seed, .int .i64 c.epoch, .int .i64 c.num, .int .i64 c.den] 25 (0, 0)) := by subst hW; exact ha_lt (ha_lt (ha_at rfl))
  have b1 : W.heap[w.heap.size + 1]? = some (.cells #[.int .i64 x.epoch, .int .u64 x.root.hi, .int .u64 x.root.lo] 31 (0, 0)) := by subst hW; exact ha_lt (ha_at (by simp))
  have b2 : W.heap[w.heap.size + 1 + 1]? = some (.cells #[.int .i64 y.epoch, .int .u64 y.root.hi, .int .u64 y.root.lo] 31 (0, 0)) := by subst hW; exact ha_at (by simp)
  obtain ⟨c0, c1, c2, c3, c4⟩ := blk5 b0
  obtain ⟨d0, d1, d2⟩ := blk3 b1
  obtain ⟨f0, f1, f2⟩ := blk3 b2
  go_enter Try.func21, Try.ntmps21
  go_wp2_with fail
  go_region_held3 (fun W' => (W'.cell? ⟨w.heap.size, 0, none⟩ = some (.slice A c.W.length k) ∧ W'.cell? ⟨w.heap.size, 1, none⟩ = some (.int .u64 c.seed) ∧ W'.cell? ⟨w.heap.size, 2, none⟩ = some (.int .i64 c.epoch) ∧ W'.cell? ⟨w.heap.size, 3, none⟩ = some (.int .i64 c.num) ∧ W'.cell? ⟨w.heap.size, 4, none⟩ = some (.int .i64 c.den)) ∧ (W'.cell? ⟨w.heap.size + 1, 0, none⟩ = some (.int .i64 x.epoch) ∧ W'.cell? ⟨w.heap.size + 1, 1, none⟩ = some (.int .u64 x.root.hi) ∧ W'.cell? ⟨w.heap.size + 1, 2, none⟩ = some (.int .u64 x.root.lo)) ∧ (W'.cell? ⟨w.heap.size + 1 + 1, 0, none⟩ = some (.int .i64 y.epoch) ∧ W'.cell? ⟨w.heap.size + 1 + 1, 1, none⟩ = some (.int .u64 y.root.hi) ∧ W'.cell? ⟨w.heap.size + 1 + 1, 2, none⟩ = some (.int .u64 y.root.lo)))
    (first | exact ⟨blk5 b0, blk3 b1, blk3 b2⟩ | exact ⟨blk5 x0, blk3 x1, blk3 x2⟩)
    ((go_at_call 38; (with_reducible refine (hst _ hB.drew).mono ?_); clear hst; rintro e w3 ⟨o, B, rfl, hBl, hM, hso, hb3⟩; have hlk := look_way hM hso ⟨x, y⟩; have x0 := bl_own hb3 b0; have x1 := bl_own hb3 b1; have x2 := bl_own hb3 b2; clear hso))
  go_wp2
  go_ret
  exact ⟨rfl, below_call hB.drew hB.size hb3⟩
end Go.Proofs.Ytdocgemfedohdaa
/-! marigoldlaw11.Few, walked. -/
namespace Go.Proofs.Ytdocgemfedohdaa
open Go.RowKit
set_option maxRecDepth 100000 in
set_option maxHeartbeats 1000000 in
theorem few11_any (c : Cfg) (nl nv : Nat) (A A2 A3 : Option Addr) (k k2 k3 : Nat) (w : World) (h1 : c.W.length ≤ 9223372036854775807) (h2 : nl ≤ 9223372036854775807) (h3 : nv ≤ 9223372036854775807) :
    Calls Try.prog 12 #[cfgv A k c, .slice A2 nl k2, .slice A3 nv k3] w fun e w' => e = .returned (.bool (decide (c.W.length ≤ 40 ∧ nl ≤ 20 ∧ nv ≤ 40))) ∧ Below w.heap.size w w' := by
  unfold cfgv
  have hW : ∃ W, w.alloc (.cells #[.slice A c.W.length k, .int .u64 c.seed, .int .i64 c.epoch, .int .i64 c.num, .int .i64 c.den] 25) = W := ⟨_, rfl⟩
  obtain ⟨W, hW⟩ := hW
  have hB : Below w.heap.size w W := by subst hW; exact (Below.refl _ w).alloc (Nat.le_refl _) _
  have hb : W.heap[w.heap.size]? = some (.cells #[.slice A c.W.length k, .int .u64 c.seed, .int .i64 c.epoch, .int .i64 c.num, .int .i64 c.den] 25 (0, 0)) := by subst hW; exact ha_at rfl
  have c0 := blk_cell hb 0
  obtain ⟨n, hn⟩ : ∃ n, c.W.length = n := ⟨_, rfl⟩
  rw [hn] at c0 h1 ⊢
  rw [hn] at hW
  clear hn hb
  go_enter Try.func12, Try.ntmps12
  go_wp2_with fail
  all_goals
    go_ret
    refine ⟨ret_bool ?_, hB⟩
    rw [Bool.eq_iff_iff]
    simp only [Bool.and_eq_true, decide_eq_true_eq, Bool.false_eq_true, false_iff]
    omega
end Go.Proofs.Ytdocgemfedohdaa
/-! ffg.Final, walked. -/
namespace Go.Proofs.Ytdocgemfedohdaa
open Go.RowKit
theorem look_iset {w : World} {S : Nat} {J : Chk → Prop} {s : List (Chk × Bool)} (hS : MapIs chkv Value.bool w S s) (h : IsSet J s) (x : Chk) :
    (Instr.lookup 57 (.map (some S)) (.agg #[.int .i64 x.epoch, .int .u64 x.root.hi, .int .u64 x.root.lo]) false).run Try.prog w = .ok (.bool (inS s x)) w := by
  have := lookup_run KeyC Try.underlying57 (Try.zeroValue4 w) hS x false
  have hg : ((mget s x).map Value.bool).getD (.bool false) = .bool (inS s x) := by
    unfold inS
    cases hg : mget s x with
    | none => rw [decide_eq_false (mget_none.1 hg)]; rfl
    | some b =>
      have hm := mget_mem' hg
      have hb := h.2.1 _ hm
      simp only at hb
      subst hb
      rw [decide_eq_true (List.mem_map.2 ⟨_, hm, rfl⟩)]
      rfl
  rw [hg] at this
  exact this
/-- Which of those that came make one final. -/
structure FinAt (l : List Blk) (s : List (Chk × Bool)) (o : List (Way × Bool)) (came : List Way) (f : List (Chk × Bool)) : Prop where
  mem : ∀ x, x ∈ f.map (·.1) ↔ x = zchk ∨ ∃ p ∈ came, p.src = x ∧ inS s p.src = true ∧ endsB l s p = true
  sub : ∀ p ∈ came, p ∈ o.map (·.1)
theorem fin_zero (l : List Blk) (s : List (Chk × Bool)) (o : List (Way × Bool)) : FinAt l s o [] [(zchk, true)] :=
  ⟨fun x => by simp, fun _ h => by cases h⟩
theorem fin_put {l : List Blk} {s : List (Chk × Bool)} {o : List (Way × Bool)} {came : List Way} {f : List (Chk × Bool)} (h : FinAt l s o came f) {p : Way} {b : Bool} (hp : (p, b) ∈ o) (h1 : inS s p.src = true) (h2 : endsB l s p = true) : FinAt l s o (p :: came) (mput f p.src true) := by
  refine ⟨fun x => ?_, fun q hq => ?_⟩
  · rw [mput_keys]
    have e : x ∈ (if p.src ∈ f.map (·.1) then f.map (·.1) else f.map (·.1) ++ [p.src]) ↔ x ∈ f.map (·.1) ∨ x = p.src := by
      split
      · rename_i hm
        exact ⟨.inl, fun h => h.elim id (fun e => e ▸ hm)⟩
      · simp only [List.mem_append, List.mem_singleton]
    rw [e, h.mem]
    constructor
    · rintro ((h3 | ⟨q, h3, h4⟩) | rfl)
      · exact .inl h3
      · exact .inr ⟨q, by simp [h3], h4⟩
      · exact .inr ⟨p, by simp, rfl, h1, h2⟩
    · rintro (h3 | ⟨q, h3, h4, h5⟩)
      · exact .inl (.inl h3)
      · rcases List.mem_cons.1 h3 with rfl | h3
        · exact .inr h4.symm
        · exact .inl (.inr ⟨q, h3, h4, h5⟩)
  · rcases List.mem_cons.1 hq with rfl | hq
    · exact List.mem_map.2 ⟨_, hp, rfl⟩
    · exact h.sub q hq
theorem fin_skip {l : List Blk} {s : List (Chk × Bool)} {o : List (Way × Bool)} {came : List Way} {f : List (Chk × Bool)} (h : FinAt l s o came f) {p : Way} {b : Bool} (hp : (p, b) ∈ o) (h1 : ¬ (inS s p.src = true ∧ endsB l s p = true)) : FinAt l s o (p :: came) f := by
  refine ⟨fun x => ?_, fun q hq => ?_⟩
  · rw [h.mem]
    constructor
    · rintro (h3 | ⟨q, h3, h4⟩)
      · exact .inl h3
      · exact .inr ⟨q, by simp [h3], h4⟩
    · rintro (h3 | ⟨q, h3, h4, h5⟩)
      · exact .inl h3
      · rcases List.mem_cons.1 h3 with rfl | h3
        · exact absurd h5 h1
        · exact .inr ⟨q, h3, h4, h5⟩
  · rcases List.mem_cons.1 hq with rfl | hq
    · exact List.mem_map.2 ⟨_, hp, rfl⟩
    · exact h.sub q hq
theorem fin_len {l : List Blk} {s : List (Chk × Bool)} {o : List (Way × Bool)} {came : List Way} {f : List (Chk × Bool)} (h : FinAt l s o came f) (hn : (f.map (·.1)).Nodup) : f.length ≤ o.length + 1 := by
  have := nodup_len hn (b := zchk :: o.map (·.1.src)) (fun x hx => by
    rcases (h.mem x).1 hx with rfl | ⟨p, hp, rfl, _⟩
    · simp
    · obtain ⟨q, hq, rfl⟩ := List.mem_map.1 (h.sub p hp)
      exact List.mem_cons.2 (.inr (List.mem_map.2 ⟨q, hq, rfl⟩)))
  simpa using this
theorem fin_all {c : Cfg} {l : List Blk} {v : List Lnk} {s : List (Chk × Bool)} {o : List (Way × Bool)} {came : List Way} {f : List (Chk × Bool)} (hmt : MayC c ∧ Tree l) (ho : IsStrong c l v o) (hs : IsSet (ComeTo (fun p => p ∈ o.map (·.1))) s) (h : FinAt l s o came f)
    (hall : ∀ q ∈ o, q.1 ∈ came) : sortC (f.map (·.1)) = finalL c l v := by
  have hs' : IsSet (JustC c l v) s := ⟨fun x => (hs.1 x).trans (comeTo_strong ho x), hs.2⟩
  refine finalL_eq hmt (sorted_sortC _) fun x => mem_sortC.trans ((h.mem x).trans (or_congr Iff.rfl ⟨?_, ?_⟩))
  · rintro ⟨p, hp, rfl, h1, h2⟩
    exact ⟨(hs'.1 _).1 (of_decide_eq_true h1), p.tgt, (ho.1 p).1 (h.sub p hp), (endsB_iff hs' p).1 h2⟩
  · rintro ⟨h1, t, h2, h3⟩
    obtain ⟨q, hq, hqe⟩ := List.mem_map.1 ((ho.1 _).2 h2)
    refine ⟨⟨x, t⟩, ?_, rfl, decide_eq_true ((hs'.1 x).2 h1), (endsB_iff hs' _).2 h3⟩
    have := hall q hq
    rw [hqe] at this
    exact this
/-- The first checkpoint, put into a set. -/
theorem put_zero {w : World} {M : Nat} (h : MapIs chkv Value.bool w M []) :
    ∃ w', (Instr.mapUpdate 57 (.map (some M)) (.agg #[.int .i64 0, .int .u64 0, .int .u64 0]) (.bool true)).run Try.prog w = .ok () w' ∧ MapIs chkv Value.bool w' M [(zchk, true)] ∧ w.grownBy w' (some M) ∧ w'.heap.size = w.heap.size := by
  obtain ⟨w', h1, h2, h3, h4⟩ := update_run (ev := Value.bool) KeyC Try.underlying57 h zchk true
  exact ⟨w', h1, h2, h3, h4⟩
set_option maxRecDepth 100000 in
set_option maxHeartbeats 4000000 in
theorem ffinal_any (c : Cfg) (l : List Blk) (v : List Lnk) (A A2 A3 : Option Addr) (k k2 k3 : Nat) (w : World) (hr : Rd 1 encI w A c.W) (hr2 : Rd 5 encBlk w A2 l) (hl : l.length ≤ 100000) (hr3 : Rd 7 encLnk w A3 v) (hv : v.length ≤ 90000) :
    Calls Try.prog 18 #[cfgv A k c, .slice A2 l.length k2, .slice A3 v.length k3] w fun e w' => ∃ u, e = .returned u ∧ Own w' w.heap.size 31 3 encChk u (finalL c l v) ∧ Below w.heap.size w w' := by
  have hm2 := hr2.1
  have hm3 := hr3.1
  have hmay := fun V (hV : Below w.heap.size w V) => dmay_any c A k V (hr.below hV)
  have htm := fun V (hV : Below w.heap.size w V) => may_any l A2 k2 V (hr2.below hV)
  have hst := fun V (hV : Below w.heap.size w V) => strong_any c l v A A2 A3 k k2 k3 V (hr.below hV) (hr2.below hV) hl (hr3.below hV) (by omega)
  obtain ⟨W, hW⟩ : ∃ W, w.alloc (.cells #[.slice A c.W.length k, .int .u64 c.seed, .int .i64 c.epoch, .int .i64 c.num, .int .i64 c.den] 25) = W := ⟨_, rfl⟩
  have hB : Below w.heap.size w W := by subst hW; exact (Below.refl _ w).alloc (Nat.le_refl _) _
  have b0 : W.heap[w.heap.size]? = some (.cells #[.slice A c.W.length k, .int .u64 c.seed, .int .i64 c.epoch, .int .i64 c.num, .int .i64 c.den] 25 (0, 0)) := by subst hW; exact ha_at rfl
  obtain ⟨c0, c1, c2, c3, c4⟩ := blk5 b0
  by_cases hmc : MayC c
  · rw [decide_eq_true hmc] at hmay
    by_cases ht : Tree l
    · have htb : mayB l = true := by simp [mayB, ht]
      rw [htb] at htm
      have hmt := Lib.hid (And.intro hmc ht)
      clear hmc ht htb
      unfold cfgv at *
      go_enter Try.func18, Try.ntmps18
      go_wp2_with (first
        | (go_at_call 34; (with_reducible refine (hmay _ hB).mono ?_); clear hmay; rintro e w1 ⟨rfl, hb1⟩; have hB1 := below_call hB hB.size hb1; have b1 := bl_own hb1 b0)
        | (go_at_call 35; (with_reducible refine (htm _ hB1).mono ?_); clear htm; rintro e w2 ⟨rfl, hb2⟩; have hB2 := below_call hB1 hB1.size hb2; obtain ⟨d0, d1, d2, d3, d4⟩ := blk5 (bl_own hb2 b1))
        | (go_at_call 38; (with_reducible refine (hst _ hB2).mono ?_); clear hst; rintro e w3 ⟨o, B, rfl, hBl, hM, hso, hb3⟩; have hB3 := below_call hB2 hB2.size hb3; have hso' := Lib.hid hso; have hol := strong_len hso (strong_nodup hM); clear hso))
      clear hb1 hb2 hb3 hB hB1 hB2 hW b0 b1 c0 c1 c2 c3 c4 d0 d1 d2 d3 d4 hBl
      go_cut [8, 9] from 23 to 27 (fun v8 v9 wx => ∃ (s : List (Chk × Bool)) (S M : Nat), v8 = .map (some S) ∧ v9 = .map (some M) ∧ MapIs chkv Value.bool wx S s ∧ Hid (IsSet (ComeTo (fun p => p ∈ o.map (·.1))) s) ∧ MapIs chkv Value.bool wx M [(zchk, true)] ∧ S ≠ M ∧ w3.heap.size ≤ M ∧ w3.heap.size ≤ S ∧ Below w3.heap.size w3 wx)
      case first =>
        have hmm := @run_makeMap Try.prog
        have hD : Below w3.heap.size w3 w3.drew := (Below.refl _ w3).drew
        have hD1 : Below w3.heap.size w3 ((w3.alloc (.map #[] 0)).drew) := ((Below.refl _ w3).alloc (Nat.le_refl _) _).drew
        have hz1 : MapIs chkv Value.bool ((w3.alloc (.map #[] 0)).drew) w3.heap.size [] := MapIs_new _ _ (ha_at rfl)
        obtain ⟨Z2, hrz2, hz2, hgz2, hsz2⟩ := put_zero hz1
        have hD2 := below_step hD1 hD1.size hgz2 (fun q e => by cases e; exact Nat.le_refl _)
        go_region_held3 (fun _ => True) (exact trivial)
          ((first
            | (go_at_call 37; (with_reducible refine (just_any o B w3.drew (MapIs_below hM hD)).mono ?_); rintro e w4 ⟨s, S, rfl, hSl, hS, hss, hsl, hb4⟩; have hss' := Lib.hid hss; clear hss; have hwa : MapIs chkv Value.bool (w4.alloc (.map #[] 0)) w4.heap.size [] := MapIs_new _ _ (ha_at rfl); obtain ⟨W5, hr5, hm5, hg5, hs5⟩ := put_zero hwa)
            | (go_at_call 37; (with_reducible refine (just_any o B ((w3.alloc (.map #[] 0)).drew) (MapIs_below hM hD1)).mono ?_); rintro e w4 ⟨s, S, rfl, hSl, hS, hss, hsl, hb4⟩; have hss' := Lib.hid hss; clear hss; obtain ⟨W5, hr5, hm5, hg5, hs5⟩ := put_zero (MapIs_below hz1 hb4))
            | (go_at_call 37; (with_reducible refine (just_any o B Z2 (MapIs_below hM hD2)).mono ?_); rintro e w4 ⟨s, S, rfl, hSl, hS, hss, hsl, hb4⟩; have hss' := Lib.hid hss; clear hss)))
        all_goals go_wp2
        all_goals go_meet
        · have e1 := hD.size
          have e2 := hb4.size
          have e3 := MapIs_lt hS
          have hwb : Below w4.heap.size w4 (w4.alloc (.map #[] 0)) := (Below.refl _ w4).alloc (Nat.le_refl _) _
          exact ⟨s, S, w4.heap.size, rfl, rfl, MapIs_grown (MapIs_below hS hwb) hg5 (fun e => by have e' := Option.some.inj e; omega), hss', hm5, by omega, by omega, by omega, below_step (below_call (below_call hD hD.size hb4) (by omega) hwb) (by simp; omega) hg5 (fun q e => by cases e; omega)⟩
        · have e1 := hD1.size
          have e2 := hb4.size
          have e3 := MapIs_lt hS
          have e4 := MapIs_lt hz1
          exact ⟨s, S, w3.heap.size, rfl, rfl, MapIs_grown hS hg5 (fun e => by have e' := Option.some.inj e; omega), hss', hm5, by omega, Nat.le_refl _, by omega, below_step (below_call hD1 hD1.size hb4) (by omega) hg5 (fun q e => by cases e; omega)⟩
        · have e1 := hD2.size
          have e2 := hb4.size
          have e3 := MapIs_lt hS
          have e4 := MapIs_lt hz2
          exact ⟨s, S, w3.heap.size, rfl, rfl, hS, hss', MapIs_below hz2 hb4, by omega, Nat.le_refl _, by omega, below_call hD2 hD2.size hb4⟩
      case rest =>
        obtain ⟨s, S, M, rfl, rfl, hS, hss, hF, hSM, hMl, hSl, hbw⟩ := hcut
        rename World => wx
        have hMx := MapIs_below hM hbw
        have hBx := below_call hB3 hB3.size hbw
        have hls := Lib.hid (And.intro hB3.size (And.intro (MapIs_lt hM) (And.intro hMl (And.intro hSl hSM))))
        clear hM hB3 hbw hMl hSl hSM
        obtain ⟨r, hr⟩ : ∃ r, wx.heap.size = r := ⟨_, rfl⟩
        have hls2 := Lib.hid (show S < r ∧ M < r ∧ B < r by rw [← hr]; exact ⟨MapIs_lt hS, MapIs_lt hF, MapIs_lt hMx⟩)
        go_wp2_with (at_range; refine wp_range rfl rfl Try.underlying59 rfl hMx (r := r) hr ?_; intro w5 hR hBR hzR)
        go_frame
        have hS5 := MapIs_below hS hBR
        have hF5 := MapIs_below hF hBR
        have hB5 := below_call hBx hBx.size hBR
        clear hS hF hBx hMx hr hBR hzR
        go_loopw [10] (fun _ wr => ∃ (came : List Way) (f : List (Chk × Bool)), RIs wayv Value.bool wr B r o came ∧ MapIs chkv Value.bool wr S s ∧ MapIs chkv Value.bool wr M f ∧ Hid (FinAt l s o came f) ∧ Below w.heap.size w wr) (fun _ wr => wr.rangeLeft B r)
        case atStart => exact ⟨[], [(zchk, true)], hR, hS5, hF5, Lib.hid (fin_zero l s o), hB5⟩
        case round =>
          clear hR hS5 hF5 hB5
          obtain ⟨came, f, hR, hS, hF, hfin, hB⟩ := hrel
          go_wp2_with (first
            | (at_next; refine wp_next rfl rfl rfl hR ?_ ?_; rotate_left; (intro p b w6 hcm hen; have hls3 := hls2.out; have hls4 := hls.out; have hB6 := below_step hB hB.size hcm.grown (fun q e => by cases e; omega); have hS6 := MapIs_grown hS hcm.grown (fun e => by have e' := Option.some.inj e; omega); have hF6 := MapIs_grown hF hcm.grown (fun e => by have e' := Option.some.inj e; omega); obtain ⟨X, hX⟩ : ∃ X, w6.alloc (.cells #[.int .i64 p.src.epoch, .int .u64 p.src.root.hi, .int .u64 p.src.root.lo, .int .i64 p.tgt.epoch, .int .u64 p.tgt.root.hi, .int .u64 p.tgt.root.lo] 63) = X := ⟨_, rfl⟩; (have hBX : Below w6.heap.size w6 X := by subst hX; exact (Below.refl _ w6).alloc (Nat.le_refl _) _); (have x0 : X.heap[w6.heap.size]? = some (.cells #[.int .i64 p.src.epoch, .int .u64 p.src.root.hi, .int .u64 p.src.root.lo, .int .i64 p.tgt.epoch, .int .u64 p.tgt.root.hi, .int .u64 p.tgt.root.lo] 63 (0, 0)) := by subst hX; exact ha_at rfl); have hrX := hcm.ris.below hBX; have hBx := below_call hB6 hB6.size hBX; have hSX := MapIs_below hS6 hBX; have hFX := MapIs_below hF6 hBX; obtain ⟨y0, y1, y2, y3, y4, y5⟩ := blk6 x0; have hmem := Lib.hid hcm.mem; have hless := Lib.hid hcm.less; have hrx := hrX.1; have hrl := Lib.hid hrX.2; have hlk := look_iset hSX hss.out p.src; have hen0 := ends_any l s p A2 k2 S X (hr2.below hBx) hl hSX (strong_ok ((hso'.out.1 p).1 (List.mem_map.2 ⟨_, hcm.mem, rfl⟩))); clear hrX hcm; unfold wayv at hen hen0); rotate_left)
            | (go_at_call 41; (with_reducible refine hen0.mono ?_); clear hen0; rintro e w7 ⟨rfl, hb7⟩; have hB7 := below_call hBx hBx.size hb7; have r7 := hrx.below hb7; have s7 := MapIs_below hSX hb7; have f7 := MapIs_below hFX hb7; obtain ⟨z0, z1, z2, z3, z4, z5⟩ := blk6 (bl_own hb7 x0))
            | (at_mapUpdate; refine wp_update (ev := Value.bool) rfl (.inl rfl) KeyC Try.underlying57 rfl (x := p.src) rfl (v := true) rfl f7 ?_; intro w8 f8 hg8 hz8))
          · intro hall
            have hallB : ∀ q ∈ o, q.1 ∈ came := fun q hq => by
              obtain ⟨d, x⟩ := q
              cases x
              · exact (hall.out d).1 hq
              · exact (hall.out d).2 hq
            have hres := Lib.hid (fin_all hmt.out hso'.out hss.out hfin.out hallB)
            have hfl := fin_len hfin.out (by obtain ⟨_, _, _, _, _, _, h⟩ := hF; exact h)
            have htd := ctold_any f M wr hF (by omega)
            clear hall hallB hfl
            go_wp2_with (go_at_call 36; (with_reducible refine htd.mono ?_); clear htd; rintro e w6 ⟨u, rfl, ho6, hb6⟩)
            go_ret
            exact ⟨u, rfl, by rw [← hres.out]; exact ho6.mono hB.size, below_call hB hB.size hb6⟩
          · have g1 : inS s p.src = true := by assumption
            have g2 : endsB l s p = true := by assumption
            have hfp := Lib.hid (fin_put hfin.out hmem.out g1 g2)
            have r8 := r7.1.grown hg8 (fun e => by have e' := Option.some.inj e; omega) (fun e => by have e' := Option.some.inj e; omega)
            clear g1 g2
            (try dsimp only [Act.put])
            go_roundw
            case rel => exact ⟨p :: came, mput f p.src true, r8.1, MapIs_grown s7 hg8 (fun e => by have e' := Option.some.inj e; omega), f8, hfp, below_step hB7 hB7.size hg8 (fun q e => by cases e; omega)⟩
            case measure => rw [r8.2, r7.2, hrl.out]; exact hless.out
          · have g2 : endsB l s p = false := by assumption
            have hfp := Lib.hid (fin_skip hfin.out hmem.out (fun h => by rw [g2] at h; exact absurd h.2 (by simp)))
            clear g2
            go_roundw
            case rel => exact ⟨p :: came, f, r7.1, s7, f7, hfp, hB7⟩
            case measure => rw [r7.2, hrl.out]; exact hless.out
          · have g1 : ¬ inS s p.src = true := by assumption
            have hfp := Lib.hid (fin_skip hfin.out hmem.out (fun h => g1 h.1))
            clear g1
            go_roundw
            case rel => exact ⟨p :: came, f, hrx, hSX, hFX, hfp, hBx⟩
            case measure => rw [hrl.out]; exact hless.out
    · have htb : mayB l = false := by simp [mayB, ht]
      rw [htb] at htm
      have hres := Lib.hid (finalL_no (fun h : MayC c ∧ Tree l => ht h.2) v)
      clear hmc ht htb hst
      unfold cfgv at *
      go_enter Try.func18, Try.ntmps18
      go_wp2_with (first
        | (go_at_call 34; (with_reducible refine (hmay _ hB).mono ?_); clear hmay; rintro e w1 ⟨rfl, hb1⟩; have hB1 := below_call hB hB.size hb1; have b1 := bl_own hb1 b0)
        | (go_at_call 35; (with_reducible refine (htm _ hB1).mono ?_); clear htm; rintro e w2 ⟨rfl, hb2⟩; have hB2 := below_call hB1 hB1.size hb2))
      go_ret
      exact ⟨_, rfl, by rw [hres.out]; exact Own.nil _ _ _ _ _, hB2⟩
  · rw [decide_eq_false hmc] at hmay
    have hres := Lib.hid (finalL_no (fun h : MayC c ∧ Tree l => hmc h.1) v)
    clear hmc hst htm
    unfold cfgv at *
    go_enter Try.func18, Try.ntmps18
    go_wp2_with (go_at_call 34; (with_reducible refine (hmay _ hB).mono ?_); clear hmay; rintro e w1 ⟨rfl, hb1⟩; have hB1 := below_call hB hB.size hb1)
    go_ret
    exact ⟨_, rfl, by rw [hres.out]; exact Own.nil _ _ _ _ _, hB1⟩
end Go.Proofs.Ytdocgemfedohdaa
