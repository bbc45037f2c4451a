/- FfgGrounds, walked. -/
import Derived.Test.YtdocgemfedohdaaGD
import Derived.Test.YtdocgemfedohdaaGM
import Derived.IntWalk
namespace Go.Proofs.Ytdocgemfedohdaa
open Go.RowKit
theorem any_take_next {α : Type} (p : α → Bool) {g : List α} {j : Nat} (hj : j < g.length) : (g.take (j + 1)).any p = ((g.take j).any p || p g[j]) := by
  rw [List.take_succ_eq_append_getElem hj, List.any_append]
  simp
/-- Is z a ground for y? -/
def groundB (c : Cfg) (l : List Blk) (v : List Lnk) (y z : Chk) : Bool := decide (z.epoch < y.epoch) && undB l z.root y.root && decide (StrongW c l v ⟨z, y⟩)
theorem rises_at {c : Cfg} {l : List Blk} {v : List Lnk} (m : Nat) (x y : Chk) (hx : (justL c l v)[m]? = some x) (hy : (justL c l v)[m + 1]? = some y) : x.epoch ≤ y.epoch ∧ x ≠ y := by
  obtain ⟨_, rfl⟩ := List.getElem?_eq_some_iff.1 hx
  obtain ⟨h, rfl⟩ := List.getElem?_eq_some_iff.1 hy
  exact justL_rises h
theorem ground_any {c : Cfg} {l : List Blk} {v : List Lnk} (m : Nat) (y : Chk) (hy : (justL c l v)[m + 1]? = some y) : ((justL c l v).take (m + 1)).any (groundB c l v y) = true := by
  obtain ⟨hi, rfl⟩ := List.getElem?_eq_some_iff.1 hy
  obtain ⟨k, hk, h1, h2, h3⟩ := justL_ground (by omega) hi
  rw [List.any_eq_true]
  refine ⟨(justL c l v)[k], List.mem_take_iff_getElem.2 ⟨k, by omega, rfl⟩, ?_⟩
  unfold groundB undB
  rw [decide_eq_true h1, decide_eq_true h2, decide_eq_true h3]
  rfl
set_option maxRecDepth 100000 in
set_option maxHeartbeats 8000000 in
theorem grounds11_any (c : Cfg) (l : List Blk) (v : List Lnk) (A A2 A3 : Option Addr) (k k2 k3 : Nat) (w : World) (hr : Rd 1 encI w A c.W) (hr2 : Rd 5 encBlk w A2 l) (hok : ∀ b ∈ l, b.Ok) (hr3 : Rd 7 encLnk w A3 v) (_ : v.length ≤ k3) (_ : k3 ≤ maxLen) (_ : A3 = none → k3 = 0) :
    Calls Try.prog 5 #[cfgv A k c, .slice A2 l.length k2, .slice A3 v.length k3] w fun e w' => e = .returned (.bool true) ∧ Below w.heap.size w w' := by
  have hm := hr.1
  have hm2 := hr2.1
  have hm3 := hr3.1
  have haw := fun V => awake11_any V
  have hfew := fun V => few11_any c l.length v.length A A2 A3 k k2 k3 V hm hm2 hm3
  obtain ⟨W, hW⟩ : ∃ W, w.alloc (.cells #[.slice A c.W.length k, .int .u64 c.seed, .int .i64 c.epoch, .int .i64 c.num, .int .i64 c.den] 25) = W := ⟨_, rfl⟩
  have hB : Below w.heap.size w W := by subst hW; exact (Below.refl _ w).alloc (Nat.le_refl _) _
  have b0 : W.heap[w.heap.size]? = some (.cells #[.slice A c.W.length k, .int .u64 c.seed, .int .i64 c.epoch, .int .i64 c.num, .int .i64 c.den] 25 (0, 0)) := by subst hW; exact ha_at rfl
  by_cases hsm : c.W.length ≤ 40 ∧ l.length ≤ 20 ∧ v.length ≤ 40
  · rw [decide_eq_true hsm] at hfew
    obtain ⟨_, hs2, hs3⟩ := hsm
    have hju := fun V (hV : Below w.heap.size w V) => fjust_any c l v A A2 A3 k k2 k3 V (hr.below hV) (hr2.below hV) (by omega) (hr3.below hV) (by omega)
    have hst := fun y z V (hV : Below w.heap.size w V) => fstrong_any c l v y z A A2 A3 k k2 k3 V (hr.below hV) (hr2.below hV) (by omega) (hr3.below hV) (by omega)
    have hun := fun a b V (hV : Below w.heap.size w V) => undB_any l a b A2 k2 V (hr2.below hV) (by omega)
    have hgr := ground_any (c := c) (l := l) (v := v)
    have hri := rises_at (c := c) (l := l) (v := v)
    have hjl := justL_len c l v
    generalize justL c l v = a at hju hjl hgr hri
    have hgr' := Lib.hid hgr
    have hri' := Lib.hid hri
    clear hgr hri
    unfold cfgv chkv at *
    unfold idv at hun
    go_enter Try.func5, Try.ntmps5
    go_wp2_with (first
      | (go_at_call 11; (with_reducible refine (haw _).mono ?_); clear haw; rintro e w1 ⟨rfl, hb1⟩; have hB1 := below_call hB hB.size hb1; have b1 := bl_own hb1 b0; obtain ⟨c10, c11, c12, c13, c14⟩ := blk5 b1)
      | (go_at_call 12; (with_reducible refine (hfew _).mono ?_); clear hfew; rintro e w2 ⟨rfl, hb2⟩; have hB2 := below_call hB1 hB1.size hb2; have b2 := bl_own hb2 b1; obtain ⟨c20, c21, c22, c23, c24⟩ := blk5 b2)
      | (go_at_call 16; (with_reducible refine (hju _ hB2).mono ?_); clear hju; rintro e w3 ⟨u3, rfl, ho3, hb3⟩; have hB3 := below_call hB2 hB2.size hb3; obtain ⟨Aa, ka, rfl, hRa⟩ := ho3.rd encChk_len; have b3 := bl_own hb3 b2))
    clear hb1 hb2 hb3 hB hB1 hB2 b0 b1 b2 hW c10 c11 c12 c13 c14 c20 c21 c22 c23 c24 ho3
    go_loopw [10, 11, 12] (fun u10 _ _ wr => ∃ m : Nat, (m ≤ a.length) ∧ u10 = .int .i64 ((m : Int) + 1) ∧ Below w3.heap.size w3 wr) (fun u10 _ _ _ => a.length + 1 - (intOf u10).toNat)
    case atStart => exact ⟨0, Nat.zero_le _, rfl, Below.refl _ _⟩
    case round =>
      obtain ⟨m, hm1, rfl, hBW⟩ := hrel
      rename World => wo
      have hBo := below_call hB3 hB3.size hBW
      by_cases hlt : m + 1 < a.length
      · have hlt' : m < a.length := by omega
        have hlti : (m : Int) + 1 < (a.length : Int) := by omega
        have hg0 := hgr'.out m _ (List.getElem?_eq_getElem hlt)
        obtain ⟨hri1, hri2⟩ := hri'.out m _ _ (List.getElem?_eq_getElem hlt') (List.getElem?_eq_getElem hlt)
        have hCy := fun V (hV : Below w3.heap.size w3 V) => (hRa.below hV).atChk hlt
        have hCp := fun V (hV : Below w3.heap.size w3 V) => (hRa.below hV).atChk hlt'
        obtain ⟨y, hy⟩ : ∃ y, a[m + 1] = y := ⟨_, rfl⟩
        obtain ⟨pv, hpv⟩ : ∃ y, a[m] = y := ⟨_, rfl⟩
        rw [hy] at hg0 hri1 hri2
        rw [hpv] at hri1 hri2
        simp only [hy] at hCy
        simp only [hpv] at hCp
        clear hy hpv
        have hCy := Lib.hid hCy
        have hCp := Lib.hid hCp
        have hg0 := Lib.hid hg0
        have hri1 := Lib.hid hri1
        have hri2 := Lib.hid hri2
        obtain ⟨b, o, he, _⟩ := hCy.out w3 (Below.refl _ _)
        subst he
        go_wp2_with fail
        go_loopw [11, 12] (fun u11 u12 wr => ∃ kk : Nat, kk ≤ m + 1 ∧ u12 = .int .i64 kk ∧ u11 = .bool ((a.take kk).any (groundB c l v y)) ∧ Below wo.heap.size wo wr) (fun _ u12 _ => m + 1 - (intOf u12).toNat)
        case atStart => exact ⟨0, Nat.zero_le _, rfl, rfl, Below.refl _ _⟩
        case round =>
          obtain ⟨kk, hkk, rfl, rfl, hBX⟩ := hrel
          have hBX3 := below_call hBW hBW.size hBX
          have hBr := below_call hB3 hB3.size hBX3
          obtain ⟨p, hp⟩ : ∃ p, (a.take kk).any (groundB c l v y) = p := ⟨_, rfl⟩
          by_cases hlk : kk < m + 1
          · have hlka : kk < a.length := by omega
            have hsn := any_take_next (groundB c l v y) hlka
            obtain ⟨bz, oz, hez, _, d0, d1, d2⟩ := (hRa.below hBX3).atChk hlka
            cases hez
            obtain ⟨z, hz⟩ : ∃ z, a[kk] = z := ⟨_, rfl⟩
            rw [hz] at d0 d1 d2 hsn
            rw [hp] at hsn ⊢
            clear hz hp
            rw [show groundB c l v y z = (decide (z.epoch < y.epoch) && undB l z.root y.root && decide (StrongW c l v ⟨z, y⟩)) from rfl] at hsn
            obtain ⟨by', oy, hey, _, f0, f1, f2⟩ := hCy.out wr hBX3
            cases hey
            obtain ⟨c0, c1, c2, c3, c4⟩ := blk5 (bl_own hBX3 b3)
            have yc0 := gr_cell c0
            have yc1 := gr_cell c1
            have yc2 := gr_cell c2
            have yc3 := gr_cell c3
            have yc4 := gr_cell c4
            have yd0 := gr_cell d0
            have yd1 := gr_cell d1
            have yd2 := gr_cell d2
            have yf0 := gr_cell f0
            have yf1 := gr_cell f1
            have yf2 := gr_cell f2
            have hu1 := fun p => hun z.root y.root (gr wr p) (below_call hBr hBr.size (gr_below wr p))
            have hs1 := fun p => hst z y (gr wr p) (below_call hBr hBr.size (gr_below wr p))
            have i1 : (kk : Int) < (m : Int) + 1 := by omega
            have i2 : (kk : Int) < (a.length : Int) := by omega
            have i3 : (0 : Int) ≤ (m : Int) + 1 := by omega
            have i4 : ((m : Int) + 1).toNat = m + 1 := by omega
            cases p
            · by_cases h1 : z.epoch < y.epoch
              · have e1 : decide (z.epoch < y.epoch) = true := decide_eq_true h1
                rw [e1] at hsn
                obtain ⟨u, hu⟩ : ∃ u, undB l z.root y.root = u := ⟨_, rfl⟩
                rw [hu] at hsn hu1
                clear hu
                obtain ⟨s, hs⟩ : ∃ s, decide (StrongW c l v ⟨z, y⟩) = s := ⟨_, rfl⟩
                rw [hs] at hsn hs1
                clear hs h1
                cases u
                · have hsn : (a.take (kk + 1)).any (groundB c l v y) = false := hsn.trans (by simp)
                  have hsn := Lib.hid hsn
                  go_wp2_with fail
                  refine wp_region_gr (by kernel_rfl) (by kernel_rfl) ?_
                  repeat (go_big_quiet_step ((first | (go_at_call 23; with_reducible exact Calls.gr_of (hu1 _)) | (go_at_call 21; with_reducible exact Calls.gr_of (hs1 _)))))
                  refine wpQuiet_nil ?_
                  rintro _ ⟨pq, rfl⟩
                  have hg := gr_below wr pq
                  generalize gr wr pq = w6 at hg ⊢
                  clear yc0 yc1 yc2 yc3 yc4 yd0 yf0 yd1 yf1 yd2 yf2 hu1 hs1
                  go_wp2_with fail
                  go_roundw
                  case rel => exact ⟨kk + 1, by omega, by go_num, by rw [hsn.out], below_call hBX hBX.size hg⟩
                  case measure => simp [intOf]; omega
                · have hsn : (a.take (kk + 1)).any (groundB c l v y) = s := hsn.trans (by simp)
                  have hsn := Lib.hid hsn
                  go_wp2_with fail
                  refine wp_region_gr (by kernel_rfl) (by kernel_rfl) ?_
                  repeat (go_big_quiet_step ((first | (go_at_call 23; with_reducible exact Calls.gr_of (hu1 _)) | (go_at_call 21; with_reducible exact Calls.gr_of (hs1 _)))))
                  refine wpQuiet_nil ?_
                  rintro _ ⟨pq, rfl⟩
                  have hg := gr_below wr pq
                  generalize gr wr pq = w6 at hg ⊢
                  clear yc0 yc1 yc2 yc3 yc4 yd0 yf0 yd1 yf1 yd2 yf2 hu1 hs1
                  go_wp2_with fail
                  go_roundw
                  case rel => exact ⟨kk + 1, by omega, by go_num, by rw [hsn.out], below_call hBX hBX.size hg⟩
                  case measure => simp [intOf]; omega
              · have e1 : decide (z.epoch < y.epoch) = false := decide_eq_false h1
                rw [e1] at hsn
                clear h1
                have hsn : (a.take (kk + 1)).any (groundB c l v y) = false := hsn.trans (by simp)
                have hsn := Lib.hid hsn
                go_wp2_with fail
                refine wp_region_gr (by kernel_rfl) (by kernel_rfl) ?_
                repeat (go_big_quiet_step ((first | (go_at_call 23; with_reducible exact Calls.gr_of (hu1 _)) | (go_at_call 21; with_reducible exact Calls.gr_of (hs1 _)))))
                refine wpQuiet_nil ?_
                rintro _ ⟨pq, rfl⟩
                have hg := gr_below wr pq
                generalize gr wr pq = w6 at hg ⊢
                clear yc0 yc1 yc2 yc3 yc4 yd0 yf0 yd1 yf1 yd2 yf2 hu1 hs1
                go_wp2_with fail
                go_roundw
                case rel => exact ⟨kk + 1, by omega, by go_num, by rw [hsn.out], below_call hBX hBX.size hg⟩
                case measure => simp [intOf]; omega
            · have hsn : (a.take (kk + 1)).any (groundB c l v y) = true := hsn.trans (by simp)
              have hsn := Lib.hid hsn
              go_wp2_with fail
              refine wp_region_gr (by kernel_rfl) (by kernel_rfl) ?_
              repeat (go_big_quiet_step ((first | (go_at_call 23; with_reducible exact Calls.gr_of (hu1 _)) | (go_at_call 21; with_reducible exact Calls.gr_of (hs1 _)))))
              refine wpQuiet_nil ?_
              rintro _ ⟨pq, rfl⟩
              have hg := gr_below wr pq
              generalize gr wr pq = w6 at hg ⊢
              clear yc0 yc1 yc2 yc3 yc4 yd0 yf0 yd1 yf1 yd2 yf2 hu1 hs1
              go_wp2_with fail
              go_roundw
              case rel => exact ⟨kk + 1, by omega, by go_num, by rw [hsn.out], below_call hBX hBX.size hg⟩
              case measure => simp [intOf]; omega
          · obtain rfl : kk = m + 1 := by omega
            rw [hg0.out] at hp ⊢
            clear hp
            obtain ⟨by', oy, hey, _, f0, f1, f2⟩ := hCy.out wr hBX3
            cases hey
            obtain ⟨bp, op, hep, _, d0, d1, d2⟩ := hCp.out wr hBX3
            cases hep
            have heq := eql_chk pv y
            rw [decide_eq_false hri2.out] at heq
            have e1 : decide (pv.epoch > y.epoch) = false := decide_eq_false (by have := hri1.out; omega)
            have yd0 := gr_cell d0
            have yd1 := gr_cell d1
            have yd2 := gr_cell d2
            have yf0 := gr_cell f0
            have yf1 := gr_cell f1
            have yf2 := gr_cell f2
            have j1 : IntKind.i64.wrap ((m : Int) + 1 - 1) = (m : Int) := by rw [show (m : Int) + 1 - 1 = m by omega]; exact Go.IntWalk.i64_in _ (by omega)
            have j2 : IntKind.i64.wrap (m : Int) = (m : Int) := Go.IntWalk.i64_in _ (by omega)
            have j3 : (m : Int) < (a.length : Int) := by omega
            have j4 : (0 : Int) ≤ (m : Int) + 1 := by omega
            have j5 : ((m : Int) + 1).toNat = m + 1 := by omega
            go_wp2_with fail
            refine wp_region_gr (by kernel_rfl) (by kernel_rfl) ?_
            repeat (go_big_quiet_step (fail))
            refine wpQuiet_nil ?_
            rintro _ ⟨pq, rfl⟩
            have hg := gr_below wr pq
            generalize gr wr pq = w6 at hg ⊢
            clear j1 j2 heq yd0 yd1 yd2 yf0 yf1 yf2
            go_wp2_with fail
            go_roundw
            case rel => exact ⟨m + 1, by omega, by go_num, below_call hBW hBW.size (below_call hBX hBX.size hg)⟩
            case measure => simp [intOf]; omega
      · have hlti : ¬ (m : Int) + 1 < (a.length : Int) := by omega
        go_wp2_with fail
        go_ret
        exact ⟨rfl, hBo⟩
  · rw [decide_eq_false hsm] at hfew
    clear hsm
    unfold cfgv at *
    go_enter Try.func5, Try.ntmps5
    go_wp2_with (first
      | (go_at_call 11; (with_reducible refine (haw _).mono ?_); clear haw; rintro e w1 ⟨rfl, hb1⟩; have hB1 := below_call hB hB.size hb1; have b1 := bl_own hb1 b0; obtain ⟨c10, c11, c12, c13, c14⟩ := blk5 b1)
      | (go_at_call 12; (with_reducible refine (hfew _).mono ?_); clear hfew; rintro e w2 ⟨rfl, hb2⟩; have hB2 := below_call hB1 hB1.size hb2; have b2 := bl_own hb2 b1; obtain ⟨c20, c21, c22, c23, c24⟩ := blk5 b2))
    go_ret
    exact ⟨rfl, hB2⟩
theorem grounds11_walk (A : Option Addr) (c : Cfg) (k : Nat) (A2 : Option Addr) (l : List Blk) (k2 : Nat) (A3 : Option Addr) (v : List Lnk) (k3 : Nat) (w : World) (_ : c.W.length ≤ k) (_ : k ≤ maxLen) (hr : Rd 1 encI w A c.W) (_ : c.Ok) (_ : l.length ≤ k2) (_ : k2 ≤ maxLen) (hr2 : Rd 5 encBlk w A2 l) (hok : ∀ b ∈ l, b.Ok) (hk3 : v.length ≤ k3) (hk3m : k3 ≤ maxLen) (hr3 : Rd 7 encLnk w A3 v) (_ : ∀ b ∈ v, b.Ok) (hN : A3 = none → k3 = 0) :
    Calls Try.prog 5 #[cfgv A k c, .slice A2 l.length k2, .slice A3 v.length k3] w fun e w' => e = .returned (.bool true) ∧ Below w.heap.size w w' :=
  grounds11_any c l v A A2 A3 k k2 k3 w hr hr2 hok hr3 hk3 hk3m hN
end Go.Proofs.Ytdocgemfedohdaa
