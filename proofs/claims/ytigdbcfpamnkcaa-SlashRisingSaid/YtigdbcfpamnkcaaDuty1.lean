/- The walks of slices.Min, slices.Max, duty.May, and marigoldref05's May, Has, Weight. -/
import Derived.Test.YtigdbcfpamnkcaaRefUnder
namespace Go.Proofs.Ytigdbcfpamnkcaa
open Go.RowKit
structure Cfg where
  W : List Int
  seed : Int
  epoch : Int
  num : Int
  den : Int
def cfgv (A : Option Addr) (k : Nat) (c : Cfg) : Value := .agg #[.slice A c.W.length k, .int .u64 c.seed, .int .i64 c.epoch, .int .i64 c.num, .int .i64 c.den]
/-- A conf that may be. -/
def MayC (c : Cfg) : Prop := (1 ≤ c.W.length ∧ c.W.length ≤ 12 ∧ (∀ x ∈ c.W, 0 ≤ x ∧ x ≤ 1099511627776)) ∧ 1 ≤ c.epoch ∧ c.epoch ≤ 8 ∧ 0 ≤ c.num ∧ c.num ≤ c.den ∧ 1 ≤ c.den ∧ c.den ≤ 1000
instance (c : Cfg) : Decidable (MayC c) := by unfold MayC; exact inferInstance
def CfgOk (c : Cfg) : Prop := c.W.length ≤ 9223372036854775807
theorem mayC_W {c : Cfg} (h1 : 1 ≤ c.W.length) (h2 : c.W.length ≤ 12) {lo hi : Int} (hlo : lo ∈ c.W ∧ ∀ x ∈ c.W, lo ≤ x) (hhi : hi ∈ c.W ∧ ∀ x ∈ c.W, x ≤ hi) :
    decide (MayC c) = (decide (0 ≤ lo) && decide (hi ≤ 1099511627776) && decide (1 ≤ c.epoch ∧ c.epoch ≤ 8 ∧ 0 ≤ c.num ∧ c.num ≤ c.den ∧ 1 ≤ c.den ∧ c.den ≤ 1000)) := by
  rw [Bool.eq_iff_iff]
  simp only [Bool.and_eq_true, decide_eq_true_eq]
  constructor
  · rintro ⟨⟨_, _, h⟩, hr⟩
    exact ⟨⟨(h lo hlo.1).1, (h hi hhi.1).2⟩, hr⟩
  · rintro ⟨⟨h3, h4⟩, hr⟩
    exact ⟨⟨h1, h2, fun x hx => ⟨by have := hlo.2 x hx; omega, by have := hhi.2 x hx; omega⟩⟩, hr⟩
set_option maxRecDepth 100000 in
set_option maxHeartbeats 1000000 in
theorem rhas_any (x : Int) (xs : List Int) (A : Option Addr) (c : Nat) (w : World) (hr : Rd 1 encI w A xs) :
    Calls Try.prog 13 #[.slice A xs.length c, .int .i64 x] w fun e w' => e = .returned (.bool (decide (x ∈ xs))) ∧ w' = w := by
  go_enter Try.func13, Try.ntmps13
  go_wp2_with fail
  have hm := hr.1
  go_loop [5] (fun i => ∃ k : Nat, k ≤ xs.length ∧ i = .int .i64 k ∧ Hid (x ∉ xs.take k)) (fun i => xs.length - (intOf i).toNat)
  case atStart => exact ⟨0, Nat.zero_le _, rfl, Lib.hid (by simp)⟩
  case round =>
    obtain ⟨k, hk, rfl, hno⟩ := hrel
    by_cases hlt : k < xs.length
    · obtain ⟨b, o, rfl, hbo, d⟩ := hr.atI hlt
      have hmem := List.getElem_mem hlt
      have hst := fun h : ¬ x = xs[k] => not_mem_step hlt hno.out h
      obtain ⟨y, hy⟩ : ∃ y, xs[k] = y := ⟨_, rfl⟩
      rw [hy] at d hst hmem
      by_cases hx : x = y
      · have hd : decide (x ∈ xs) = true := by rw [hx]; simpa using hmem
        have hd' := Lib.hid hd
        have he : (y == x) = true := by simp [hx]
        clear hst hx hmem hd hy
        go_wp2_with fail
        go_ret
        exact ⟨ret_bool hd'.out.symm, rfl⟩
      · have hst' := Lib.hid (hst hx)
        have he : (y == x) = false := by simpa using fun e => hx e.symm
        clear hst hx hmem hy
        go_wp2_with fail
        go_round
        case rel => exact ⟨k + 1, hlt, by go_num, hst'⟩
        case measure => simp [intOf]; omega
    · obtain rfl : k = xs.length := by omega
      have hd' := Lib.hid (show decide (x ∈ xs) = false by simpa using hno.out)
      go_wp2_with fail
      go_ret
      exact ⟨ret_bool hd'.out.symm, rfl⟩
end Go.Proofs.Ytigdbcfpamnkcaa
