/- Which keys maps have here: whole numbers, IDs. -/
import Derived.Test.YtkccakaaklemdaaMaps
namespace Go.Proofs.Ytkccakaaklemdaa
open Go.RowKit
theorem part_int {P : Program} {t : TypeId} {k : IntKind} (hu : P.underlying t = some (.int k)) (cs : Array Value) (off : Nat) (v : Value) (h : cs[off]? = some v) (w : World) : (part t cs off).run P w = .ok v w := by
  simp [part, isAgg, run_underlying hu, h]
theorem eqlIn_id (d : Nat) (x y : ID) (w : World) : (Op.equalIn (d + 2) 29 (idv x) (idv y)).run Try.prog w = .ok (decide (x = y)) w := by
  have u := Try.underlying29
  have z := Try.sizeOf23
  have u3 := Try.underlying23
  have p := fun cs off v h w => part_int (P := Try.prog) u3 cs off v h w
  unfold idv Op.equalIn
  simp only [Sem.run_bind, run_underlying u, Result.andThen_ok, z]
  simp [List.range', List.forIn_cons, p, run_equalIn_int _ _ _ _ _ _ _ u3]
  obtain ⟨x1, x2⟩ := x
  obtain ⟨y1, y2⟩ := y
  by_cases h1 : x1 = y1 <;> by_cases h2 : x2 = y2 <;> simp [h1, h2]
theorem eql_id (x y : ID) (w : World) : (binOp .eql 29 (idv x) (idv y)).run Try.prog w = .ok (.bool (decide (x = y))) w := by
  have h := eqlIn_id 9998 x y w
  unfold idv at *
  rw [run_eql_struct, h]
  rfl
theorem neq_id (x y : ID) (w : World) : (binOp .neq 29 (idv x) (idv y)).run Try.prog w = .ok (.bool (!decide (x = y))) w := by
  have h := eqlIn_id 9998 x y w
  unfold idv at *
  rw [run_neq_struct, h]
  rfl
/-- The same, written out; beside the noughts. -/
theorem eql_idw (x y : ID) (w : World) : (binOp .eql 29 (.agg #[.int .u64 x.hi, .int .u64 x.lo]) (.agg #[.int .u64 y.hi, .int .u64 y.lo])).run Try.prog w = .ok (.bool (decide (x = y))) w := by
  have h := eql_id x y w
  unfold idv at h
  exact h
theorem neq_idw (x y : ID) (w : World) : (binOp .neq 29 (.agg #[.int .u64 x.hi, .int .u64 x.lo]) (.agg #[.int .u64 y.hi, .int .u64 y.lo])).run Try.prog w = .ok (.bool (!decide (x = y))) w := by
  have h := neq_id x y w
  unfold idv at h
  exact h
abbrev zid : ID := ⟨0, 0⟩
theorem eql_idz (x : ID) (w : World) : (binOp .eql 29 (.agg #[.int .u64 x.hi, .int .u64 x.lo]) (.agg #[.int .u64 0, .int .u64 0])).run Try.prog w = .ok (.bool (decide (x = zid))) w := by
  have h := eql_idw x ⟨0, 0⟩ w
  simp only at h
  exact h
theorem neq_idz (x : ID) (w : World) : (binOp .neq 29 (.agg #[.int .u64 x.hi, .int .u64 x.lo]) (.agg #[.int .u64 0, .int .u64 0])).run Try.prog w = .ok (.bool (!decide (x = zid))) w := by
  have h := neq_idw x ⟨0, 0⟩ w
  simp only at h
  exact h
theorem check_int {P : Program} {t : TypeId} {k : IntKind} (hu : P.underlying t = some (.int k)) (b : Bool) (n : Nat) (x : Int) (w : World) : (Instr.checkKey b (n + 1) t (.int k x)).run P w = .ok () w := by
  simp [Instr.checkKey, run_underlying hu]
theorem KeyI : Key Try.prog 3 (Value.int .i64) where
  chk := fun b x w => check_int Try.underlying3 b 9999 x w
  eq := fun x y w => by
    show (Op.equalIn 10000 _ _ _).run _ _ = _
    rw [show (10000 : Nat) = 9999 + 1 from rfl, run_equalIn_int _ _ _ _ _ _ _ Try.underlying3]
    rfl
  now := ⟨_, Try.underlying3, fun x y => .inr rfl⟩
  bits := fun x => by simp [Instr.sameBits]
theorem KeyID : Key Try.prog 29 idv where
  chk := fun b x w => by
    have u := Try.underlying29
    have z := Try.sizeOf23
    have u3 := Try.underlying23
    have p := fun cs off v h w => part_int (P := Try.prog) u3 cs off v h w
    have c := fun b n x w => check_int (P := Try.prog) u3 b n x w
    unfold idv Instr.checkKey
    simp only [Sem.run_bind, run_underlying u, Result.andThen_ok]
    simp [List.range', List.forIn_cons, p, c, z]
  eq := fun x y w => eqlIn_id 9998 x y w
  now := ⟨_, Try.underlying29, fun x y => .inl rfl⟩
  bits := fun x => by simp [Instr.sameBits, idv]
end Go.Proofs.Ytkccakaaklemdaa
