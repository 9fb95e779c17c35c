/-
  Versions compared.
-/
import Derived.Test.YtficjpfhakggmaaVer
namespace Go.Proofs.Ytficjpfhakggmaa
open Go.RowKit
/-- two versions are equal, field by field -/
def eqB (a1 a2 a3 : Int) (a4 : Bool) (b1 b2 b3 : Int) (b4 : Bool) : Bool := decide ((⟨a1, a2, a3, a4⟩ : Ver) = ⟨b1, b2, b3, b4⟩)
theorem eqlV (a1 a2 a3 b1 b2 b3 : Int) (a4 b4 : Bool) (w : World) :
    (binOp .eql 44 (.agg #[.int .i64 a1, .int .i64 a2, .int .i64 a3, .bool a4]) (.agg #[.int .i64 b1, .int .i64 b2, .int .i64 b3, .bool b4])).run Try.prog w = .ok (.bool (eqB a1 a2 a3 a4 b1 b2 b3 b4)) w := by
  have hS : Try.prog.underlying 44 = some (.struct (Try.prog.fieldsOf 44)) := by kernel_rfl
  have hp : Try.prog.stoodInHeld 44 = false := by kernel_rfl
  have u3 := Try.underlying3
  have u4 := Try.underlying4
  rw [run_eql_struct, show (10000 : Nat) = 9999 + 1 from rfl, run_equalIn_agg w 9999 44 _ _ hS hp]
  simp only [Program.fieldsOf, Try.underlying44]
  go_simp
  by_cases h1 : a1 = b1 <;> by_cases h2 : a2 = b2 <;> by_cases h3 : a3 = b3 <;> by_cases h4 : a4 = b4 <;> simp [eqB, h1, h2, h3, h4]
theorem neqV (a1 a2 a3 b1 b2 b3 : Int) (a4 b4 : Bool) (w : World) :
    (binOp .neq 44 (.agg #[.int .i64 a1, .int .i64 a2, .int .i64 a3, .bool a4]) (.agg #[.int .i64 b1, .int .i64 b2, .int .i64 b3, .bool b4])).run Try.prog w = .ok (.bool (!eqB a1 a2 a3 a4 b1 b2 b3 b4)) w := by
  have hS : Try.prog.underlying 44 = some (.struct (Try.prog.fieldsOf 44)) := by kernel_rfl
  have hp : Try.prog.stoodInHeld 44 = false := by kernel_rfl
  have u3 := Try.underlying3
  have u4 := Try.underlying4
  rw [run_neq_struct, show (10000 : Nat) = 9999 + 1 from rfl, run_equalIn_agg w 9999 44 _ _ hS hp]
  simp only [Program.fieldsOf, Try.underlying44]
  go_simp
  by_cases h1 : a1 = b1 <;> by_cases h2 : a2 = b2 <;> by_cases h3 : a3 = b3 <;> by_cases h4 : a4 = b4 <;> simp [eqB, h1, h2, h3, h4]
attribute [go_sem high] eqlV neqV
end Go.Proofs.Ytficjpfhakggmaa
