/-
  A reslice from an index on, as one step.
-/
import Derived.Test.YtficjpfhakggmaaPs34
namespace Go.Proofs.Ytficjpfhakggmaa
open Go.RowKit
theorem slice_suf (A : Option Addr) (n c i : Nat) (W : World) (hi : i ≤ n) (hn : n ≤ c) :
    (Instr.slice 23 (.slice A n c) (some (.int .i64 i)) none none).run Try.prog W = .ok (.slice (if c = i then A else Option.map (fun x => x.add (i * 4)) A) (n - i) (c - i)) W := by
  have h1 : (i : Int) ≤ n := by omega
  have hs : ∀ W, (sizeOf 29).run Try.prog W = .ok 4 W := fun W => by kernel_rfl
  simp [Instr.slice, run_underlying Try.underlying23, Instr.sliceBounds, run_sliceBound, hs, h1]
theorem sliceAt_suf (A : Option Addr) (n c i : Nat) (W : World) (hi : i ≤ n) (hn : n ≤ c) :
    (Instr.sliceAt 23 (.slice A n c) (some (.int .i64 i)) none none).run Try.prog W = .ok (.slice (if c = i then A else Option.map (fun x => x.add (i * 4)) A) (n - i) (c - i)) W := by
  rw [← slice_suf A n c i W hi hn]
  simp [Instr.sliceAt, run_underlying Try.underlying23]
end Go.Proofs.Ytficjpfhakggmaa
