/-
  Own laws on rows that are stored into.
-/
import Derived.Test.YtijnjgjpmgmifaaDoorBase
namespace Go.Proofs.YtijnjgjpmgmifaaDoor
open Go.RowKit
theorem grown_set {w wr : World} {g : Nat} (h : w.grownBy wr (some g)) (i : Nat) (u : Value) : w.grownBy (wr.setCell ⟨g, i, none⟩ u) (some g) :=
  ⟨h.os, h.tape, h.output, by show w.heap.size ≤ (wr.heap.modify _ _).size; rw [Array.size_modify]; exact h.size, fun k hk hr => (Below.heap_setCell wr ⟨g, i, none⟩ u k (fun e => hr (congrArg some e))).trans (h.block k hk hr)⟩
theorem grown_drew {w wr : World} {row : Option Nat} (h : w.grownBy wr row) : w.grownBy wr.drew row := ⟨h.os, h.tape, h.output, h.size, h.block⟩
theorem grown_self (w : World) (row : Option Nat) : w.grownBy w row := ⟨rfl, rfl, rfl, Nat.le_refl _, fun _ _ _ => rfl⟩
end Go.Proofs.YtijnjgjpmgmifaaDoor
