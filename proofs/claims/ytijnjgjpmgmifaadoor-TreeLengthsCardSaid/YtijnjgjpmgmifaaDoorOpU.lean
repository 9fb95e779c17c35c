/-
  Arguments opened: a slice of unsigned integers.
-/
import Derived.Test.YtijnjgjpmgmifaaDoorOpA
import Derived.Test.YtijnjgjpmgmifaaDoorIs
import Derived.ChangeSlices
namespace Go.Proofs.YtijnjgjpmgmifaaDoor
open Go.ChangeShapes Go.WideShapes Go.ChangeAt Go.RowKit Go.Deep
section
variable {H : Type} {enc : TypeId × Value → H} {w : World} {base : Nat} {spare : Nat → Bool} {held : Bool}
/-- an argument that is a slice of integers of one kind -/
theorem open_ks {t e : TypeId} {k : IntKind} (ht : Tryd.prog.underlying t = some (.slice e)) (he : Tryd.prog.underlying e = some (.int k)) (c1 : Tryd.prog.cellsOf e = 1) {r : Reach} {b0 : Nat} {v : Value} {d : DataW H} {p : List MemPlace} (hv : Value.okWide Tryd.prog w r b0 t v) (h : DataW.Trod enc Tryd.prog w base spare held t v d p) :
    ∃ (A : Option Addr) (c : Nat) (l : List Int), v = .slice A l.length c ∧ l.length ≤ c ∧ c ≤ maxLen ∧ KS k w A l := by
  obtain ⟨a0, len0, cap0, rfl⟩ := okWide_slice ht hv
  obtain ⟨fuel, hf⟩ := h
  rcases open_ints ht he c1 hf with ⟨hcs, hx⟩ | ⟨a, len', cap', zs, hcs, q1, q2, q3, q4, q5, q6, q7⟩
  · simp [Value.cells] at hcs
    obtain ⟨rfl, rfl, rfl⟩ := hcs
    exact ⟨none, 0, [], rfl, Nat.le_refl _, Nat.zero_le _, Rd.nil _ _⟩
  · simp [Value.cells] at hcs
    obtain ⟨rfl, rfl, rfl⟩ := hcs
    have hlz : len0 ≤ zs.length := by rw [q4]; split <;> omega
    have hl : (zs.take len0).length = len0 := by simp; omega
    refine ⟨some a, cap0, zs.take len0, by rw [hl], by rw [hl]; exact q2, q3, ?_⟩
    rcases Nat.eq_zero_or_pos len0 with h0 | h0
    · subst h0; exact Rd.nil _ _
    obtain ⟨b, o, spot⟩ := a
    have hs : spot = none := by
      have := q6 0 (by omega)
      simp only [Addr.add, if_true] at this
      exact World.cell?_spot this
    subst hs
    have e : ∀ j, ((⟨b, o, none⟩ : Addr).add j) = ⟨b, o + j, none⟩ := fun j => by
      unfold Addr.add
      split <;> (simp; try omega)
    simp only [e] at q6
    have hlt : b < w.heap.size := World.block_lt_of_cell? w ⟨b, o + 0, none⟩ (q6 0 (by omega))
    refine fun _ => ⟨b, o, rfl, hlt, fun j u hu => ?_⟩
    obtain ⟨hj, hu⟩ := List.getElem?_eq_some_iff.1 hu
    have hj' : j < len0 := by rw [List.length_map, hl] at hj; exact hj
    rw [List.getElem_map, List.getElem_take] at hu
    rw [← hu, q6 j (by omega), List.getD_eq_getElem?_getD, List.getElem?_eq_getElem (by omega)]
    rfl
end
theorem u8_range {n : Int} (h : (Lit.int .u8 n).wf = true) : ∃ m : Nat, n = m ∧ m < 256 := by
  have : IntKind.u8.min ≤ n ∧ n ≤ IntKind.u8.max := by simpa [Lit.wf] using h
  have e1 : IntKind.u8.min = 0 := by decide
  have e2 : IntKind.u8.max = 255 := by decide
  rw [e1, e2] at this
  exact ⟨n.toNat, by omega, by omega⟩
end Go.Proofs.YtijnjgjpmgmifaaDoor
