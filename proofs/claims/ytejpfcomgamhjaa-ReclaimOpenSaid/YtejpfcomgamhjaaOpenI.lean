/-
  Arguments opened: a slice of integers.
-/
import Derived.Test.YtejpfcomgamhjaaOpen
import Derived.ChangeSlices
namespace Go.Proofs.Ytejpfcomgamhjaa
open Go.ChangeShapes Go.WideShapes Go.ChangeAt Go.RowKit Go.Deep
section
variable {H : Type} {enc : TypeId × Value → H} {w : World} {base : Nat} {spare : Nat → Bool} {held : Bool}
/-- an argument that is a slice of integers -/
theorem open_is {r : Reach} {b0 : Nat} {v : Value} {d : DataW H} {p : List MemPlace} (hv : Value.okWide Try.prog w r b0 23 v) (h : DataW.Trod enc Try.prog w base spare held 23 v d p) :
    ∃ (A : Option Addr) (c : Nat) (l : List Int), v = .slice A l.length c ∧ l.length ≤ c ∧ c ≤ maxLen ∧ Rd w A (l.map (Value.int .i64)) ∧ True := by
  obtain ⟨a0, len0, cap0, rfl⟩ := okWide_slice Try.underlying23 hv
  obtain ⟨fuel, hf⟩ := h
  have c1 : Try.prog.cellsOf 3 = 1 := by kernel_rfl
  rcases open_ints Try.underlying23 Try.underlying3 c1 hf with ⟨hcs, hx⟩ | ⟨a, len', cap', zs, hcs, q1, q2, q3, q4, q5, q6, q7⟩
  · simp [Value.cells] at hcs
    obtain ⟨rfl, rfl, rfl⟩ := hcs
    exact ⟨none, 0, [], rfl, Nat.le_refl _, Nat.zero_le _, Rd.nil _ _, trivial⟩
  · simp [Value.cells] at hcs
    obtain ⟨rfl, rfl, rfl⟩ := hcs
    have hlz : len0 ≤ zs.length := by rw [q4]; split <;> omega
    have hl : (zs.take len0).length = len0 := by simp; omega
    refine ⟨some a, cap0, zs.take len0, by rw [hl], by rw [hl]; exact q2, q3, ?_, trivial⟩
    rcases Nat.eq_zero_or_pos len0 with h0 | h0
    · subst h0; exact Rd.nil _ _
    obtain ⟨b, o, spot⟩ := a
    have hs : spot = none := by
      have := q6 0 (by omega)
      simp only [Addr.add, if_true] at this
      exact World.cell?_spot this
    subst hs
    have e : ∀ j, ((⟨b, o, none⟩ : Addr).add j) = ⟨b, o + j, none⟩ := fun j => by
      unfold Addr.add
      split <;> (simp; try omega)
    simp only [e] at q6
    have hlt : b < w.heap.size := World.block_lt_of_cell? w ⟨b, o + 0, none⟩ (q6 0 (by omega))
    refine fun _ => ⟨b, o, rfl, hlt, fun j u hu => ?_⟩
    obtain ⟨hj, hu⟩ := List.getElem?_eq_some_iff.1 hu
    have hj' : j < len0 := by rw [List.length_map, hl] at hj; exact hj
    rw [List.getElem_map, List.getElem_take] at hu
    rw [← hu, q6 j (by omega), List.getD_eq_getElem?_getD, List.getElem?_eq_getElem (by omega)]
    rfl
end
end Go.Proofs.Ytejpfcomgamhjaa
