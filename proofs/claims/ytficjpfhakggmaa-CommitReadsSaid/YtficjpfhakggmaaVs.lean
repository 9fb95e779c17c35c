/-
  Versions as plain data: what a slice of them reads as.
-/
import Derived.Test.YtficjpfhakggmaaBase
namespace Go.Proofs.Ytficjpfhakggmaa
open Go.RowKit
/-- a version -/
structure Ver where
  key : Int
  ts : Int
  value : Int
  gone : Bool
  deriving DecidableEq
def Ver.cells (v : Ver) : List Value := [.int .i64 v.key, .int .i64 v.ts, .int .i64 v.value, .bool v.gone]
def Ver.val (v : Ver) : Value := .agg #[.int .i64 v.key, .int .i64 v.ts, .int .i64 v.value, .bool v.gone]
def Ver.zero : Ver := ⟨0, 0, 0, false⟩
/-- a slice that reads as versions -/
def VS (w : World) (A : Option Addr) (l : List Ver) : Prop := Rd w A (l.flatMap Ver.cells)
theorem flat_get {α : Type} (f : α → List Value) (m : Nat) (hm : ∀ x, (f x).length = m) : ∀ (l : List α) (k j : Nat) (hk : k < l.length), j < m → (l.flatMap f)[k * m + j]? = (f l[k])[j]?
  | [], k, j, hk, _ => absurd hk (Nat.not_lt_zero _)
  | x :: l, 0, j, _, hj => by
    rw [List.flatMap_cons, Nat.zero_mul, Nat.zero_add, List.getElem?_append_left (by rw [hm]; exact hj)]; rfl
  | x :: l, k + 1, j, hk, hj => by
    rw [List.flatMap_cons, List.getElem?_append_right (by rw [hm, Nat.add_mul]; omega), hm]
    have := flat_get f m hm l k j (by simpa using hk) hj
    rw [← show (k + 1) * m + j - m = k * m + j from by rw [Nat.add_mul]; omega] at this
    exact this
theorem flat_len {α : Type} (f : α → List Value) (m : Nat) (hm : ∀ x, (f x).length = m) (l : List α) : (l.flatMap f).length = l.length * m := by
  induction l with
  | nil => simp
  | cons x l ih => rw [List.flatMap_cons, List.length_append, ih, hm, List.length_cons, Nat.add_mul]; omega
theorem VS.below {w w' : World} {A : Option Addr} {l : List Ver} {B : Nat} (h : VS w A l) (hb : Below B w w') (hB : w.heap.size ≤ B) : VS w' A l := Rd.below h hb hB
theorem VS.alloc {w : World} {A : Option Addr} {l : List Ver} (h : VS w A l) (o : Obj) : VS (w.alloc o) A l := h.below ((Below.refl _ _).alloc (Nat.le_refl _) _) (Nat.le_refl _)
theorem VS.drew {w : World} {A : Option Addr} {l : List Ver} (h : VS w A l) : VS w.drew A l := h.below (Below.refl _ _).drew (Nat.le_refl _)
/-- four cells that hold a version -/
def VAt (w : World) (b o : Nat) (v : Ver) : Prop :=
  w.cell? ⟨b, o, none⟩ = some (.int .i64 v.key) ∧ w.cell? ⟨b, o + 1, none⟩ = some (.int .i64 v.ts) ∧ w.cell? ⟨b, o + 2, none⟩ = some (.int .i64 v.value) ∧ w.cell? ⟨b, o + 3, none⟩ = some (.bool v.gone)
theorem VAt.lt {w : World} {b o : Nat} {v : Ver} (h : VAt w b o v) : b < w.heap.size := by
  rcases Nat.lt_or_ge b w.heap.size with hlt | hge
  · exact hlt
  · have := h.1
    unfold World.cell? at this
    simp [Array.getElem?_eq_none hge] at this
theorem VAt.below {w w' : World} {b o B : Nat} {v : Ver} (h : VAt w b o v) (hb : Below B w w') (hB : b < B) : VAt w' b o v :=
  ⟨(hb.cell (p := ⟨b, o, none⟩) hB).trans h.1, (hb.cell (p := ⟨b, o + 1, none⟩) hB).trans h.2.1, (hb.cell (p := ⟨b, o + 2, none⟩) hB).trans h.2.2.1, (hb.cell (p := ⟨b, o + 3, none⟩) hB).trans h.2.2.2⟩
theorem VAt.fut {w : World} {b o B : Nat} {v : Ver} (h : VAt w b o v) (hB : b < B) (x : Fut B w) : VAt x.v b o v := h.below x.h hB
theorem keepV {W w' : World} {r : Nat} {v : Ver} (hq : Below W.heap.size W w') (hr : r < W.heap.size) (n : VAt W r 0 v) : Below W.heap.size W w' ∧
    w'.cell? ⟨r, 0, none⟩ = some (.int .i64 v.key) ∧ w'.cell? ⟨r, 1, none⟩ = some (.int .i64 v.ts) ∧ w'.cell? ⟨r, 2, none⟩ = some (.int .i64 v.value) ∧ w'.cell? ⟨r, 3, none⟩ = some (.bool v.gone) :=
  ⟨hq, (n.below hq hr).1, (n.below hq hr).2.1, (n.below hq hr).2.2.1, (n.below hq hr).2.2.2⟩
theorem VAt.new {w W : World} {v : Ver} {t : TypeId} (hW : w.alloc (.cells #[.int .i64 v.key, .int .i64 v.ts, .int .i64 v.value, .bool v.gone] t) = W) : VAt W w.heap.size 0 v := by
  subst hW
  refine ⟨?_, ?_, ?_, ?_⟩ <;> (rw [cell_at _ _ _ _ _ rfl]; rfl)
/-- where an element is read -/
theorem VS.at_ {w : World} {A : Option Addr} {l : List Ver} (h : VS w A l) {k : Nat} (hk : k < l.length) : ∃ b o, A = some ⟨b, o, none⟩ ∧ b < w.heap.size ∧
    ∀ i (hi : i < l.length), VAt w b (o + i * 4) l[i] := by
  have hl : l.flatMap Ver.cells ≠ [] := by
    intro e
    have := flat_len Ver.cells 4 (fun _ => rfl) l
    rw [e] at this
    simp only [List.length_nil] at this
    omega
  obtain ⟨b, o, rfl, hb, hc⟩ := h hl
  refine ⟨b, o, rfl, hb, fun i hi => ?_⟩
  have hg := fun j hj => flat_get Ver.cells 4 (fun _ => rfl) l i j hi hj
  refine ⟨?_, ?_, ?_, ?_⟩
  · have := hc (i * 4 + 0) _ (by rw [hg 0 (by omega)]; rfl); simpa using this
  · have := hc (i * 4 + 1) _ (by rw [hg 1 (by omega)]; rfl); simpa [Nat.add_assoc] using this
  · have := hc (i * 4 + 2) _ (by rw [hg 2 (by omega)]; rfl); simpa [Nat.add_assoc] using this
  · have := hc (i * 4 + 3) _ (by rw [hg 3 (by omega)]; rfl); simpa [Nat.add_assoc] using this
theorem VS.shift {w : World} {b o i : Nat} {l : List Ver} (h : VS w (some ⟨b, o, none⟩) l) (hi : i ≤ l.length) : VS w (some ⟨b, o + i * 4, none⟩) (l.drop i) := by
  have e : l.flatMap Ver.cells = (l.take i).flatMap Ver.cells ++ (l.drop i).flatMap Ver.cells := by rw [← List.flatMap_append, List.take_append_drop]
  have hl : ((l.take i).flatMap Ver.cells).length = i * 4 := by rw [flat_len Ver.cells 4 (fun _ => rfl), List.length_take, Nat.min_eq_left hi]
  unfold VS at h ⊢
  rw [e] at h
  have := Rd.shift h
  rw [hl] at this
  exact this
theorem VS.pre {w : World} {A : Option Addr} {i : Nat} {l : List Ver} (h : VS w A l) : VS w A (l.take i) := Rd.take h (take_flat Ver.cells l i)
def wfB (v : Ver) : Bool := decide (1 ≤ v.key) && decide (v.key ≤ 1000) && (decide (1 ≤ v.ts) && decide (v.ts ≤ 3000000000000000)) && (decide (0 ≤ v.value) && decide (v.value ≤ 1000000)) && (!v.gone || v.value == 0)
end Go.Proofs.Ytficjpfhakggmaa
