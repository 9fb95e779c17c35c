/-
  Slices of integers of one kind.
-/
import Derived.Test.YtijnjgjpmgmifaaDoorBase
namespace Go.Proofs.YtijnjgjpmgmifaaDoor
open Go.RowKit
/-- a slice that reads as integers of a kind -/
def KS (k : IntKind) (w : World) (A : Option Addr) (l : List Int) : Prop := Rd w A (l.map (Value.int k))
section
variable {k : IntKind} {w w' : World} {A : Option Addr} {l : List Int}
theorem KS.below {B : Nat} (h : KS k w A l) (hb : Below B w w') (hB : w.heap.size ≤ B) : KS k w' A l := Rd.below h hb hB
theorem KS.alloc (h : KS k w A l) (o : Obj) : KS k (w.alloc o) A l := h.below ((Below.refl _ _).alloc (Nat.le_refl _) _) (Nat.le_refl _)
theorem KS.drew (h : KS k w A l) : KS k w.drew A l := h.below (Below.refl _ _).drew (Nat.le_refl _)
theorem KS.then_ (h : KS k w A l) (hb : Below w.heap.size w w') : KS k w' A l := h.below hb (Nat.le_refl _)
theorem KS.at_ (h : KS k w A l) {i : Nat} (hk : i < l.length) : ∃ b o, A = some ⟨b, o, none⟩ ∧ b < w.heap.size ∧ ∀ i (hi : i < l.length), w.cell? ⟨b, o + i, none⟩ = some (.int k l[i]) := by
  obtain ⟨b, o, rfl, hb, hc⟩ := h (by intro e; have := congrArg List.length e; simp at this; subst this; simp at hk)
  exact ⟨b, o, rfl, hb, fun i hi => hc i _ (by rw [List.getElem?_map, List.getElem?_eq_getElem hi]; rfl)⟩
theorem KS.nil_of (h : KS k w none l) : l = [] := by
  cases l with
  | nil => rfl
  | cons x l => obtain ⟨b, o, h1, _⟩ := KS.at_ h (i := 0) (by simp); cases h1
theorem KS.pre (h : KS k w A l) (n : Nat) : KS k w A (l.take n) := Rd.take h ⟨(l.drop n).map (Value.int k), by rw [← List.map_append, List.take_append_drop]⟩
theorem KS.shift {b o : Nat} (h : KS k w (some ⟨b, o, none⟩) l) {n : Nat} (hn : n ≤ l.length) : KS k w (some ⟨b, o + n, none⟩) (l.drop n) := by
  unfold KS at h ⊢
  rw [← List.take_append_drop n l, List.map_append] at h
  have := Rd.shift h
  rw [List.length_map, List.length_take, Nat.min_eq_left hn] at this
  exact this
/-- a row that the call has made -/
def OwnK (k : IntKind) (e : TypeId) (w : World) (base : Nat) (v : Value) (l : List Int) : Prop := w.ownsRow base e 1 v l.length (l.map (Value.int k))
variable {e : TypeId} {base : Nat} {v : Value}
theorem OwnK.form (h : OwnK k e w base v l) : ∃ A c, v = .slice A l.length c ∧ l.length ≤ c ∧ c ≤ maxLen ∧ KS k w A l := own_form h
theorem OwnK.nil : OwnK k e w base (.slice none 0 0) [] := World.ownsRow_nil _ _ _ _
theorem OwnK.below (h : OwnK k e w base v l) (hb : Below w.heap.size w w') : OwnK k e w' base v l := by
  refine ⟨h.1, ?_⟩
  rcases h.2 with h2 | ⟨g, cap, cur, hv, hg, hh, r⟩
  · exact .inl h2
  · exact .inr ⟨g, cap, cur, hv, hg, (hb.block g (Array.getElem?_eq_some_iff.1 hh).1).trans hh, r⟩
theorem OwnK.snoc {n : Nat} {x : Int} {cs : List Value} (h : w.ownsRow base e 1 v (n + 1) (cs ++ [.int k x])) (hn : n = l.length) (hc : cs = l.map (Value.int k)) : OwnK k e w base v (l ++ [x]) := by
  subst hn; subst hc; simpa [OwnK] using h
theorem OwnK.app {n : Nat} {l' : List Int} {cs : List Value} (h : w.ownsRow base e 1 v n cs) (hn : n = (l ++ l').length) (hc : cs = l.map (Value.int k) ++ l'.map (Value.int k)) : OwnK k e w base v (l ++ l') := by
  subst hn; subst hc; simpa [OwnK] using h
theorem kone (l : List Int) : ∀ u ∈ l.map (Value.int k), u.oneCell' = true := by
  intro u hu
  obtain ⟨n, _, rfl⟩ := List.mem_map.1 hu
  rfl
end
end Go.Proofs.YtijnjgjpmgmifaaDoor
