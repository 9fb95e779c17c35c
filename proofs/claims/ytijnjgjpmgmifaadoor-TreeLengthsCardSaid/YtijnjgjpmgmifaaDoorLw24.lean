/-
  Plain laws of layer 24, in the words of the walks.
-/
import Derived.Test.YtijnjgjpmgmifaaDoorRg
import Derived.Test.YtijnjgjpmgmifaaDoorRx
import Derived.Test.YtijnjgjpmgmifaaDoorEe
namespace Go.Proofs.YtijnjgjpmgmifaaDoor
open Go.RowKit
theorem inclS_lead {r x : Int} {i n : Nat} {path : List Int} (hi : i < n) (hn : n ≤ 4096) : inclS r x i n path = decide (leadO leafF pairF x i n path = some r) := by
  unfold inclS
  rw [if_neg (by omega), Int.toNat_natCast, Int.toNat_natCast, lead_walk n x i path hi]
  rfl
theorem inclS_law {l : List Int} {i : Nat} {x r : Int} (hi : i < l.length) (hn : l.length ≤ 4096) : inclS r x i l.length (inclF l i) = decide (rootF (l.set i x) = r) := by
  rw [inclS_lead hi hn]
  unfold leadO inclF rootF
  rw [lead_incl l.length l rfl i x hi]
  simp
theorem inclS_len {r x : Int} {l : List Int} {i : Nat} {path : List Int} (hi : i < l.length) (hn : l.length ≤ 4096) (h : path.length ≠ (inclF l i).length) : inclS r x i l.length path = false := by
  rw [inclS_lead hi hn]
  unfold leadO
  have h1 := lead_len (lf := leafF) (pr := pairF) l.length x i path
  have h2 := incl_len (lf := leafF) (pr := pairF) l.length l rfl i
  unfold inclF at h
  rw [h1, if_neg (by simp; omega)]
  rfl
theorem growS_O {a b : Int} {m n : Nat} {path : List Int} (h1 : 1 ≤ m) (hm : m ≤ n) (hn : n ≤ 4096) : growS a b m n path = decide (growO pairF a m n true path = some (a, b)) := by
  unfold growS
  rw [if_neg (by omega), Int.toNat_natCast, Int.toNat_natCast]
theorem growO_law {l : List Int} {m : Nat} (h1 : 1 ≤ m) (hm : m ≤ l.length) : growO pairF (rootF (l.take m)) m l.length true (extF l m true) = some (rootF (l.take m), rootF l) := by
  unfold growO extF rootF
  rw [grow_ext l.length l rfl m true _ h1 hm (fun _ => rfl)]
  rfl
theorem growS_law {l : List Int} {m : Nat} (h1 : 1 ≤ m) (hm : m ≤ l.length) (hn : l.length ≤ 4096) : growS (rootF (l.take m)) (rootF l) m l.length (extF l m true) = true := by
  rw [growS_O h1 hm hn, growO_law h1 hm]
  simp
theorem growS_len {a b : Int} {l : List Int} {m : Nat} {path : List Int} (h1 : 1 ≤ m) (hm : m ≤ l.length) (hn : l.length ≤ 4096) (h : path.length ≠ (extF l m true).length) : growS a b m l.length path = false := by
  rw [growS_O h1 hm hn]
  unfold growO
  have h2 := grow_len (pr := pairF) l.length a m true path
  have h3 := ext_len (lf := leafF) (pr := pairF) l.length l rfl m true
  unfold extF at h
  rw [h2, if_neg (by simp; omega)]
  rfl
theorem growS_other {l : List Int} {m : Nat} {o : Int} (h1 : 1 ≤ m) (hm : m ≤ l.length) (hn : l.length ≤ 4096) (h : ¬isPow m ∨ m = l.length) (ho : o ≠ rootF (l.take m)) : growS o (rootF l) m l.length (extF l m true) = false := by
  rw [growS_O h1 hm hn]
  by_cases he : m = l.length
  · have h2 : extF l m true = [] := extF_end (by omega)
    rw [h2, ← he, growO_mark, if_pos rfl]
    rw [List.take_of_length_le (by omega)] at ho
    simp [ho]
  · have hp := h.resolve_right he
    have h2 := growO_other (a := o) (path := extF l m true) h1 hp (show m < l.length by omega)
    have h3 := growO_other (a := rootF (l.take m)) (path := extF l m true) h1 hp (show m < l.length by omega)
    have h4 : growO pairF o m l.length false (extF l m true) = growO pairF (rootF (l.take m)) m l.length false (extF l m true) := by
      unfold growO
      rw [growJ_any l.length o (rootF (l.take m))]
    rw [h2, h4, ← h3, growO_law h1 hm]
    simp
    intro e
    exact absurd e.symm ho
theorem inclF_le {l : List Int} {i : Nat} (h : l.length ≤ 4096) : (inclF l i).length ≤ 12 := by
  unfold inclF
  rw [incl_len l.length l rfl i]
  exact plen_le 12 _ _ h
theorem extF_le {l : List Int} {m : Nat} {mark : Bool} (h : l.length ≤ 4096) : (extF l m mark).length ≤ 13 := by
  unfold extF
  rw [ext_len l.length l rfl m mark]
  exact glen_le 12 _ _ _ h
theorem rootS_ok {l : List Int} (h1 : 1 ≤ l.length) (h2 : l.length ≤ 4096) : rootS l = (rootF l, 0) := by
  have hc : checkS l = 0 := by unfold checkS; rw [if_neg (by omega), if_neg (by omega)]
  unfold rootS
  rw [if_neg (by simp [hc])]
theorem incS_ok {l : List Int} {i : Nat} (h : i < l.length) (h2 : l.length ≤ 4096) : incS l i = (inclF l i, 0) := by
  have hc : checkS l = 0 := by unfold checkS; rw [if_neg (by omega), if_neg (by omega)]
  unfold incS
  rw [if_neg (by simp [hc]), if_neg (by omega), Int.toNat_natCast]
theorem extS_ok {l : List Int} {m : Nat} (h1 : 1 ≤ m) (h : m ≤ l.length) (h2 : l.length ≤ 4096) : extS l m = (extF l m true, 0) := by
  have hc : checkS l = 0 := by unfold checkS; rw [if_neg (by omega), if_neg (by omega)]
  unfold extS
  rw [if_neg (by simp [hc]), if_neg (by omega), Int.toNat_natCast]
theorem rootF_split {l : List Int} (h : 2 ≤ l.length) : rootF l = pairF (rootF (l.take (hf l.length))) (rootF (l.drop (hf l.length))) := rootT_split h
theorem rootF_one (x : Int) : rootF [x] = leafF x := by unfold rootF; rw [rootT_one (by simp)]; rfl
/-! the examples -/
theorem hf2 : hf 2 = 1 := by decide
theorem hf3 : hf 3 = 2 := by decide
theorem e_root2 (x y : Int) : rootF [x, y] = pairF (leafF x) (leafF y) := by
  rw [rootF_split (by simp), show ([x, y] : List Int).length = 2 from rfl, hf2]
  show pairF (rootF [x]) (rootF [y]) = _
  rw [rootF_one, rootF_one]
theorem e_root3 (x y z : Int) : rootF [x, y, z] = pairF (pairF (leafF x) (leafF y)) (leafF z) := by
  rw [rootF_split (by simp), show ([x, y, z] : List Int).length = 3 from rfl, hf3]
  show pairF (rootF [x, y]) (rootF [z]) = _
  rw [rootF_one, e_root2]
theorem e_inc1 (x y z : Int) : inclF [x, y, z] 1 = [leafF x, leafF z] := by
  rw [inclF_left (by simp) (by rw [show ([x, y, z] : List Int).length = 3 from rfl, hf3]; omega), show ([x, y, z] : List Int).length = 3 from rfl, hf3]
  show inclF [x, y] 1 ++ [rootF [z]] = _
  rw [inclF_right (by simp) (by rw [show ([x, y] : List Int).length = 2 from rfl, hf2]; omega), show ([x, y] : List Int).length = 2 from rfl, hf2]
  show (inclF [y] 0 ++ [rootF [x]]) ++ [rootF [z]] = _
  rw [inclF_one (by simp), rootF_one, rootF_one]
  rfl
theorem e_inc2 (x y z : Int) : inclF [x, y, z] 2 = [pairF (leafF x) (leafF y)] := by
  rw [inclF_right (by simp) (by rw [show ([x, y, z] : List Int).length = 3 from rfl, hf3]; omega), show ([x, y, z] : List Int).length = 3 from rfl, hf3]
  show inclF [z] 0 ++ [rootF [x, y]] = _
  rw [inclF_one (by simp), e_root2]
  rfl
theorem e_ext2 (x y z : Int) : extF [x, y, z] 2 true = [leafF z] := by
  rw [extF_left (by simp) (by rw [show ([x, y, z] : List Int).length = 3 from rfl, hf3]; omega), show ([x, y, z] : List Int).length = 3 from rfl, hf3]
  show extF [x, y] 2 true ++ [rootF [z]] = _
  rw [extF_end (by simp), rootF_one]
  rfl
theorem e_ext1 (x y z : Int) : extF [x, y, z] 1 true = [leafF y, leafF z] := by
  rw [extF_left (by simp) (by rw [show ([x, y, z] : List Int).length = 3 from rfl, hf3]; omega), show ([x, y, z] : List Int).length = 3 from rfl, hf3]
  show extF [x, y] 1 true ++ [rootF [z]] = _
  rw [extF_left (by simp) (by rw [show ([x, y] : List Int).length = 2 from rfl, hf2]; omega), show ([x, y] : List Int).length = 2 from rfl, hf2]
  show (extF [x] 1 true ++ [rootF [y]]) ++ [rootF [z]] = _
  rw [extF_end (by simp), if_pos rfl, rootF_one, rootF_one]
  rfl
theorem e_ext3 (x y z : Int) : extF [x, y, z] 3 true = [] := extF_end (by simp)
end Go.Proofs.YtijnjgjpmgmifaaDoor
