/-
  The walks of slices.Clone and slices.Insert at versions.
-/
import Derived.Test.YtficjpfhakggmaaVer
namespace Go.Proofs.Ytficjpfhakggmaa
open Go.RowKit
theorem infoV : (Try.prog.info? 44).map (fun i => (i.zero, i.size, i.bytes)) = some (some (.agg #[.int .i64 0, .int .i64 0, .int .i64 0, .bool false]), 4, 32) := by kernel_rfl
theorem ver_one (l : List Ver) : ∀ u ∈ l.flatMap Ver.cells, u.oneCell' = true := by
  intro u hu
  obtain ⟨v, _, hv⟩ := List.mem_flatMap.1 hu
  simp only [Ver.cells, List.mem_cons, List.not_mem_nil, or_false] at hv
  rcases hv with rfl | rfl | rfl | rfl <;> rfl
/-- a row of versions that the call has made -/
def OwnV (w : World) (base : Nat) (v : Value) (l : List Ver) : Prop := w.ownsRow base 44 4 v l.length (l.flatMap Ver.cells)
theorem OwnV.form {w : World} {base : Nat} {v : Value} {l : List Ver} (h : OwnV w base v l) : ∃ A c, v = .slice A l.length c ∧ l.length ≤ c ∧ c ≤ maxLen ∧ VS w A l := own_form h
theorem OwnV.snoc {w : World} {base n : Nat} {v : Value} {l : List Ver} {x : Ver} {cs : List Value} (h : w.ownsRow base 44 4 v (n + 1) (cs ++ x.cells)) (hn : n = l.length) (hc : cs = l.flatMap Ver.cells) : OwnV w base v (l ++ [x]) := by
  subst hn; subst hc; simpa [OwnV] using h
theorem OwnV.app {w : World} {base n : Nat} {v : Value} {l l' : List Ver} {cs : List Value} (h : w.ownsRow base 44 4 v n cs) (hn : n = (l ++ l').length) (hc : cs = l.flatMap Ver.cells ++ l'.flatMap Ver.cells) : OwnV w base v (l ++ l') := by
  subst hn; subst hc; simpa [OwnV] using h
theorem OwnV.blk {w : World} {base : Nat} {A : Option Addr} {n c : Nat} {l : List Ver} (h : OwnV w base (.slice A n c) l) {a : Addr} (ha : A = some a) : base ≤ a.block ∧ a.block < w.heap.size := by
  subst ha
  exact h.lt _ rfl
theorem OwnV.below {w w' : World} {base : Nat} {v : Value} {l : List Ver} (h : OwnV w base v l) (hb : Below w.heap.size w w') : OwnV w' base v l := by
  refine ⟨h.1, ?_⟩
  rcases h.2 with h2 | ⟨g, cap, cur, hv, hg, hh, r⟩
  · exact .inl h2
  · exact .inr ⟨g, cap, cur, hv, hg, (hb.block g (Array.getElem?_eq_some_iff.1 hh).1).trans hh, r⟩
set_option maxHeartbeats 1000000 in
theorem cloneV_any (A : Option Addr) (c : Nat) (l : List Ver) (w : World) (hn : l.length ≤ 4000) (h : VS w A l) :
    Calls Try.prog 50 #[.slice A l.length c] w fun e w' => ∃ v, e = .returned v ∧ OwnV w' w.heap.size v l ∧ Below w.heap.size w w' := by
  obtain ⟨i0, hi, hz0, hz1, hz2⟩ := info_parts infoV
  have hne := fun w' => Lib.run_eql_slice_nil (P := Try.prog) w' 22 44 A l.length c 0 0 Try.underlying22
  cases hA : A.isNone
  · rw [hA] at hne
    go_enter Try.func50, Try.ntmps50
    go_wp2_with (at_builtin; refine wpList_append_rd _ rfl _ _ 22 rfl w.heap.size 44 i0 _ 4 32 Try.underlying22 hi hz0 hz1 hz2 rfl (by decide) _ 0 [] rfl (World.ownsRow_made w #[] 0 (Nat.le_refl _) (by simp [maxLen]) rfl) A l.length c (l.flatMap Ver.cells) rfl (flat_len _ 4 (fun _ => rfl) l) (h.alloc _) (ver_one l) ?_ ?_ ?_ ?_)
    · simp only [maxLen]; omega
    · omega
    · simp
    · intro v1 w1 ho hg _
      go_wp2
      go_ret
      refine ⟨v1, rfl, by simpa [OwnV] using ho, ((Below.refl _ _).alloc (Nat.le_refl _) _).grown hg (by simp) (fun k hk => by simp [Value.ownBlock] at hk; omega)⟩
  · rw [hA] at hne
    obtain rfl : A = none := by simpa using hA
    have hl : l = [] := by
      cases l with
      | nil => rfl
      | cons x l => obtain ⟨b, o, h1, _⟩ := VS.at_ h (k := 0) (by simp); cases h1
    subst hl
    simp only [List.length_nil] at hne
    go_enter Try.func50, Try.ntmps50
    go_wp2
    go_ret
    exact ⟨.slice none 0 0, rfl, World.ownsRow_nil _ _ _ _, Below.refl _ _⟩
end Go.Proofs.Ytficjpfhakggmaa
