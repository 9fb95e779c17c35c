/-
  Own laws: an append that makes a new row, whatever the source (a slice, a string), whatever the old slice is laid as.
-/
import Derived.Test.YtijnjgjpmgmifaaDoorIs
import Derived.Deep.AppendSrc
namespace Go.Proofs.YtijnjgjpmgmifaaDoor
open Go.RowKit
section
variable {P : Program} (w : World)
theorem run_append_src_grows (t tx ty e : TypeId) (i : TypeInfo) (z : Value) (size bytes : Nat) (ht : P.underlying t = some (.slice e)) (hi : P.info? e = some i) (hz : i.zero = some z) (hsize : i.size = size) (hby : i.bytes = bytes) (hzs : z.cells.size = size)
    (A : Option Addr) (n cap : Nat) (olds : List Value) (hlo : olds.length = n * size) (hr : Rd w A olds) (x : Value) (m : Nat) (news : List Value) (hs : Src P size tx x m news w)
    (hg : cap < n + m) (h63 : n + m ≤ maxLen) (hbytes : (n + m) * bytes ≤ 140737488355328) :
    ∃ v' w', (Builtin.append_ #[t, tx] ty #[.slice A n cap, x]).run P w = .ok v' w' ∧ w'.ownsRow w.heap.size e size v' (n + m) (olds ++ news) ∧ w.grownBy w' none := by
  subst hsize
  subst hby
  have hlen : (olds ++ news).length = (n + m) * i.size := by rw [List.length_append, hlo, hs.newsLen, Nat.add_mul]
  have hge := grownCap_ge w (n + m) cap e
  have hcm : grownCap w (n + m) cap e ≤ maxLen := grownCap_le_maxLen w (n + m) cap e h63
  have hold : (Builtin.firstCells i.size n (.slice A n cap)).run P w.drew = .ok olds.toArray w.drew := by
    by_cases he : olds = []
    · subst he
      cases A with
      | none => exact run_firstCells_none w.drew i.size n n cap |>.trans (by simp)
      | some a => exact run_firstCells_some w.drew i.size n a n cap [] hlo (fun j u h => by simp at h)
    · obtain ⟨b, o, rfl, _, hc⟩ := hr he
      refine run_firstCells_some w.drew i.size n ⟨b, o, none⟩ n cap olds hlo fun j u hu => ?_
      rw [Addr.add_lit]
      exact hc j u hu
  have hrun := run_append_grow_src (P := P) w t tx ty e i z ht hi hz A n cap olds hold x m news hs hg (by simp only [maxLen] at h63; omega) (growslice_fits hg hbytes)
  refine ⟨_, _, hrun, ⟨hlen, .inr ⟨w.heap.size, _, _, rfl, Nat.le_refl _, heap_alloc_new w.drew _, hge, hcm, ?_, ?_⟩⟩, ⟨rfl, rfl, rfl, by simp, fun k hk _ => Below.heap_alloc w.drew _ k hk⟩⟩
  · simp only [Array.size_append, List.size_toArray, size_zeroCells, hzs, hlen, ← Nat.add_mul]
    congr 1
    omega
  · simp only [Array.toList_append]
    rw [← hlen]
    exact List.take_left
theorem wpList_append_src_grows {ops : Array Oper} {rest : List Oper} {o : Oper} {a : Act} {Q : Exit → Act → World → Prop} (hgd : o.guard = none) (s y : Operand) (t tx : TypeId)
    (ho : o.op = .call { callee := .builtin .append, args := #[s, y], argTypes := #[t, tx] })
    (e : TypeId) (i : TypeInfo) (z : Value) (size bytes : Nat) (ht : P.underlying t = some (.slice e)) (hi : P.info? e = some i) (hz : i.zero = some z) (hsize : i.size = size) (hby : i.bytes = bytes) (hzs : z.cells.size = size)
    (A : Option Addr) (n cap : Nat) (hsv : a.eval s = .slice A n cap) (olds : List Value) (hlo : olds.length = n * size) (hr : Rd w A olds) (x : Value) (m : Nat) (news : List Value) (hx : a.eval y = x) (hs : Src P size tx x m news w)
    (hg : cap < n + m) (h63 : n + m ≤ maxLen) (hbytes : (n + m) * bytes ≤ 140737488355328)
    (h : ∀ v' w', w'.ownsRow w.heap.size e size v' (n + m) (olds ++ news) → w.grownBy w' none → wpList P ops Q rest (a.put o.dst v') w') : wpList P ops Q (o :: rest) a w :=
  wpList_plain hgd fun _ hK => by
    obtain ⟨v', w', hrun, h2, h3⟩ := run_append_src_grows (P := P) w t tx o.type e i z size bytes ht hi hz hsize hby hzs A n cap olds hlo hr x m news hs hg h63 hbytes
    unfold Oper.wp execOp
    simp only [ho, resolve, invoke, builtin, Sem.run_bind, Sem.run_pure, Result.andThen_ok, List.map_toArray, List.map_cons, List.map_nil, hsv, hx, hrun]
    exact hK _ _ (h v' w' h2 h3)
end
end Go.Proofs.YtijnjgjpmgmifaaDoor
