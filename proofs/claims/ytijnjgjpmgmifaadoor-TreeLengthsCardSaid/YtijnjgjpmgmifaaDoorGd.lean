/-
  Own laws for appends in regions whose order is drawn, where the operations may be guarded.
-/
import Derived.Test.YtijnjgjpmgmifaaDoorLx24
import Derived.Deep.RegionHeld3
namespace Go.Proofs.YtijnjgjpmgmifaaDoor
open Go.RowKit
theorem step_append_rdg {P : Program} {ops : Array Oper} {o : Oper} {a : Act} {w : World} {K : Act → World → Prop} {Q : Exit → Act → World → Prop} {E : Prop} (hw : Region.wanted o (yielded ops a.tmps) = true) (s x : Operand) (t : TypeId)
    (ho : o.op = .call { callee := .builtin .append, args := #[s, x], argTypes := #[t, t] })
    (base : Nat) (e : TypeId) (i : TypeInfo) (z : Value) (size bytes : Nat) (ht : P.underlying t = some (.slice e)) (hi : P.info? e = some i) (hz : i.zero = some z)
    (hsize : i.size = size) (hby : i.bytes = bytes) (hzs : z.cells.size = size) (hsz : 0 < size)
    (v : Value) (n : Nat) (xs : List Value) (hs : a.eval s = v) (hown : w.ownsRow base e size v n xs)
    (A : Option Addr) (m c : Nat) (news : List Value) (hx : a.eval x = .slice A m c) (hl : news.length = m * size) (hr : Rd w A news) (h1 : ∀ u ∈ news, u.oneCell' = true)
    (h63 : n + m ≤ maxLen) (hbytes : (n + m) * bytes ≤ 140737488355328) (hbase : base ≤ w.heap.size)
    (h : ∀ v' w', w'.ownsRow base e size v' (n + m) (xs ++ news) → w.grownBy w' v.ownBlock → (v'.ownBlock = v.ownBlock ∨ v'.ownBlock = some w.heap.size) → K (a.put o.dst v') w') :
    if Region.wanted o (yielded ops a.tmps) = true then Oper.wp P o a w K Q else E := by
  rw [if_pos hw]
  exact wp_append_rd w s x t ho base e i z size bytes ht hi hz hsize hby hzs hsz v n xs hs hown A m c news hx hl hr h1 h63 hbytes hbase h
theorem bnd1 {n : Nat} (h : n ≤ 100000) : n ≤ maxLen := by simp only [maxLen]; omega
theorem bnd2 {n : Nat} (h : n ≤ 100000) : n * 8 ≤ 140737488355328 := by omega
/-- an empty row, made just now -/
theorem made0 {W : World} {base : Nat} {e : TypeId} (h : base ≤ W.heap.size) : (W.alloc (.cells #[] e)).ownsRow base e 1 (.slice (some ⟨W.heap.size, 0, none⟩) 0 0) 0 [] :=
  ⟨rfl, .inr ⟨W.heap.size, 0, #[], rfl, h, heap_alloc_new W _, Nat.le_refl _, by simp [maxLen], rfl, rfl⟩⟩
theorem made0b {W9 W : World} {base : Nat} {e f : TypeId} {cs : Array Value} (h : base ≤ W9.heap.size) (h' : W9.heap.size ≤ W.heap.size) : ((W.alloc (.cells cs f)).alloc (.cells #[] e)).ownsRow base e 1 (.slice (some ⟨W.heap.size + 1, 0, none⟩) 0 0) 0 [] := by
  have := made0 (W := W.alloc (.cells cs f)) (base := base) (e := e) (by rw [World.size_alloc]; omega)
  rw [World.size_alloc] at this
  exact this
/-- a row of one digest, made just now -/
theorem made1 {W : World} {base : Nat} {e : TypeId} {x : Int} (h : base ≤ W.heap.size) : (W.alloc (.cells #[.int .u64 x] e)).ownsRow base e 1 (.slice (some ⟨W.heap.size, 0, none⟩) 1 1) 1 [.int .u64 x] :=
  ⟨rfl, .inr ⟨W.heap.size, 1, #[.int .u64 x], rfl, h, heap_alloc_new W _, Nat.le_refl _, by simp [maxLen], rfl, rfl⟩⟩
theorem made_ge {W : World} {base n c : Nat} (h : base ≤ W.heap.size) : ∀ g, (Value.slice (some ⟨W.heap.size, 0, none⟩) n c).ownBlock = some g → base ≤ g := fun g hg => by
  simp [Value.ownBlock] at hg; omega
theorem made_geb {W : World} {base n c : Nat} (h : base ≤ W.heap.size) : ∀ g, (Value.slice (some ⟨W.heap.size + 1, 0, none⟩) n c).ownBlock = some g → base ≤ g := fun g hg => by
  simp [Value.ownBlock] at hg; omega
theorem keepC {W w' : World} {b o : Nat} {v : Value} (hb : Below W.heap.size W w') (hl : b < W.heap.size) (hc : W.cell? ⟨b, o, none⟩ = some v) : Below W.heap.size W w' ∧ w'.cell? ⟨b, o, none⟩ = some v :=
  ⟨hb, (hb.cell (p := ⟨b, o, none⟩) hl).trans hc⟩
end Go.Proofs.YtijnjgjpmgmifaaDoor
