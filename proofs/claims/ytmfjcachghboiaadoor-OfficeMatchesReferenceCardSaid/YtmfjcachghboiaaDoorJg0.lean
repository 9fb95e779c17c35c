/-
  Texts joined: Base, Fn, Ml, Gp, Vc, Vx, Sf, Tb, Is, Dg, Aps, Copy, Dh, Dn, Dt, Au, Dp.
-/
import Derived.WalkKit
import Derived.WalkSpells
import Derived.WalkLawsBesides
import Derived.Deep.QuietTactic
import Derived.BigQuiet
import Derived.Deep.RegionHeld3
import Derived.Deep.DeepCutAuto
import Derived.Maps.AppendAt
import Derived.RegionTactic
import Derived.OwnWalk
import Derived.Lib.RabinKarpLaws
import Derived.Laws.Concat
import Derived.Shelf.Small.Bits
import Derived.Shelf.Strconv.Itoa0
import Derived.Shelf.Strconv.Itoa1
import Derived.Shelf.LaysM
import Derived.Shelf.Strconv.Itoa2
import Derived.Shelf.Strconv.AppendUint10
import Derived.Shelf.Strconv.AppendInt10
import Derived.Shelf.Strconv.AppendIntPublic10
import Derived.Test.YtmfjcachghboiaaDoorProg
import Derived.Deep.AppendSrc
import Derived.Laws.CopyOwn
import Derived.StillTailTactics
import Derived.Deep.RegionLaw
import Derived.Lib.ItoaMem
import Derived.Lib.ItoaLen
import Derived.Lib.Walk
import Derived.Lib.ItoaWalk
import Derived.Lib.AppendIntMem
import Derived.Lib.Slices
import Derived.Lib.Hide
import Derived.Sort.Row
namespace Go.Proofs.YtmfjcachghboiaaDoor
open Go.RowKit
theorem hide {p : Prop} (h : p) : Hid p := h
structure Fut (B : Nat) (w : World) where
 v : World
 h : Below B w v
instance (B : Nat) (w : World) : Inhabited (Fut B w) := ⟨⟨w, Below.refl B w⟩⟩
theorem wp_region_fut {P : Program} {id : Nat} {Q : Exit → Act → World → Prop} {a : Act} {w : World} {l : List Oper} (B : Nat) (hm : P.follows .mixedOrders = true) (hB : Region.lexB .any l.toArray = true)
  (h : wpQuiet P l.toArray (fun w' => ∃ x : Fut B w, w' = x.v) (fun a' => ∀ w', (∃ x : Fut B w, w' = x.v) → Q .normal a' w') l a) : (Code.region id l.toArray true).wp P Q a w :=
 wp_region_quiet (C := fun w' => ∃ x : Fut B w, w' = x.v) hm hB ⟨⟨_, (Below.refl B w).drew⟩, rfl⟩ (by simpa using h)
theorem Fut.call {P : Program} {f : FuncId} {args : Array Value} {B : Nat} {w : World} {x : Fut B w} {v : Value} (hB : B ≤ w.heap.size)
  (h : Calls P f args x.v fun e w' => e = .returned v ∧ Below x.v.heap.size x.v w') : Calls P f args x.v fun e w' => e = .returned v ∧ ∃ y : Fut B w, w' = y.v :=
 h.mono fun _ w' ⟨he, hb⟩ => ⟨he, ⟨w', x.h.trans (hb.mono (Nat.le_trans hB x.h.size))⟩, rfl⟩
theorem Fut.same {P : Program} {f : FuncId} {args : Array Value} {B : Nat} {w : World} {x : Fut B w} {v : Value}
  (h : Calls P f args x.v fun e w' => e = .returned v ∧ x.v = w') : Calls P f args x.v fun e w' => e = .returned v ∧ ∃ y : Fut B w, w' = y.v :=
 h.mono fun _ _ ⟨he, hb⟩ => ⟨he, x, hb.symm⟩
theorem Fut.cell {B : Nat} {w : World} (x : Fut B w) (b o : Nat) (h : b < B) : x.v.cell? ⟨b, o, none⟩ = w.cell? ⟨b, o, none⟩ := x.h.cell (p := ⟨b, o, none⟩) h
theorem cell_at (w : World) (cs : Array Value) (t : TypeId) (r i : Nat) (h : r = w.heap.size) : (w.alloc (.cells cs t)).cell? ⟨r, i, none⟩ = cs[i]? := by
 subst h; exact cell_of_row _ _ _ cs t (0, 0) (heap_alloc_new w _)
theorem Fut.of {B : Nat} {w w' : World} (h : ∃ x : Fut B w, w' = x.v) : Below B w w' := by
 obtain ⟨x, rfl⟩ := h; exact x.h
def Blk (w : World) (g : Nat) (t : TypeId) (cs : Array Value) : Prop := w.heap[g]? = some (.cells cs t (0, 0))
section
variable {w w' : World} {g : Nat} {t : TypeId} {cs : Array Value}
theorem Blk.lt (h : Blk w g t cs) : g < w.heap.size := by
 rcases Nat.lt_or_ge g w.heap.size with hlt | hge
 ·exact hlt
 ·unfold Blk at h; rw [Array.getElem?_eq_none hge] at h; cases h
theorem Blk.cell (h : Blk w g t cs) (i : Nat) : w.cell? ⟨g, i, none⟩ = cs[i]? := cell_of_row w g i cs t (0, 0) h
theorem Blk.frozen (h : Blk w g t cs) (i : Nat) : w.frozen? ⟨g, i, none⟩ = false := by
 unfold Blk at h
 simp [World.frozen?, h]
theorem Blk.new (w : World) (t : TypeId) (cs : Array Value) : Blk (w.alloc (.cells cs t)) w.heap.size t cs := heap_alloc_new w _
theorem Blk.drew (h : Blk w g t cs) : Blk w.drew g t cs := h
theorem Blk.drewN (h : Blk w g t cs) (n : Nat) : Blk (w.drewN n) g t cs := h
theorem Blk.alloc (h : Blk w g t cs) (o : Obj) : Blk (w.alloc o) g t cs := (Below.heap_alloc w o g h.lt).trans h
theorem Blk.set_ (h : Blk w g t cs) (i : Nat) (u : Value) : Blk (w.setCell ⟨g, i, none⟩ u) g t (cs.setIfInBounds i u) := by
 unfold Blk at h ⊢
 simp [World.setCell, Array.getElem?_modify, h]
theorem Blk.below {B : Nat} (h : Blk w g t cs) (hb : Below B w w') (hg : g < B) : Blk w' g t cs := (hb.block g hg).trans h
end
section
variable {P : Program} {fn : Func} {p u v : Tmp} {ty : TypeId}
theorem results_blk1 (h : fn.results = #[.cell p ty]) (tmps : Array Value) (w : World) (g : Nat) (t : TypeId) (cs : Array Value) (d : TypeDesc)
  (hp : tmps.getD p undef = .pointer (some ⟨g, 0, none⟩)) (hg : Blk w g t cs) (hu : P.underlying ty = some d) (hd : (match d with | .struct _ | .array _ _ => true | _ => false) = true) (hi : (P.info? ty).map (·.size) = some cs.size) :
  (results fn tmps).run P w = .ok (.agg cs) w := results_cell_row h tmps w g t cs (0, 0) d hp hg hu hd hi
end
def Rd (w : World) (A : Option Addr) (cs : List Value) : Prop :=
 cs ≠ [] → ∃ b o, A = some ⟨b, o, none⟩ ∧ b < w.heap.size ∧ ∀ j u, cs[j]? = some u → w.cell? ⟨b, o + j, none⟩ = some u
theorem Rd.nil (w : World) (A : Option Addr) : Rd w A [] := fun h => absurd rfl h
theorem Rd.below {w w' : World} {A : Option Addr} {cs : List Value} {B : Nat} (h : Rd w A cs) (hb : Below B w w') (hB : w.heap.size ≤ B) : Rd w' A cs := fun hn => by
 obtain ⟨b, o, rfl, hlt, hc⟩ := h hn; exact ⟨b, o, rfl, Nat.lt_of_lt_of_le hlt hb.size, fun j u hu => (hb.cell (p := ⟨b, o + j, none⟩) (by show b < B; omega)).trans (hc j u hu)⟩
section
variable {P : Program} (w : World)
theorem run_append_nil2 (base : Nat) (t ty e : TypeId) (i : TypeInfo) (size : Nat) (ht : P.underlying t = some (.slice e)) (hi : P.info? e = some i)
  (v : Value) (n : Nat) (xs : List Value) (hown : w.ownsRow base e size v n xs) (A : Option Addr) (c : Nat) : (Builtin.append_ #[t, t] ty #[v, .slice A 0 c]).run P w = .ok v w := by
 rcases hown.2 with ⟨rfl, rfl⟩ | ⟨g, cap, cur, rfl, _, _, hnc, _⟩
 ·cases A <;> simp [Builtin.append_, run_underlying ht, sizeOf, typeInfo, hi, Builtin.lenOf, Builtin.firstCells, loadCells, loadCellsFrom]
 ·cases A <;> simp [Builtin.append_, run_underlying ht, sizeOf, typeInfo, hi, Builtin.lenOf, Builtin.firstCells, hnc, storeCells, loadCells, loadCellsFrom]
theorem run_append_rd (base : Nat) (t ty e : TypeId) (i : TypeInfo) (z : Value) (size bytes : Nat) (ht : P.underlying t = some (.slice e)) (hi : P.info? e = some i) (hz : i.zero = some z)
  (hsize : i.size = size) (hby : i.bytes = bytes) (hzs : z.cells.size = size) (hsz : 0 < size)
  (v : Value) (n : Nat) (xs : List Value) (hown : w.ownsRow base e size v n xs)
  (A : Option Addr) (m c : Nat) (news : List Value) (hl : news.length = m * size) (hr : Rd w A news) (h1 : ∀ u ∈ news, u.oneCell' = true)
  (h63 : n + m ≤ maxLen) (hbytes : (n + m) * bytes ≤ 140737488355328) (hbase : base ≤ w.heap.size) :
  ∃ v' w', (Builtin.append_ #[t, t] ty #[v, .slice A m c]).run P w = .ok v' w' ∧ w'.ownsRow base e size v' (n + m) (xs ++ news) ∧ w.grownBy w' v.ownBlock ∧
   (v'.ownBlock = v.ownBlock ∨ v'.ownBlock = some w.heap.size) := by
 rcases Nat.eq_zero_or_pos m with h0 | h0
 ·subst h0; have hn : news = [] := List.eq_nil_of_length_eq_zero (by simpa using hl); subst hn; exact ⟨v, w, run_append_nil2 w base t ty e i size ht hi v n xs hown A c, by simpa using hown, World.grownBy.refl w _, .inl rfl⟩
 ·have hne : news ≠ [] := by
   intro h; rw [h] at hl; have := Nat.mul_pos h0 hsz; simp only [List.length_nil] at hl; omega
  obtain ⟨b, o, rfl, _, hc⟩ := hr hne; have hcells : ∀ j u, news[j]? = some u → w.cell? ((⟨b, o, none⟩ : Addr).add j) = some u := fun j u hu => by
   have : (⟨b, o, none⟩ : Addr).add j = ⟨b, o + j, none⟩ := by unfold Addr.add; split <;> simp_all
   rw [this]; exact hc j u hu
  obtain ⟨v', w', hrun, h2, h3, _, h5⟩ := run_append_own_at (P := P) w base t ty e i z size bytes ht hi hz hsize hby hzs hsz v n xs hown ⟨b, o, none⟩ m c news hl hcells h1 h63 hbytes hbase; exact ⟨v', w', hrun, h2, h3, h5⟩
theorem wp_append_rd {o : Oper} {a : Act} {K : Act → World → Prop} {Q : Exit → Act → World → Prop} (s x : Operand) (t : TypeId)
  (ho : o.op = .call { callee := .builtin .append, args := #[s, x], argTypes := #[t, t] })
  (base : Nat) (e : TypeId) (i : TypeInfo) (z : Value) (size bytes : Nat) (ht : P.underlying t = some (.slice e)) (hi : P.info? e = some i) (hz : i.zero = some z)
  (hsize : i.size = size) (hby : i.bytes = bytes) (hzs : z.cells.size = size) (hsz : 0 < size)
  (v : Value) (n : Nat) (xs : List Value) (hs : a.eval s = v) (hown : w.ownsRow base e size v n xs)
  (A : Option Addr) (m c : Nat) (news : List Value) (hx : a.eval x = .slice A m c) (hl : news.length = m * size) (hr : Rd w A news) (h1 : ∀ u ∈ news, u.oneCell' = true)
  (h63 : n + m ≤ maxLen) (hbytes : (n + m) * bytes ≤ 140737488355328) (hbase : base ≤ w.heap.size)
  (h : ∀ v' w', w'.ownsRow base e size v' (n + m) (xs ++ news) → w.grownBy w' v.ownBlock → (v'.ownBlock = v.ownBlock ∨ v'.ownBlock = some w.heap.size) → K (a.put o.dst v') w') : o.wp P a w K Q := by
 obtain ⟨v', w', hrun, h2, h3, h4⟩ := run_append_rd (P := P) w base t o.type e i z size bytes ht hi hz hsize hby hzs hsz v n xs hown A m c news hl hr h1 h63 hbytes hbase; unfold Oper.wp execOp; simp only [ho, resolve, invoke, builtin, Sem.run_bind, Sem.run_pure, Result.andThen_ok, List.map_toArray, List.map_cons, List.map_nil, hs, hx, hrun]; exact h v' w' h2 h3 h4
theorem wpList_append_rd {ops : Array Oper} {rest : List Oper} {o : Oper} {a : Act} {Q : Exit → Act → World → Prop} (hgd : o.guard = none) (s x : Operand) (t : TypeId)
  (ho : o.op = .call { callee := .builtin .append, args := #[s, x], argTypes := #[t, t] })
  (base : Nat) (e : TypeId) (i : TypeInfo) (z : Value) (size bytes : Nat) (ht : P.underlying t = some (.slice e)) (hi : P.info? e = some i) (hz : i.zero = some z)
  (hsize : i.size = size) (hby : i.bytes = bytes) (hzs : z.cells.size = size) (hsz : 0 < size)
  (v : Value) (n : Nat) (xs : List Value) (hs : a.eval s = v) (hown : w.ownsRow base e size v n xs)
  (A : Option Addr) (m c : Nat) (news : List Value) (hx : a.eval x = .slice A m c) (hl : news.length = m * size) (hr : Rd w A news) (h1 : ∀ u ∈ news, u.oneCell' = true)
  (h63 : n + m ≤ maxLen) (hbytes : (n + m) * bytes ≤ 140737488355328) (hbase : base ≤ w.heap.size)
  (h : ∀ v' w', w'.ownsRow base e size v' (n + m) (xs ++ news) → w.grownBy w' v.ownBlock → (v'.ownBlock = v.ownBlock ∨ v'.ownBlock = some w.heap.size) → wpList P ops Q rest (a.put o.dst v') w') : wpList P ops Q (o :: rest) a w :=
 wpList_plain hgd fun _ hK => wp_append_rd w s x t ho base e i z size bytes ht hi hz hsize hby hzs hsz v n xs hs hown A m c news hx hl hr h1 h63 hbytes hbase fun v' w' h2 h3 h4 => hK _ _ (h v' w' h2 h3 h4)
end
theorem Rd.of_own {w : World} {base : Nat} {e : TypeId} {size n c : Nat} {A : Option Addr} {xs : List Value} (h : w.ownsRow base e size (.slice A n c) n xs) : Rd w A xs := fun hne => by
 rcases h.2 with ⟨hv, h0⟩ | ⟨g, cap, cur, hv, _, hh, _⟩
 ·exact absurd (List.eq_nil_of_length_eq_zero (by rw [h.1, h0, Nat.zero_mul])) hne
 ·injection hv with hA _ _
  subst hA; refine ⟨g, 0, rfl, (Array.getElem?_eq_some_iff.1 hh).1, fun j u hu => ?_⟩; have := h.cells (g := g) rfl j u hu; have e : (⟨g, 0, none⟩ : Addr).add j = ⟨g, 0 + j, none⟩ := by unfold Addr.add; split <;> simp_all
  rw [e] at this; exact this
theorem Rd.pre {w : World} {A : Option Addr} {xs ys : List Value} (h : Rd w A (xs ++ ys)) : Rd w A xs := fun hne => by
 obtain ⟨b, o, rfl, hb, hc⟩ := h (by simp [hne]); exact ⟨b, o, rfl, hb, fun j u hu => hc j u (by rw [List.getElem?_append_left (List.getElem?_eq_some_iff.1 hu).1]; exact hu)⟩
theorem Rd.take {w : World} {A : Option Addr} {xs ys : List Value} (h : Rd w A ys) (hx : ∃ zs, ys = xs ++ zs) : Rd w A xs := by
 obtain ⟨zs, rfl⟩ := hx; exact h.pre
theorem Rd.shift {w : World} {b o : Nat} {xs ys : List Value} (h : Rd w (some ⟨b, o, none⟩) (xs ++ ys)) : Rd w (some ⟨b, o + xs.length, none⟩) ys := fun hne => by
 obtain ⟨b', o', e, hb, hc⟩ := h (by simp [hne])
 injection e with e; injection e with e1 e2; subst e1; subst e2
 refine ⟨b, o + xs.length, rfl, hb, fun j u hu => ?_⟩; have := hc (xs.length + j) u (by rw [List.getElem?_append_right (by omega), Nat.add_sub_cancel_left]; exact hu); rw [Nat.add_assoc]; exact this
theorem Below.of_grown {w w' : World} {row : Option Nat} (hg : w.grownBy w' row) (hr : ∀ k, row = some k → w.heap.size ≤ k := by intro k hk; cases hk) : Below w.heap.size w w' := (Below.refl _ _).grown hg (Nat.le_refl _) hr
theorem own_form {w : World} {base : Nat} {e : TypeId} {size n : Nat} {v : Value} {xs : List Value} (h : w.ownsRow base e size v n xs) : ∃ A c, v = .slice A n c ∧ n ≤ c ∧ c ≤ maxLen ∧ Rd w A xs := by
 rcases h.2 with ⟨hv, h0⟩ | ⟨g, cap, cur, hv, _, _, hnc, hcm, _⟩
 ·subst h0; subst hv; exact ⟨none, 0, rfl, Nat.le_refl _, by simp [maxLen], Rd.of_own h⟩
 ·subst hv; exact ⟨_, cap, rfl, hnc, hcm, Rd.of_own h⟩
theorem Rd.of_blk {w : World} {g : Nat} {t : TypeId} {cs : Array Value} (h : Blk w g t cs) : Rd w (some ⟨g, 0, none⟩) cs.toList := fun _ =>
 ⟨g, 0, rfl, h.lt, fun j u hu => by rw [h.cell]; simpa using hu⟩
theorem Rd.new_row (w : World) (t : TypeId) (cs : Array Value) : Rd (w.alloc (.cells cs t)) (some ⟨w.heap.size, 0, none⟩) cs.toList := Rd.of_blk (Blk.new w t cs)
end Go.Proofs.YtmfjcachghboiaaDoor
namespace Go.Proofs.YtmfjcachghboiaaDoor
def iter {σ ρ : Type} (f : σ → Option (σ ⊕ ρ)) : Nat → σ → Option ρ
 | 0, _ => none
 | n + 1, s => match f s with
  | none => none
  | some (.inl s') => iter f n s'
  | some (.inr r) => some r
def ixI {α : Type} (l : List α) (i : Int) : Option α := if 0 ≤ i then l[i.toNat]? else none
def slI {α : Type} (l : List α) (a b : Int) : Option (List α) := if 0 ≤ a ∧ a ≤ b ∧ b ≤ (l.length : Int) then some ((l.take b.toNat).drop a.toNat) else none
def apG {α : Type} (B : Nat) (a b : List α) : Option (List α) := if (a.length + b.length) * B ≤ 140737488355328 then some (a ++ b) else none
def whenG {α : Type} (c : Bool) (x : α) : Option α := if c = true then some x else none
@[reducible] def un2 {t0 t1 ω : Type} (f : t0 → t1 → ω) : t0 × t1 → ω
 | (a0, a1) => f a0 a1
@[reducible] def un3 {t0 t1 t2 ω : Type} (f : t0 → t1 → t2 → ω) : t0 × t1 × t2 → ω
 | (a0, a1, a2) => f a0 a1 a2
@[reducible] def un4 {t0 t1 t2 t3 ω : Type} (f : t0 → t1 → t2 → t3 → ω) : t0 × t1 × t2 × t3 → ω
 | (a0, a1, a2, a3) => f a0 a1 a2 a3
@[reducible] def un5 {t0 t1 t2 t3 t4 ω : Type} (f : t0 → t1 → t2 → t3 → t4 → ω) : t0 × t1 × t2 × t3 × t4 → ω
 | (a0, a1, a2, a3, a4) => f a0 a1 a2 a3 a4
@[reducible] def un6 {t0 t1 t2 t3 t4 t5 ω : Type} (f : t0 → t1 → t2 → t3 → t4 → t5 → ω) : t0 × t1 × t2 × t3 × t4 × t5 → ω
 | (a0, a1, a2, a3, a4, a5) => f a0 a1 a2 a3 a4 a5
@[reducible] def un7 {t0 t1 t2 t3 t4 t5 t6 ω : Type} (f : t0 → t1 → t2 → t3 → t4 → t5 → t6 → ω) : t0 × t1 × t2 × t3 × t4 × t5 × t6 → ω
 | (a0, a1, a2, a3, a4, a5, a6) => f a0 a1 a2 a3 a4 a5 a6
@[reducible] def un8 {t0 t1 t2 t3 t4 t5 t6 t7 ω : Type} (f : t0 → t1 → t2 → t3 → t4 → t5 → t6 → t7 → ω) : t0 × t1 × t2 × t3 × t4 × t5 × t6 × t7 → ω
 | (a0, a1, a2, a3, a4, a5, a6, a7) => f a0 a1 a2 a3 a4 a5 a6 a7
@[reducible] def un9 {t0 t1 t2 t3 t4 t5 t6 t7 t8 ω : Type} (f : t0 → t1 → t2 → t3 → t4 → t5 → t6 → t7 → t8 → ω) : t0 × t1 × t2 × t3 × t4 × t5 × t6 × t7 × t8 → ω
 | (a0, a1, a2, a3, a4, a5, a6, a7, a8) => f a0 a1 a2 a3 a4 a5 a6 a7 a8
@[reducible] def un10 {t0 t1 t2 t3 t4 t5 t6 t7 t8 t9 ω : Type} (f : t0 → t1 → t2 → t3 → t4 → t5 → t6 → t7 → t8 → t9 → ω) : t0 × t1 × t2 × t3 × t4 × t5 × t6 × t7 × t8 × t9 → ω
 | (a0, a1, a2, a3, a4, a5, a6, a7, a8, a9) => f a0 a1 a2 a3 a4 a5 a6 a7 a8 a9
@[reducible] def un11 {t0 t1 t2 t3 t4 t5 t6 t7 t8 t9 t10 ω : Type} (f : t0 → t1 → t2 → t3 → t4 → t5 → t6 → t7 → t8 → t9 → t10 → ω) : t0 × t1 × t2 × t3 × t4 × t5 × t6 × t7 × t8 × t9 × t10 → ω
 | (a0, a1, a2, a3, a4, a5, a6, a7, a8, a9, a10) => f a0 a1 a2 a3 a4 a5 a6 a7 a8 a9 a10
@[reducible] def un12 {t0 t1 t2 t3 t4 t5 t6 t7 t8 t9 t10 t11 ω : Type} (f : t0 → t1 → t2 → t3 → t4 → t5 → t6 → t7 → t8 → t9 → t10 → t11 → ω) : t0 × t1 × t2 × t3 × t4 × t5 × t6 × t7 × t8 × t9 × t10 × t11 → ω
 | (a0, a1, a2, a3, a4, a5, a6, a7, a8, a9, a10, a11) => f a0 a1 a2 a3 a4 a5 a6 a7 a8 a9 a10 a11
@[reducible] def un13 {t0 t1 t2 t3 t4 t5 t6 t7 t8 t9 t10 t11 t12 ω : Type} (f : t0 → t1 → t2 → t3 → t4 → t5 → t6 → t7 → t8 → t9 → t10 → t11 → t12 → ω) : t0 × t1 × t2 × t3 × t4 × t5 × t6 × t7 × t8 × t9 × t10 × t11 × t12 → ω
 | (a0, a1, a2, a3, a4, a5, a6, a7, a8, a9, a10, a11, a12) => f a0 a1 a2 a3 a4 a5 a6 a7 a8 a9 a10 a11 a12
@[reducible] def un14 {t0 t1 t2 t3 t4 t5 t6 t7 t8 t9 t10 t11 t12 t13 ω : Type} (f : t0 → t1 → t2 → t3 → t4 → t5 → t6 → t7 → t8 → t9 → t10 → t11 → t12 → t13 → ω) : t0 × t1 × t2 × t3 × t4 × t5 × t6 × t7 × t8 × t9 × t10 × t11 × t12 × t13 → ω
 | (a0, a1, a2, a3, a4, a5, a6, a7, a8, a9, a10, a11, a12, a13) => f a0 a1 a2 a3 a4 a5 a6 a7 a8 a9 a10 a11 a12 a13
@[reducible] def un15 {t0 t1 t2 t3 t4 t5 t6 t7 t8 t9 t10 t11 t12 t13 t14 ω : Type} (f : t0 → t1 → t2 → t3 → t4 → t5 → t6 → t7 → t8 → t9 → t10 → t11 → t12 → t13 → t14 → ω) : t0 × t1 × t2 × t3 × t4 × t5 × t6 × t7 × t8 × t9 × t10 × t11 × t12 × t13 × t14 → ω
 | (a0, a1, a2, a3, a4, a5, a6, a7, a8, a9, a10, a11, a12, a13, a14) => f a0 a1 a2 a3 a4 a5 a6 a7 a8 a9 a10 a11 a12 a13 a14
@[reducible] def un16 {t0 t1 t2 t3 t4 t5 t6 t7 t8 t9 t10 t11 t12 t13 t14 t15 ω : Type} (f : t0 → t1 → t2 → t3 → t4 → t5 → t6 → t7 → t8 → t9 → t10 → t11 → t12 → t13 → t14 → t15 → ω) : t0 × t1 × t2 × t3 × t4 × t5 × t6 × t7 × t8 × t9 × t10 × t11 × t12 × t13 × t14 × t15 → ω
 | (a0, a1, a2, a3, a4, a5, a6, a7, a8, a9, a10, a11, a12, a13, a14, a15) => f a0 a1 a2 a3 a4 a5 a6 a7 a8 a9 a10 a11 a12 a13 a14 a15
@[reducible] def un17 {t0 t1 t2 t3 t4 t5 t6 t7 t8 t9 t10 t11 t12 t13 t14 t15 t16 ω : Type} (f : t0 → t1 → t2 → t3 → t4 → t5 → t6 → t7 → t8 → t9 → t10 → t11 → t12 → t13 → t14 → t15 → t16 → ω) : t0 × t1 × t2 × t3 × t4 × t5 × t6 × t7 × t8 × t9 × t10 × t11 × t12 × t13 × t14 × t15 × t16 → ω
 | (a0, a1, a2, a3, a4, a5, a6, a7, a8, a9, a10, a11, a12, a13, a14, a15, a16) => f a0 a1 a2 a3 a4 a5 a6 a7 a8 a9 a10 a11 a12 a13 a14 a15 a16
@[reducible] def un18 {t0 t1 t2 t3 t4 t5 t6 t7 t8 t9 t10 t11 t12 t13 t14 t15 t16 t17 ω : Type} (f : t0 → t1 → t2 → t3 → t4 → t5 → t6 → t7 → t8 → t9 → t10 → t11 → t12 → t13 → t14 → t15 → t16 → t17 → ω) : t0 × t1 × t2 × t3 × t4 × t5 × t6 × t7 × t8 × t9 × t10 × t11 × t12 × t13 × t14 × t15 × t16 × t17 → ω
 | (a0, a1, a2, a3, a4, a5, a6, a7, a8, a9, a10, a11, a12, a13, a14, a15, a16, a17) => f a0 a1 a2 a3 a4 a5 a6 a7 a8 a9 a10 a11 a12 a13 a14 a15 a16 a17
@[reducible] def un19 {t0 t1 t2 t3 t4 t5 t6 t7 t8 t9 t10 t11 t12 t13 t14 t15 t16 t17 t18 ω : Type} (f : t0 → t1 → t2 → t3 → t4 → t5 → t6 → t7 → t8 → t9 → t10 → t11 → t12 → t13 → t14 → t15 → t16 → t17 → t18 → ω) : t0 × t1 × t2 × t3 × t4 × t5 × t6 × t7 × t8 × t9 × t10 × t11 × t12 × t13 × t14 × t15 × t16 × t17 × t18 → ω
 | (a0, a1, a2, a3, a4, a5, a6, a7, a8, a9, a10, a11, a12, a13, a14, a15, a16, a17, a18) => f a0 a1 a2 a3 a4 a5 a6 a7 a8 a9 a10 a11 a12 a13 a14 a15 a16 a17 a18
@[reducible] def un20 {t0 t1 t2 t3 t4 t5 t6 t7 t8 t9 t10 t11 t12 t13 t14 t15 t16 t17 t18 t19 ω : Type} (f : t0 → t1 → t2 → t3 → t4 → t5 → t6 → t7 → t8 → t9 → t10 → t11 → t12 → t13 → t14 → t15 → t16 → t17 → t18 → t19 → ω) : t0 × t1 × t2 × t3 × t4 × t5 × t6 × t7 × t8 × t9 × t10 × t11 × t12 × t13 × t14 × t15 × t16 × t17 × t18 × t19 → ω
 | (a0, a1, a2, a3, a4, a5, a6, a7, a8, a9, a10, a11, a12, a13, a14, a15, a16, a17, a18, a19) => f a0 a1 a2 a3 a4 a5 a6 a7 a8 a9 a10 a11 a12 a13 a14 a15 a16 a17 a18 a19
def ifB {α : Type} (c : Bool) (x y : Option α) : Option α := match c with
 | true => x
 | false => y
section
variable {α β σ ρ : Type}
theorem bind_some {x : Option α} {k : α → Option β} {r : β} (h : Option.bind x k = some r) : ∃ o, x = some o ∧ k o = some r := by
 cases x with
 | none => cases h
 | some o => exact ⟨o, rfl, h⟩
theorem ifB_cases {c : Bool} {x y : Option α} {r : α} (h : ifB c x y = some r) : (c = true ∧ x = some r) ∨ (c = false ∧ y = some r) := by
 cases c with
 | true => exact .inl ⟨rfl, h⟩
 | false => exact .inr ⟨rfl, h⟩
theorem iter_gen {f : σ → Option (σ ⊕ ρ)} {n : Nat} {s : σ} {e : ρ} (h : iter f n s = some e) : ∃ g, g = f ∧ iter g n s = some e := ⟨f, rfl, h⟩
theorem iter_step {f : σ → Option (σ ⊕ ρ)} {n : Nat} {s : σ} {e : ρ} (h : iter f n s = some e) : ∃ m o, n = m + 1 ∧ f s = some o ∧ ((∀ s', o = .inl s' → iter f m s' = some e) ∧ (∀ r, o = .inr r → r = e)) := by
 cases n with
 | zero => cases h
 | succ m =>
  unfold iter at h; cases hf : f s with
  | none => rw [hf] at h; cases h
  | some o =>
   rw [hf] at h; refine ⟨m, o, rfl, rfl, fun s' hs => ?_, fun r hr => ?_⟩
   ·subst hs; exact h
   ·subst hr; exact Option.some.inj h
theorem ixI_some {l : List α} {i : Int} {x : α} (h : ixI l i = some x) : ∃ j : Nat, i = (j : Int) ∧ l[j]? = some x := by
 unfold ixI at h
 split at h
 ·exact ⟨i.toNat, by omega, h⟩
 ·cases h
theorem slI_some {l r : List α} {a b : Int} (h : slI l a b = some r) : ∃ p q : Nat, a = (p : Int) ∧ b = (q : Int) ∧ p ≤ q ∧ q ≤ l.length ∧ r = (l.take q).drop p := by
 unfold slI at h
 split at h
 ·next hc => exact ⟨a.toNat, b.toNat, by omega, by omega, by omega, by omega, (Option.some.inj h).symm⟩
 ·cases h
theorem apG_some {B : Nat} {a b r : List α} (h : apG B a b = some r) : (a.length + b.length) * B ≤ 140737488355328 ∧ r = a ++ b := by
 unfold apG at h
 split at h
 ·next hc => exact ⟨hc, (Option.some.inj h).symm⟩
 ·cases h
theorem whenG_some {c : Bool} {x r : α} (h : whenG c x = some r) : c = true ∧ x = r := by
 unfold whenG at h
 split at h
 ·next hc => exact ⟨hc, Option.some.inj h⟩
 ·cases h
end
end Go.Proofs.YtmfjcachghboiaaDoor
namespace Go.Proofs.YtmfjcachghboiaaDoor
section
variable {σ ρ α : Type}
theorem ifB_t (x y : Option α) : ifB true x y = x := rfl
theorem ifB_f (x y : Option α) : ifB false x y = y := rfl
theorem ob_some (a : σ) (k : σ → Option α) : Option.bind (some a) k = k a := rfl
theorem whenG_t {c : Bool} {x : α} (h : c = true) : whenG c x = some x := if_pos h
theorem ixI_nat {l : List α} {k : Nat} : ixI l (k : Int) = l[k]? := by unfold ixI; rw [if_pos (by omega), Int.toNat_natCast]
theorem ixI_get {l : List α} {k : Nat} (h : k < l.length) : ixI l (k : Int) = some l[k] := by rw [ixI_nat, List.getElem?_eq_getElem h]
theorem apG_ok {B : Nat} {a b : List α} (h : (a.length + b.length) * B ≤ 140737488355328) : apG B a b = some (a ++ b) := if_pos h
theorem slI_ok {l : List α} {p q : Nat} (h : p ≤ q) (hq : q ≤ l.length) : slI l (p : Int) (q : Int) = some ((l.take q).drop p) := by unfold slI; rw [if_pos (by omega)]; simp
theorem w64_nat {k : Nat} (h : k < 9223372036854775807) : IntKind.i64.wrap ((k : Int) + 1) = ((k + 1 : Nat) : Int) := by rw [IntKind.wrap_i64]; omega
theorem w64_id {n : Int} (h : -9223372036854775808 ≤ n) (h' : n ≤ 9223372036854775807) : IntKind.i64.wrap n = n := by rw [IntKind.wrap_i64]; omega
theorem iter_seq {f : σ → Option (σ ⊕ ρ)} (s : Nat → σ) (n : Nat) (r : ρ) (h : ∀ k, k < n → f (s k) = some (.inl (s (k + 1)))) (he : f (s n) = some (.inr r)) {F : Nat} (hF : n < F) : iter f F (s 0) = some r := by
 have key : ∀ (m k F : Nat), m = n - k → k ≤ n → n - k < F → iter f F (s k) = some r := by
  intro m
  induction m with
  | zero =>
   intro k F hm hk hF; obtain ⟨F', rfl⟩ : ∃ F', F = F' + 1 := ⟨F - 1, by omega⟩; have : k = n := by omega
   subst this; unfold iter; rw [he]
  | succ m ih =>
   intro k F hm hk hF; obtain ⟨F', rfl⟩ : ∃ F', F = F' + 1 := ⟨F - 1, by omega⟩; unfold iter; rw [h k (by omega)]; exact ih (k + 1) F' (by omega) (by omega) (by omega)
 exact key n 0 F (by omega) (Nat.zero_le _) (by omega)
def frB (p : Nat → Bool) : Nat → Nat → Bool
 | 0, _ => true
 | m + 1, k => p k && frB p m (k + 1)
theorem frB_iff {p : Nat → Bool} : ∀ {m k : Nat}, frB p m k = true ↔ ∀ j, k ≤ j → j < k + m → p j = true
 | 0, k => ⟨fun _ j h1 h2 => absurd h2 (by omega), fun _ => rfl⟩
 | m + 1, k => by
  rw [frB, Bool.and_eq_true, frB_iff]; constructor
  ·rintro ⟨h1, h2⟩ j hj hj2; rcases Nat.eq_or_lt_of_le hj with rfl | hj
   ·exact h1
   ·exact h2 j hj (by omega)
  ·intro h; exact ⟨h k (Nat.le_refl _) (by omega), fun j h1 h2 => h j (by omega) (by omega)⟩
theorem iter_all {f : Int → Option (Int ⊕ ρ)} (n : Nat) (p : Nat → Bool) (a b : ρ) (hn : f (n : Int) = some (.inr a)) (hk : ∀ k, k < n → f (k : Int) = some (if p k = true then .inl ((k + 1 : Nat) : Int) else .inr b)) {F : Nat} (hF : n < F) :
  iter f F 0 = some (if frB p n 0 = true then a else b) := by
 have key : ∀ (m k F : Nat), k + m = n → m < F → iter f F (k : Int) = some (if frB p m k = true then a else b) := by
  intro m
  induction m with
  | zero =>
   intro k F hm hF; obtain ⟨F', rfl⟩ : ∃ F', F = F' + 1 := ⟨F - 1, by omega⟩; have : k = n := by omega
   subst this; unfold iter; rw [hn]; rfl
  | succ m ih =>
   intro k F hm hF; obtain ⟨F', rfl⟩ : ∃ F', F = F' + 1 := ⟨F - 1, by omega⟩; unfold iter frB; rw [hk k (by omega)]; cases hp : p k with
   | true =>
    simp only [if_true, Bool.true_and]; exact ih (k + 1) F' (by omega) (by omega)
   | false => simp
 exact key n 0 F (by omega) hF
end
end Go.Proofs.YtmfjcachghboiaaDoor
namespace Go.Proofs.YtmfjcachghboiaaDoor
def pw (a x : Nat) : Nat := a ^ x % 2147483579
theorem pow_mod' (a x m : Nat) : (a % m) ^ x % m = a ^ x % m := (Nat.pow_mod a x m).symm
theorem sq_odd {o a x m : Nat} (h : x % 2 = 1) : ((o * a % m) * (a * a % m) ^ (x / 2)) % m = (o * a ^ x) % m := by
 have e : x = 2 * (x / 2) + 1 := by omega
 rw [Nat.mul_mod, Nat.mod_mod, pow_mod', ← Nat.mul_mod]
 congr 1
 conv => rhs; rw [e, Nat.pow_succ, Nat.pow_mul, Nat.pow_two]
 rw [Nat.mul_assoc, Nat.mul_comm a]
theorem sq_even {o a x m : Nat} (h : x % 2 = 0) : (o * (a * a % m) ^ (x / 2)) % m = (o * a ^ x) % m := by
 have e : x = 2 * (x / 2) := by omega
 rw [Nat.mul_mod, pow_mod', ← Nat.mul_mod]
 congr 1
 conv => rhs; rw [e, Nat.pow_mul, Nat.pow_two]
theorem pw_lt (a x : Nat) : pw a x < 2147483579 := Nat.mod_lt _ (by decide)
theorem pw_add (a x y : Nat) : pw a (x + y) = pw a x * pw a y % 2147483579 := by
 unfold pw; rw [Nat.pow_add, Nat.mul_mod]
theorem pw_mul (a x y : Nat) : pw a (x * y) = pw (pw a x) y := by
 unfold pw; rw [pow_mod', Nat.pow_mul]
theorem pw_one (y : Nat) : pw 1 y = 1 := by
 unfold pw; rw [Nat.one_pow]
theorem pw_mod {a q : Nat} (h : pw a q = 1) (n : Nat) : pw a (n % q) = pw a n := by
 conv => rhs; rw [← Nat.div_add_mod n q, pw_add, pw_mul, h, pw_one, Nat.one_mul]
 exact (Nat.mod_eq_of_lt (pw_lt _ _)).symm
end Go.Proofs.YtmfjcachghboiaaDoor
namespace Go.Proofs.YtmfjcachghboiaaDoor
open Go.RowKit
def xAt (X : Nat) : Nat → Nat
 | 0 => X
 | k + 1 => xAt X k / 2
def aAt (A : Nat) : Nat → Nat
 | 0 => A
 | k + 1 => aAt A k * aAt A k % 2147483579
def oAt (A X : Nat) : Nat → Nat
 | 0 => 1
 | k + 1 => if xAt X k % 2 = 1 then oAt A X k * aAt A k % 2147483579 else oAt A X k
theorem aAt_lt {A : Nat} (h : A < 2147483579) : ∀ k, aAt A k < 2147483579
 | 0 => h
 | _ + 1 => Nat.mod_lt _ (by decide)
theorem oAt_lt (A X : Nat) : ∀ k, oAt A X k < 2147483579
 | 0 => by show 1 < 2147483579; decide
 | k + 1 => by
  unfold oAt
  split
  ·exact Nat.mod_lt _ (by decide)
  ·exact oAt_lt A X k
theorem at_inv (A X : Nat) : ∀ k, (oAt A X k * aAt A k ^ xAt X k) % 2147483579 = A ^ X % 2147483579
 | 0 => by show (1 * A ^ X) % _ = _; rw [Nat.one_mul]
 | k + 1 => by
  rw [← at_inv A X k]
  show ((if xAt X k % 2 = 1 then oAt A X k * aAt A k % 2147483579 else oAt A X k) * (aAt A k * aAt A k % 2147483579) ^ (xAt X k / 2)) % 2147483579 = _
  split
  ·next h => exact sq_odd h
  ·next h => exact sq_even (by omega)
theorem at_end {A X k : Nat} (h : xAt X k = 0) : oAt A X k = pw A X := by
 have h1 := at_inv A X k; rw [h, Nat.pow_zero, Nat.mul_one, Nat.mod_eq_of_lt (oAt_lt A X k)] at h1; exact h1
theorem oAt_odd {A X k : Nat} (h : xAt X k % 2 = 1) : oAt A X (k + 1) = oAt A X k * aAt A k % 2147483579 := if_pos h
theorem oAt_even {A X k : Nat} (h : ¬xAt X k % 2 = 1) : oAt A X (k + 1) = oAt A X k := if_neg h
theorem mul_in {p q : Nat} (hp : p < 2147483579) (hq : q < 2147483579) : IntKind.i64.wrap (((p : Nat) : Int) * ((q : Nat) : Int)) = ((p * q : Nat) : Int) := by
 have h : p * q < 2147483579 * 2147483579 := Nat.mul_lt_mul'' hp hq; rw [show ((p : Nat) : Int) * ((q : Nat) : Int) = ((p * q : Nat) : Int) from (Int.natCast_mul p q).symm, IntKind.wrap_i64]; omega
theorem mod_in (n : Nat) : Int.tmod ((n : Nat) : Int) 2147483579 = ((n % 2147483579 : Nat) : Int) := rfl
theorem shr_in (n : Nat) : Int.fdiv ((n : Nat) : Int) (2 ^ 1) = ((n / 2 : Nat) : Int) := by
 rw [Int.fdiv_eq_ediv_of_nonneg _ (by decide)]; omega
theorem and_in {n : Nat} (h : n < 9223372036854775808) : bits BinOp.and IntKind.i64 ((n : Nat) : Int) 1 = ((n % 2 : Nat) : Int) := and_one n h
end Go.Proofs.YtmfjcachghboiaaDoor
namespace Go.Proofs.YtmfjcachghboiaaDoor
open Go.RowKit
def sx {α : Type} (P : Program) : Sem α → List Value → Option (α × List (Addr × Value))
 | .pure a, [] => some (a, [])
 | .load _ a k, v :: vs => (sx P (k v) vs).map fun r => (r.1, (a, v) :: r.2)
 | .program k, vs => sx P (k P) vs
 | .mark _ k, vs => sx P k vs
 | _, _ => none
def Obs (w : World) : List (Addr × Value) → Prop
 | [] => True
 | p :: l => w.cell? p.1 = some p.2 ∧ Obs w l
theorem sx_run {α : Type} {P : Program} {w : World} : ∀ (s : Sem α) {vs : List Value} {r : α} {obs : List (Addr × Value)}, sx P s vs = some (r, obs) → Obs w obs → s.run P w = .ok r w := by
 intro s
 induction s with
 | pure a =>
  intro vs r obs h _; cases vs with
  | nil => simp only [sx, Option.some.injEq, Prod.mk.injEq] at h; simp [Sem.run, h.1]
  | cons _ _ => simp [sx] at h
 | load m a k ih =>
  intro vs r obs h ho; cases vs with
  | nil => simp [sx] at h
  | cons v vs =>
   simp only [sx, Option.map_eq_some_iff] at h; obtain ⟨⟨r', obs'⟩, h1, h2⟩ := h; simp only [Prod.mk.injEq] at h2; obtain ⟨rfl, rfl⟩ := h2; simp only [Sem.run, ho.1]; exact ih v h1 ho.2
 | program k ih =>
  intro vs r obs h ho; simp only [sx] at h; simp only [Sem.run]; exact ih P h ho
 | mark m k ih =>
  intro vs r obs h ho; simp only [sx] at h; simp only [Sem.run]; exact ih h ho
 | _ => intro vs r obs h _; cases vs <;> simp [sx] at h
def sn {α : Type} (P : Program) (g : Nat) : Sem α → Option (α × Obj)
 | .new o k => (sx P (k g) []).map fun r => (r.1, o)
 | .program k => sn P g (k P)
 | .mark _ k => sn P g k
 | _ => none
theorem sn_run {α : Type} {P : Program} {w : World} : ∀ (s : Sem α) {r : α} {o : Obj}, sn P w.heap.size s = some (r, o) → s.run P w = .ok r (w.alloc o) := by
 intro s
 induction s with
 | new o k =>
  intro r o' h; simp only [sn, Option.map_eq_some_iff] at h; obtain ⟨⟨r', obs⟩, h1, h2⟩ := h; simp only [Prod.mk.injEq] at h2; obtain ⟨rfl, rfl⟩ := h2; have e : obs = [] := by
   have : ∀ {β : Type} (s : Sem β) {r : β} {obs : List (Addr × Value)}, sx P s [] = some (r, obs) → obs = [] := by
    intro β s
    induction s with
    | pure a => intro r obs h; simp only [sx, Option.some.injEq, Prod.mk.injEq] at h; exact h.2.symm
    | program k ih => intro r obs h; simp only [sx] at h; exact ih P h
    | mark m k ih => intro r obs h; simp only [sx] at h; exact ih h
    | _ => intro r obs h; simp [sx] at h
   exact this _ h1
  subst e; simp only [Sem.run]; exact sx_run (w := w.alloc o) (k w.heap.size) h1 trivial
 | program k ih => intro r o h; simp only [sn] at h; simp only [Sem.run]; exact ih P h
 | mark m k ih => intro r o h; simp only [sn] at h; simp only [Sem.run]; exact ih h
 | _ => intro r o h; simp [sn] at h
def ss {α : Type} (P : Program) : Sem α → Option (α × List (Addr × Value))
 | .pure a => some (a, [])
 | .store _ a v k => match v.oneCell' with
  | true => (ss P k).map fun r => (r.1, (a, v) :: r.2)
  | false => none
 | .program k => ss P (k P)
 | .mark _ k => ss P k
 | _ => none
def stsW (w : World) (l : List (Addr × Value)) : World := l.foldl (fun w p => w.setCell p.1 p.2) w
theorem run_store1 {α : Type} {P : Program} {w : World} {m : Mode} {a : Addr} {v c : Value} {k : Sem α} (hv : v.oneCell' = true) (hc : w.cell? a = some c) (hf : w.frozen? a = false) : (Sem.store m a v k).run P w = k.run P (w.setCell a v) := by
 cases v <;> first | (simp [Value.oneCell'] at hv; done) | simp [Sem.run, hc, hf]
def sets (cs : Array Value) (l : List (Nat × Value)) : Array Value := l.foldl (fun cs p => cs.setIfInBounds p.1 p.2) cs
theorem ss_run {α : Type} {P : Program} {g : Nat} {t : TypeId} : ∀ (s : Sem α) {w : World} {cs : Array Value} {r : α} {l : List (Nat × Value)}, Blk w g t cs → ss P s = some (r, l.map fun p => (⟨g, p.1, none⟩, p.2)) → l.all (fun p => Nat.blt p.1 cs.size) = true →
  s.run P w = .ok r (stsW w (l.map fun p => (⟨g, p.1, none⟩, p.2))) ∧ Blk (stsW w (l.map fun p => (⟨g, p.1, none⟩, p.2))) g t (sets cs l) := by
 intro s
 induction s with
 | pure a =>
  intro w cs r l hb h _; simp only [ss, Option.some.injEq, Prod.mk.injEq] at h; obtain ⟨rfl, h2⟩ := h; have e : l = [] := by cases l with | nil => rfl | cons _ _ => simp at h2
  subst e; exact ⟨rfl, hb⟩
 | store m a v k ih =>
  intro w cs r l hb h hl; unfold ss at h; cases hv : v.oneCell' with
  | false => rw [hv] at h; simp at h
  | true =>
   rw [hv] at h; simp only [Option.map_eq_some_iff] at h; obtain ⟨⟨r', l'⟩, h1, h2⟩ := h; cases l with
   | nil => simp at h2
   | cons p l =>
    obtain ⟨i, u⟩ := p; simp only [List.map_cons, Prod.mk.injEq, List.cons.injEq] at h2; obtain ⟨rfl, ⟨rfl, rfl⟩, rfl⟩ := h2; simp only [List.all_cons, Bool.and_eq_true] at hl; have hi : i < cs.size := by have := hl.1; rwa [Nat.blt_eq] at this
    have hc : w.cell? ⟨g, i, none⟩ = some cs[i] := by rw [hb.cell, Array.getElem?_eq_getElem hi]
    have hb' : Blk (w.setCell ⟨g, i, none⟩ v) g t (cs.setIfInBounds i v) := hb.set_ i v; have := ih hb' h1 (by
     rw [List.all_eq_true] at hl ⊢; intro q hq; have := hl.2 q hq
     simpa using this)
    rw [run_store1 hv hc (hb.frozen i)]; exact this
 | program k ih => intro w cs r l hb h hl; simp only [ss] at h; simp only [Sem.run]; exact ih P hb h hl
 | mark m k ih => intro w cs r l hb h hl; simp only [ss] at h; simp only [Sem.run]; exact ih hb h hl
 | _ => intro w cs r l _ h _; simp [ss] at h
theorem stsW_other {g : Nat} : ∀ (l : List (Nat × Value)) {w : World}, (stsW w (l.map fun p => (⟨g, p.1, none⟩, p.2))).heap.size = w.heap.size ∧ (∀ k, k ≠ g → (stsW w (l.map fun p => (⟨g, p.1, none⟩, p.2))).heap[k]? = w.heap[k]?) ∧ Below g w (stsW w (l.map fun p => (⟨g, p.1, none⟩, p.2)))
 | [], w => ⟨rfl, fun _ _ => rfl, Below.refl _ _⟩
 | p :: l, w' => by
  have h := stsW_other (g := g) l (w := w'.setCell ⟨g, p.1, none⟩ p.2); refine ⟨h.1.trans (by simp [World.setCell]), fun k hk => (h.2.1 k hk).trans (Below.heap_setCell _ _ _ _ hk), ((Below.refl _ _).setCell (p := ⟨g, p.1, none⟩) (Nat.le_refl _) _).trans h.2.2⟩
def look : List (Nat × Value) → Nat → Option Value
 | [], _ => none
 | p :: l, j => match Nat.beq p.1 j with
  | true => some p.2
  | false => look l j
def rho (K : List (Nat × Value)) (J : Nat → Value) : Operand → Value
 | .tmp t => match look K t with
  | some v => v
  | none => J t
 | .const v => v
 | .global g => .pointer (some ⟨g, 0, none⟩)
 | .func f => .func (.func f) #[] #[]
structure Kn (n : Nat) (K : List (Nat × Value)) (a : Act) : Prop where
 d : a.defers = []
 s : a.tmps.size = n
 k : ∀ i v, look K i = some v → a.tmps[i]? = some v
section
variable {n : Nat} {K K' : List (Nat × Value)} {a : Act} {P : Program} {w w0 : World} {ops : Array Oper} {Q : Exit → Act → World → Prop} {o : Oper} {rest : List Oper} {d : Nat} {v v' : Value}
theorem Kn.slot (h : Kn n K a) : (fun t => a.tmps.getD t undef) = fun t => rho K (fun t => a.tmps.getD t undef) (.tmp t) := by
 funext t
 show _ = match look K t with
  | some v => v
  | none => a.tmps.getD t undef
 cases hl : look K t with
 | none => rfl
 | some v => have := h.k t v hl; simp [Array.getD_eq_getD_getElem?, this]
theorem Kn.eval (h : Kn n K a) : a.eval = rho K (fun t => a.tmps.getD t undef) := by
 funext x
 cases x with
 | tmp t => exact congrFun h.slot t
 | _ => rfl
theorem Kn.put (h : Kn n K a) (hd : Nat.blt d n = true) (v : Value) : Kn n ((d, v) :: K) (a.put (some d) v) := by
 have hd' : d < n := by rwa [Nat.blt_eq] at hd
 refine ⟨h.d, by simpa [Act.put] using h.s, fun i u hu => ?_⟩; unfold look at hu; simp only [Act.put]; cases hb : Nat.beq d i with
 | true =>
  rw [hb] at hu; have e : d = i := Nat.eq_of_beq_eq_true hb; subst e; simp only [Option.some.injEq] at hu; subst hu; rw [Array.getElem?_setIfInBounds_self_of_lt (by rw [h.s]; exact hd')]
 | false =>
  rw [hb] at hu; have e : d ≠ i := Nat.ne_of_beq_eq_false hb; rw [Array.getElem?_setIfInBounds_ne e]; exact h.k i u hu
def inK (K : List (Nat × Value)) : List (Nat × Value) → Prop
 | [] => True
 | p :: l => look K p.1 = some p.2 ∧ inK K l
theorem inK_look : ∀ {K' : List (Nat × Value)}, inK K K' → ∀ i v, look K' i = some v → look K i = some v
 | [], _, i, v, h => by simp [look] at h
 | p :: l, hi, i, v, h => by
  unfold look at h; cases hb : Nat.beq p.1 i with
  | true =>
   rw [hb] at h; have e : p.1 = i := Nat.eq_of_beq_eq_true hb; simp only [Option.some.injEq] at h; subst e; rw [← h]; exact hi.1
  | false =>
   rw [hb] at h; exact inK_look hi.2 i v h
theorem Kn.weak (h : Kn n K a) (hs : inK K K') : Kn n K' a := ⟨h.d, h.s, fun i v hv => h.k i v (inK_look hs i v hv)⟩
theorem Kn.sub (h : Kn n K a) (hl : look K d = some v) (hv : v = v') : Kn n ((d, v') :: K) a := by
 refine ⟨h.d, h.s, fun i u hu => ?_⟩; unfold look at hu; cases hb : Nat.beq d i with
 | true =>
  rw [hb] at hu; have e : d = i := Nat.eq_of_beq_eq_true hb; simp only [Option.some.injEq] at hu; subst e; rw [← hu, ← hv]; exact h.k _ _ hl
 | false => rw [hb] at hu; exact h.k i u hu
def gd (ops : Array Oper) (K : List (Nat × Value)) (o : Oper) : Option Bool :=
 match o.guard with
 | none => some true
 | some (j, want) => match (ops[j]?).bind (·.dst) with
  | none => none
  | some d => match look K d with
   | some (.bool c) => some (c == want)
   | some _ => some false
   | none => none
theorem Kn.wanted (h : Kn n K a) {b : Bool} (hg : gd ops K o = some b) : Region.wanted o (yielded ops a.tmps) = b := by
 unfold gd at hg; unfold Region.wanted
 split at hg
 ·next hgd => rw [hgd]; simpa using hg
 ·next j want hgd =>
  rw [hgd]
  split at hg
  ·simp at hg
  ·next d hd =>
   split at hg
   ·next c hc =>
    have := h.k _ _ hc; simp only [yielded, hd, Option.bind_some, this, Option.some.injEq] at hg ⊢; rw [← hg]; rfl
   ·next u hnb hc =>
    have := h.k _ _ hc; simp only [Option.some.injEq] at hg; subst hg; simp only [yielded, hd, Option.bind_some, this]; cases u <;> first | rfl | exact absurd rfl (hnb _)
   ·simp at hg
inductive It where
 | blk (g : Nat) (t : TypeId) (cs : Array Value)
 | own (e : TypeId) (m : Nat) (v : Value) (k : Nat) (xs : List Value)
 | dat (p : World → Prop)
def apart (x : Option Nat) : List It → Prop
 | [] => True
 | .own _ _ v _ _ :: l => (∀ k, x = some k → v.ownBlock ≠ some k) ∧ apart x l
 | _ :: l => apart x l
def Dt (p : World → Prop) (m : Nat) (w : World) : Prop := ∀ W, Below m w W → p W
def Ok (B : Nat) (w : World) : Nat → List It → Prop
 | n, [] => B ≤ n
 | n, .blk g t cs :: l => g < n ∧ Blk w g t cs ∧ apart (some g) l ∧ Ok B w g l
 | n, .own e m v k xs :: l => ∃ b, b ≤ n ∧ w.ownsRow b e m v k xs ∧ apart v.ownBlock l ∧ Ok B w b l
 | n, .dat p :: l => ∃ m, m ≤ n ∧ Dt p m w ∧ Ok B w m l
structure Ev (w0 w : World) (l : List It) : Prop where
 b : Below w0.heap.size w0 w
 k : Ok w0.heap.size w w.heap.size l
theorem Ok.le {B : Nat} {w : World} : ∀ {l : List It} {n : Nat}, Ok B w n l → B ≤ n
 | [], _, h => h
 | .blk g _ _ :: l, n, h => Nat.le_trans (Ok.le h.2.2.2) (Nat.le_of_lt h.1)
 | .own _ _ _ _ _ :: l, n, h => by obtain ⟨b, h1, _, _, h4⟩ := h; exact Nat.le_trans (Ok.le h4) h1
 | .dat _ :: l, n, h => by obtain ⟨m, h1, _, h3⟩ := h; exact Nat.le_trans (Ok.le h3) h1
theorem Ok.mono {B : Nat} {w : World} : ∀ {l : List It} {n n' : Nat}, Ok B w n l → n ≤ n' → Ok B w n' l
 | [], _, _, h, hn => Nat.le_trans h hn
 | .blk g _ _ :: l, n, n', h, hn => ⟨Nat.lt_of_lt_of_le h.1 hn, h.2⟩
 | .own _ _ _ _ _ :: l, n, n', h, hn => by obtain ⟨b, h1, h2⟩ := h; exact ⟨b, Nat.le_trans h1 hn, h2⟩
 | .dat _ :: l, n, n', h, hn => by obtain ⟨m, h1, h2⟩ := h; exact ⟨m, Nat.le_trans h1 hn, h2⟩
theorem own_keep {w w' : World} {b : Nat} {e : TypeId} {m n : Nat} {v : Value} {xs : List Value} (h : w.ownsRow b e m v n xs) (hk : ∀ k, v.ownBlock = some k → w'.heap[k]? = w.heap[k]?) : w'.ownsRow b e m v n xs := by
 obtain ⟨h1, h2⟩ := h; refine ⟨h1, ?_⟩; rcases h2 with h2 | ⟨g, cap, cur, hv, hg, hh, r⟩
 ·exact Or.inl h2
 ·exact Or.inr ⟨g, cap, cur, hv, hg, by rw [hk g (by rw [hv]; rfl)]; exact hh, r⟩
theorem own_lt {w : World} {b : Nat} {e : TypeId} {m n : Nat} {v : Value} {xs : List Value} (h : w.ownsRow b e m v n xs) {k : Nat} (hk : v.ownBlock = some k) : b ≤ k ∧ k < w.heap.size := by
 rcases h.2 with ⟨rfl, _⟩ | ⟨g, cap, cur, rfl, hg, hh, _⟩
 ·cases hk
 ·injection hk with hk
  subst hk; exact ⟨hg, (Array.getElem?_eq_some_iff.1 hh).1⟩
theorem Ok.keep {B : Nat} {w w' : World} (hb : Below w.heap.size w w') : ∀ {l : List It} {n : Nat}, n ≤ w.heap.size → Ok B w n l → Ok B w' n l
 | [], _, _, h => h
 | .blk g _ _ :: l, n, hn, h => ⟨h.1, h.2.1.below hb (Nat.lt_of_lt_of_le h.1 hn), h.2.2.1, Ok.keep hb (by have := h.1; omega) h.2.2.2⟩
 | .own _ _ v _ _ :: l, n, hn, h => by
  obtain ⟨b, h1, h2, h3, h4⟩ := h; exact ⟨b, h1, own_keep h2 (fun k hk => hb.block k (own_lt h2 hk).2), h3, Ok.keep hb (by omega) h4⟩
 | .dat p :: l, n, hn, h => by
  obtain ⟨m, h1, h2, h3⟩ := h; exact ⟨m, h1, fun W hW => h2 W ((hb.mono (by omega)).trans hW), Ok.keep hb (by omega) h3⟩
variable {l l' : List It}
theorem Ev.start (w : World) : Ev w w [] := ⟨Below.refl _ _, Nat.le_refl _⟩
theorem Ev.call (h : Ev w0 w l) {w' : World} (hb : Below w.heap.size w w') : Ev w0 w' l := ⟨h.b.trans (hb.mono (h.b.size)), (Ok.keep hb (Nat.le_refl _) h.k).mono hb.size⟩
theorem Ev.dat (h : Ev w0 w l) {p : World → Prop} (hp : ∀ W, Below w.heap.size w W → p W) : Ev w0 w (.dat p :: l) := ⟨h.b, w.heap.size, Nat.le_refl _, hp, h.k⟩
theorem Ev.own0 (h : Ev w0 w l) (e : TypeId) (m : Nat) : Ev w0 w (.own e m (.slice none 0 0) 0 [] :: l) := ⟨h.b, w.heap.size, Nat.le_refl _, ⟨by simp, .inl ⟨rfl, rfl⟩⟩, by
 have : ∀ l : List It, apart (Value.slice none 0 0).ownBlock l := by
  intro l
  induction l with
  | nil => trivial
  | cons x l ih => cases x with
   | own _ _ _ _ _ => exact ⟨fun k hk => (by cases hk), ih⟩
   | _ => exact ih
 exact this l, h.k⟩
theorem Ok.apart_new {B : Nat} {w : World} {g : Nat} (hg : w.heap.size ≤ g) : ∀ {l : List It} {n : Nat}, Ok B w n l → apart (some g) l
 | [], _, _ => trivial
 | .blk _ _ _ :: l, n, h => Ok.apart_new (l := l) hg h.2.2.2
 | .dat _ :: l, n, h => by obtain ⟨m, _, _, h3⟩ := h; exact Ok.apart_new (l := l) hg h3
 | .own _ _ v _ _ :: l, n, h => by
  obtain ⟨b, h1, h2, h3, h4⟩ := h; refine ⟨fun k hk hv => ?_, Ok.apart_new (l := l) hg h4⟩
  injection hk with hk
  have := (own_lt h2 hv).2; omega
theorem Ev.alloc (h : Ev w0 w l) (cs : Array Value) (t : TypeId) : Ev w0 (w.alloc (.cells cs t)) (.blk w.heap.size t cs :: l) := by
 have hb : Below w.heap.size w (w.alloc (.cells cs t)) := (Below.refl _ _).alloc (Nat.le_refl _) _; refine ⟨h.b.trans (hb.mono h.b.size), by simp, Blk.new _ _ _, ?_, Ok.keep hb (Nat.le_refl _) h.k⟩; exact Ok.apart_new (Nat.le_refl _) h.k
theorem Ok.get {B : Nat} {w : World} : ∀ {l : List It} {n : Nat} (i : Nat) {x : It}, Ok B w n l → l[i]? = some x → match x with
  | .blk g t cs => Blk w g t cs ∧ B ≤ g
  | .own e m v k xs => ∃ b, B ≤ b ∧ w.ownsRow b e m v k xs
  | .dat p => p w
 | [], _, i, x, _, hx => by simp at hx
 | y :: l, n, 0, x, h, hx => by
  simp only [List.getElem?_cons_zero, Option.some.injEq] at hx; subst hx; cases y with
  | blk g t cs => exact ⟨h.2.1, h.2.2.2.le⟩
  | own e m v k xs => obtain ⟨b, _, h2, _, h4⟩ := h; exact ⟨b, h4.le, h2⟩
  | dat p => obtain ⟨m, _, h2, _⟩ := h; exact h2 w (Below.refl _ _)
 | y :: l, n, i + 1, x, h, hx => by
  simp only [List.getElem?_cons_succ] at hx; cases y with
  | blk g t cs => exact Ok.get i h.2.2.2 hx
  | own e m v k xs => obtain ⟨b, _, _, _, h4⟩ := h; exact Ok.get i h4 hx
  | dat p => obtain ⟨m, _, _, h3⟩ := h; exact Ok.get i h3 hx
theorem Ev.blk (h : Ev w0 w l) (i : Nat) {g : Nat} {t : TypeId} {cs : Array Value} (hi : l[i]? = some (.blk g t cs)) : Blk w g t cs := (Ok.get i h.k hi).1
theorem Ev.get (h : Ev w0 w l) (i : Nat) {p : World → Prop} (hi : l[i]? = some (.dat p)) : p w := Ok.get i h.k hi
theorem Ev.row (h : Ev w0 w l) (i : Nat) {e : TypeId} {m k : Nat} {v : Value} {xs : List Value} (hi : l[i]? = some (.own e m v k xs)) : ∃ b, w0.heap.size ≤ b ∧ w.ownsRow b e m v k xs := Ok.get i h.k hi
def setAt (cs : Array Value) : Nat → List It → Option (List It)
 | 0, .blk g t _ :: l => some (.blk g t cs :: l)
 | i + 1, .blk g t c :: l => (setAt cs i l).map fun l' => .blk g t c :: l'
 | i + 1, .own e m v k xs :: l => (setAt cs i l).map fun l' => .own e m v k xs :: l'
 | _, _ => none
theorem apart_set {cs : Array Value} : ∀ {i : Nat} {l l' : List It}, setAt cs i l = some l' → ∀ x, apart x l → apart x l'
 | 0, .blk g t c :: l, l', h, x, ha => by simp only [setAt, Option.some.injEq] at h; subst h; exact ha
 | i + 1, .blk g t c :: l, l', h, x, ha => by
  simp only [setAt, Option.map_eq_some_iff] at h; obtain ⟨m, h1, rfl⟩ := h; exact apart_set h1 x ha
 | i + 1, .own e m v k xs :: l, l', h, x, ha => by
  simp only [setAt, Option.map_eq_some_iff] at h; obtain ⟨m, h1, rfl⟩ := h; exact ⟨ha.1, apart_set h1 x ha.2⟩
theorem apart_of : ∀ {l : List It} {x : Nat} {i : Nat} {e : TypeId} {m k : Nat} {v : Value} {xs : List Value}, apart (some x) l → l[i]? = some (.own e m v k xs) → v.ownBlock ≠ some x
 | .own _ _ _ _ _ :: l, x, 0, e, m, k, v, xs, h, hi => by
  simp only [List.getElem?_cons_zero, Option.some.injEq, It.own.injEq] at hi; obtain ⟨_, _, rfl, _, _⟩ := hi; exact h.1 x rfl
 | .own _ _ _ _ _ :: l, x, i + 1, e, m, k, v, xs, h, hi => apart_of (l := l) h.2 (by simpa using hi)
 | .blk _ _ _ :: l, x, 0, e, m, k, v, xs, h, hi => by simp at hi
 | .dat _ :: l, x, 0, e, m, k, v, xs, h, hi => by simp at hi
 | .blk _ _ _ :: l, x, i + 1, e, m, k, v, xs, h, hi => apart_of (l := l) h (by simpa using hi)
 | .dat _ :: l, x, i + 1, e, m, k, v, xs, h, hi => apart_of (l := l) h (by simpa using hi)
theorem Ok.low {B : Nat} {w w' : World} {g : Nat} (hk : ∀ k, k ≠ g → w'.heap[k]? = w.heap[k]?) (hbg : Below g w w') : ∀ {l : List It} {n : Nat}, n ≤ g → apart (some g) l → Ok B w n l → Ok B w' n l
 | [], _, _, _, h => h
 | .blk _ _ _ :: l, n, hn, ha, h => ⟨h.1, h.2.1.below hbg (by have := h.1; omega), h.2.2.1, Ok.low hk hbg (by have := h.1; omega) ha h.2.2.2⟩
 | .own _ _ v _ _ :: l, n, hn, ha, h => by
  obtain ⟨b, h1, h2, h3, h4⟩ := h; exact ⟨b, h1, own_keep h2 (fun k hk' => hk k (fun e => ha.1 g rfl (e ▸ hk'))), h3, Ok.low hk hbg (by omega) ha.2 h4⟩
 | .dat _ :: l, n, hn, ha, h => by
  obtain ⟨m, h1, h2, h3⟩ := h; exact ⟨m, h1, fun W hW => h2 W ((hbg.mono (by omega)).trans hW), Ok.low hk hbg (by omega) ha h3⟩
theorem Ok.lt_of {B : Nat} {w : World} : ∀ {l : List It} {n i : Nat} {g : Nat} {t : TypeId} {cs : Array Value}, Ok B w n l → l[i]? = some (.blk g t cs) → g < n
 | [], _, i, _, _, _, _, hi => by simp at hi
 | .blk _ _ _ :: l, n, 0, g, t, cs, h, hi => by
  simp only [List.getElem?_cons_zero, Option.some.injEq, It.blk.injEq] at hi; obtain ⟨rfl, _, _⟩ := hi; exact h.1
 | .own _ _ _ _ _ :: l, n, 0, g, t, cs, h, hi => by simp at hi
 | .dat _ :: l, n, 0, g, t, cs, h, hi => by simp at hi
 | .blk _ _ _ :: l, n, i + 1, g, t, cs, h, hi => Nat.lt_trans (Ok.lt_of h.2.2.2 (by simpa using hi)) h.1
 | .own _ _ _ _ _ :: l, n, i + 1, g, t, cs, h, hi => by obtain ⟨b, h1, _, _, h4⟩ := h; exact Nat.lt_of_lt_of_le (Ok.lt_of h4 (by simpa using hi)) h1
 | .dat _ :: l, n, i + 1, g, t, cs, h, hi => by obtain ⟨b, h1, _, h4⟩ := h; exact Nat.lt_of_lt_of_le (Ok.lt_of h4 (by simpa using hi)) h1
theorem Ok.set {B : Nat} {w w' : World} {g : Nat} {t : TypeId} {cs0 cs : Array Value} (hk : ∀ k, k ≠ g → w'.heap[k]? = w.heap[k]?) (hbg : Below g w w') (hn : Blk w' g t cs) :
  ∀ {l l' : List It} {n i : Nat}, Ok B w n l → l[i]? = some (.blk g t cs0) → setAt cs i l = some l' → Ok B w' n l'
 | [], _, _, i, _, hi, _ => by simp at hi
 | .dat _ :: l, l', n, i, h, hi, hs => by cases i <;> simp [setAt] at hs
 | .own _ _ _ _ _ :: l, l', n, 0, h, hi, hs => by simp [setAt] at hs
 | .blk g' t' c' :: l, l', n, 0, h, hi, hs => by
  simp only [List.getElem?_cons_zero, Option.some.injEq, It.blk.injEq] at hi; obtain ⟨rfl, rfl, _⟩ := hi; simp only [setAt, Option.some.injEq] at hs; subst hs; exact ⟨h.1, hn, h.2.2.1, Ok.low hk hbg (Nat.le_refl _) h.2.2.1 h.2.2.2⟩
 | .blk g' t' c' :: l, l', n, i + 1, h, hi, hs => by
  simp only [setAt, Option.map_eq_some_iff] at hs; obtain ⟨m, h1, rfl⟩ := hs; have hi' : l[i]? = some (.blk g t cs0) := by simpa using hi
  have hlt := Ok.lt_of h.2.2.2 hi'; exact ⟨h.1, (hk g' (by omega)).trans h.2.1, apart_set h1 _ h.2.2.1, Ok.set hk hbg hn h.2.2.2 hi' h1⟩
 | .own e m v k xs :: l, l', n, i + 1, h, hi, hs => by
  simp only [setAt, Option.map_eq_some_iff] at hs; obtain ⟨m', h1, rfl⟩ := hs; have hi' : l[i]? = some (.blk g t cs0) := by simpa using hi
  obtain ⟨b, h2, h3, h4, h5⟩ := h; have hlt := Ok.lt_of h5 hi'; exact ⟨b, h2, own_keep h3 (fun j hj => hk j (by have := (own_lt h3 hj).1; omega)), apart_set h1 _ h4, Ok.set hk hbg hn h5 hi' h1⟩
theorem Ev.set (h : Ev w0 w l) {g : Nat} {t : TypeId} {cs : Array Value} (i : Nat) (hi : l[i]? = some (.blk g t cs)) (ivs : List (Nat × Value)) (hl : setAt (sets cs ivs) i l = some l')
  (hb : Blk (stsW w (ivs.map fun p => (⟨g, p.1, none⟩, p.2))) g t (sets cs ivs)) : Ev w0 (stsW w (ivs.map fun p => (⟨g, p.1, none⟩, p.2))) l' := by
 have ho := stsW_other (g := g) ivs (w := w); have hg := (Ok.get i h.k hi).2; refine ⟨h.b.trans (ho.2.2.mono hg), ?_⟩; rw [ho.1]; exact Ok.set ho.2.1 ho.2.2 hb h.k hi hl
theorem Ok.drop {B : Nat} {w : World} : ∀ {l l' : List It} {n : Nat}, List.Sublist l' l → Ok B w n l → Ok B w n l' := by
 have ap : ∀ {l l' : List It}, List.Sublist l' l → ∀ x, apart x l → apart x l' := by
  intro l l' hs
  induction hs with
  | slnil => intro _ h; exact h
  | cons y _ ih => intro x h; cases y with
   | own _ _ _ _ _ => exact ih x h.2
   | _ => exact ih x h
  | cons_cons y _ ih => intro x h; cases y with
   | own _ _ _ _ _ => exact ⟨h.1, ih x h.2⟩
   | _ => exact ih x h
 intro l l' n hs
 induction hs generalizing n with
 | slnil => intro h; exact h
 | cons y _ ih => intro h; cases y with
  | blk g t cs => exact (ih h.2.2.2).mono (Nat.le_of_lt h.1)
  | own e m v k xs => obtain ⟨b, h1, _, _, h4⟩ := h; exact (ih h4).mono h1
  | dat p => obtain ⟨b, h1, _, h4⟩ := h; exact (ih h4).mono h1
 | cons_cons y hs ih => intro h; cases y with
  | blk g t cs => exact ⟨h.1, h.2.1, ap hs _ h.2.2.1, ih h.2.2.2⟩
  | own e m v k xs => obtain ⟨b, h1, h2, h3, h4⟩ := h; exact ⟨b, h1, h2, ap hs _ h3, ih h4⟩
  | dat p => obtain ⟨b, h1, h2, h4⟩ := h; exact ⟨b, h1, h2, ih h4⟩
theorem Ev.drop (h : Ev w0 w l) (hs : List.Sublist l' l) : Ev w0 w l' := ⟨h.b, Ok.drop hs h.k⟩
theorem st_of (hK : Kn n K a) {b : Bool} (hg : gd ops K o = some b) (h : if b = true then o.wp P a w (wpList P ops Q rest) Q else wpList P ops Q rest (a.put o.dst undef) w) : wpList P ops Q (o :: rest) a w := by
 refine wpList_step fun Kx hx => ?_
 rw [hK.wanted hg]; cases b with
 | true =>
  simp only [if_true] at h ⊢; unfold Oper.wp Oper.upon at h ⊢
  revert h
  split <;> first | exact hx _ _ | exact id | (intro h; refine h.mono fun e w' hr => ?_; cases e <;> first | exact hx _ _ hr | exact hr) | (intro h; exact Rows.mono h fun v w' hr => hx _ _ hr) | (intro h; exact h)
 | false => simpa using hx _ _ (by simpa using h)
theorem st_op {vs : List Value} {obs : List (Addr × Value)} (hK : Kn n K a) (hg : gd ops K o = some true) (he : ∀ J, sx P (execOp (rho K J) o) vs = some (.value v', obs)) (ho : Obs w obs) (hv : v' = v) (hd : o.dst = some d) (hn : Nat.blt d n = true)
  (h : ∀ a', Kn n ((d, v) :: K) a' → wpList P ops Q rest a' w) : wpList P ops Q (o :: rest) a w := by
 refine st_of hK hg ?_; rw [if_pos rfl]; unfold Oper.wp Oper.upon; rw [hK.eval, sx_run _ (he _) ho, hd, hv]; exact h _ (hK.put hn v)
theorem o0 (d : Nat) (v' : Value) (hK : Kn n K a) (hg : gd ops K o = some true) (he : ∀ J, sx P (execOp (rho K J) o) [] = some (.value v', [])) (hv : v' = v) (hd : o.dst = some d) (hn : Nat.blt d n = true) (h : ∀ a', Kn n ((d, v) :: K) a' → wpList P ops Q rest a' w) : wpList P ops Q (o :: rest) a w := st_op hK hg he trivial hv hd hn h
theorem st_skip (hK : Kn n K a) (hg : gd ops K o = some false) (hd : o.dst = some d) (hn : Nat.blt d n = true) (h : ∀ a', Kn n ((d, undef) :: K) a' → wpList P ops Q rest a' w) : wpList P ops Q (o :: rest) a w := by
 refine st_of hK hg ?_; rw [if_neg (by simp), hd]; exact h _ (hK.put hn undef)
def bat (P : Program) (n : Nat) (ops : Array Oper) (J : Nat → Value) : Nat → List (Nat × Value) → List Oper → Option (List (Nat × Value))
  | 0, K, _ => some K
  | _ + 1, _, [] => none
  | k + 1, K, o :: L => match o.dst with
    | none => none
    | some d => match Nat.blt d n with
      | false => none
      | true => match gd ops K o with
        | none => none
        | some false => bat P n ops J k ((d, undef) :: K) L
        | some true => match sx P (execOp (rho K J) o) [] with
          | some (.value v, []) => bat P n ops J k ((d, v) :: K) L
          | _ => none
theorem bat_tail {P : Program} {n : Nat} {ops : Array Oper} {J : Nat → Value} : ∀ {k : Nat} {K K2 : List (Nat × Value)} {L : List Oper}, bat P n ops J k K L = some K2 → ∃ l, l.length = k ∧ K2 = l ++ K := by
  intro k
  induction k with
  | zero => intro K K2 L h; unfold bat at h; exact ⟨[], rfl, (Option.some.inj h).symm⟩
  | succ k ih =>
    intro K K2 L h
    have key : ∀ x, (∃ l, l.length = k ∧ K2 = l ++ x :: K) → ∃ l, l.length = k + 1 ∧ K2 = l ++ K := by
      rintro x ⟨l, h1, h2⟩
      exact ⟨l ++ [x], by simp [h1], by simp [h2]⟩
    cases L with
    | nil => unfold bat at h; cases h
    | cons o L =>
      unfold bat at h
      cases hd : o.dst with
      | none => simp only [hd] at h; cases h
      | some d =>
        cases hn : Nat.blt d n with
        | false => simp only [hd, hn] at h; cases h
        | true =>
          cases hg : gd ops K o with
          | none => simp only [hd, hn, hg] at h; cases h
          | some b =>
            cases b with
            | false => simp only [hd, hn, hg] at h; exact key _ (ih h)
            | true =>
              simp only [hd, hn, hg] at h
              split at h
              · exact key _ (ih h)
              · cases h
theorem st_bat (k : Nat) {L : List Oper} {K2 : List (Nat × Value)} (hK : Kn n K a) (he : ∀ J, bat P n ops J k K L = some K2) (h : ∀ a', Kn n K2 a' → wpList P ops Q (L.drop k) a' w) : wpList P ops Q L a w := by
  induction k generalizing K a L with
  | zero =>
    have := he (fun _ => undef)
    unfold bat at this
    obtain rfl := Option.some.inj this
    exact h a hK
  | succ k ih =>
    cases L with
    | nil => have := he (fun _ => undef); unfold bat at this; cases this
    | cons o L =>
      cases hd : o.dst with
      | none => have := he (fun _ => undef); unfold bat at this; rw [hd] at this; cases this
      | some d =>
        cases hn : Nat.blt d n with
        | false => have := he (fun _ => undef); unfold bat at this; simp only [hd, hn] at this; cases this
        | true =>
          cases hg : gd ops K o with
          | none => have := he (fun _ => undef); unfold bat at this; simp only [hd, hn, hg] at this; cases this
          | some b =>
            cases b with
            | false =>
              refine st_skip hK hg hd hn fun a' hK' => ih hK' (fun J => ?_) h
              have := he J
              unfold bat at this
              simp only [hd, hn, hg] at this
              exact this
            | true =>
              have h1 : ∀ J, ∃ v, sx P (execOp (rho K J) o) [] = some (.value v, []) ∧ bat P n ops J k ((d, v) :: K) L = some K2 := by
                intro J
                have := he J
                unfold bat at this
                simp only [hd, hn, hg] at this
                split at this
                · next v e => exact ⟨v, e, this⟩
                · cases this
              obtain ⟨v, e1, e2⟩ := h1 (fun _ => undef)
              have h2 : ∀ J, sx P (execOp (rho K J) o) [] = some (.value v, []) ∧ bat P n ops J k ((d, v) :: K) L = some K2 := by
                intro J
                obtain ⟨v', e1', e2'⟩ := h1 J
                obtain ⟨l, l1, l2⟩ := bat_tail e2
                obtain ⟨l', l1', l2'⟩ := bat_tail e2'
                have := List.append_inj (l2.symm.trans l2') (by omega)
                have hv : v = v' := by have := this.2; simp at this; exact this
                subst hv
                exact ⟨e1', e2'⟩
              exact st_op hK hg (fun J => (h2 J).1) trivial rfl hd hn fun a' hK' => ih hK' (fun J => (h2 J).2) h
theorem oN (k : Nat) {L : List Oper} (f : List (Nat × Value) → List (Nat × Value)) (hK : Kn n K a) (he : ∀ J, bat P n ops J k K L = some (f K)) (h : ∀ a', Kn n (f K) a' → wpList P ops Q (L.drop k) a' w) : wpList P ops Q L a w := st_bat k hK he h
theorem st_call {f : FuncId} {args : Array Value} {R : Ending → World → Prop} (hK : Kn n K a) (hg : gd ops K o = some true) (he : ∀ J, sx P (execOp (rho K J) o) [] = some (.enter f args, [])) (hd : o.dst = some d) (hn : Nat.blt d n = true)
  (hc : Calls P f args w R) (h : ∀ e w', R e w' → ∃ v, e = .returned v ∧ ∀ a', Kn n ((d, v) :: K) a' → wpList P ops Q rest a' w') : wpList P ops Q (o :: rest) a w := by
 refine st_of hK hg ?_; rw [if_pos rfl]; unfold Oper.wp Oper.upon; rw [hK.eval, sx_run _ (he _) trivial, hd]; refine hc.mono fun e w' hr => ?_
 obtain ⟨v, rfl, hk⟩ := h e w' hr; exact hk _ (hK.put hn v)
theorem qs_op {B : Nat} {Q : Act → Prop} {vs : List Value} {obs : List (Addr × Value)} (hK : Kn n K a) (hg : gd ops K o = some true) (he : ∀ J, sx P (execOp (rho K J) o) vs = some (.value v', obs)) (ho : ∀ x : Fut B w, Obs x.v obs) (hv : v' = v) (hd : o.dst = some d) (hn : Nat.blt d n = true)
  (h : ∀ a', Kn n ((d, v) :: K) a' → wpQuiet P ops (fun w' => ∃ x : Fut B w, w' = x.v) Q rest a') : wpQuiet P ops (fun w' => ∃ x : Fut B w, w' = x.v) Q (o :: rest) a := by
 refine wpQuiet_step fun Kx hx => ?_
 rw [hK.wanted hg, if_pos rfl]; refine ⟨v, ?_, hx _ (by rw [hd]; exact h _ (hK.put hn v))⟩; rintro _ ⟨x, rfl⟩; unfold Oper.quietAt; rw [hK.eval, sx_run _ (he _) (ho x), hv]; exact ⟨rfl, rfl⟩
theorem qs_skip {C : World → Prop} {Q : Act → Prop} (hK : Kn n K a) (hg : gd ops K o = some false) (hd : o.dst = some d) (hn : Nat.blt d n = true) (h : ∀ a', Kn n ((d, undef) :: K) a' → wpQuiet P ops C Q rest a') : wpQuiet P ops C Q (o :: rest) a := by
 refine wpQuiet_step fun Kx hx => ?_
 rw [hK.wanted hg, if_neg (by simp), hd]; exact hx _ (h _ (hK.put hn undef))
theorem qs_call {B : Nat} {Q : Act → Prop} {f : FuncId} {args : Array Value} (hK : Kn n K a) (hg : gd ops K o = some true) (he : ∀ J, sx P (execOp (rho K J) o) [] = some (.enter f args, [])) (hd : o.dst = some d) (hn : Nat.blt d n = true)
  (hc : ∀ x : Fut B w, Calls P f args x.v fun e w' => e = .returned v ∧ ∃ y : Fut B w, w' = y.v) (h : ∀ a', Kn n ((d, v) :: K) a' → wpQuiet P ops (fun w' => ∃ x : Fut B w, w' = x.v) Q rest a') : wpQuiet P ops (fun w' => ∃ x : Fut B w, w' = x.v) Q (o :: rest) a := by
 refine wpQuiet_step fun Kx hx => ?_
 rw [hK.wanted hg, if_pos rfl]; refine ⟨v, ?_, hx _ (by rw [hd]; exact h _ (hK.put hn v))⟩; rintro _ ⟨x, rfl⟩; unfold Oper.quietAt; rw [hK.eval, sx_run _ (he _) trivial]; exact ⟨rfl, (hc x).mono fun e w' h => h⟩
theorem xb_hit {id : Nat} {a : Act} {w : World} (h : Q .normal a w) : Exit.inBlock id Q (.exit id) a w := by
 simp only [Exit.inBlock, if_true]; exact h
theorem xt_ret {Kx : Act → World → Prop} {a : Act} {w : World} (h : Q .ret a w) : Exit.then Kx Q .ret a w := h
theorem xt_exit {Kx : Act → World → Prop} {id : Nat} {a : Act} {w : World} (h : Q (.exit id) a w) : Exit.then Kx Q (.exit id) a w := h
theorem xt_norm {Kx : Act → World → Prop} {a : Act} {w : World} (h : Kx a w) : Exit.then Kx Q .normal a w := h
theorem xb_ret {id : Nat} {a : Act} {w : World} (h : Q .ret a w) : Exit.inBlock id Q .ret a w := h
theorem xb_norm {id : Nat} {a : Act} {w : World} (h : Q .normal a w) : Exit.inBlock id Q .normal a w := h
theorem vc_cond {c : Operand} {x y : Code} {t : Bool} (hK : Kn n K a) (hc : ∀ J, rho K J c = .bool t) (h : (if t = true then x else y).wp P Q a w) : (Code.cond c x y).wp P Q a w :=
 wp_cond (t := t) (by rw [hK.eval]; exact hc _) h
theorem vc_loop {γ : Type} {c : Code} (I : γ → Act → World → Prop) (μ : γ → Nat) (x0 : γ) (h0 : I x0 a w)
  (round : ∀ x a w, I x a w → c.wp P (Exit.then (fun a' w' => ∃ y, I y a' w' ∧ μ y < μ x) Q) a w) : (Code.loop c).wp P Q a w := by
 intro b k cs; have key : ∀ m x a w, μ x = m → I x a w → ∃ e a' w', Q e a' w' ∧ Arrives P (lone (b.at a (.code c :: .inLoop c :: k)) cs w) b k cs e a' w' := by
  intro m
  induction m using Nat.strongRecOn with
  | _ m ih =>
   intro x a w hx hI; obtain ⟨e, a₁, w₁, hq, harr⟩ := round x a w hI b (.inLoop c :: k) cs; cases e with
   | normal =>
    obtain ⟨y, hI₁, hlt⟩ := hq; obtain ⟨e₂, a₂, w₂, hq₂, harr₂⟩ := ih (μ y) (hx ▸ hlt) y a₁ w₁ rfl hI₁; exact ⟨e₂, a₂, w₂, hq₂, .of_steps (Steps.trans harr (.one step_inLoop)) harr₂⟩
   | exit id => exact ⟨_, a₁, w₁, hq, .pass (x := .inLoop c) rfl (fun _ _ => .inl (by simp)) harr⟩
   | goto l => exact ⟨_, a₁, w₁, hq, .pass (x := .inLoop c) rfl (fun _ _ => .inl (by simp)) harr⟩
   | ret => exact ⟨_, a₁, w₁, hq, .pass (x := .inLoop c) rfl (fun _ _ => .inl (by simp)) harr⟩
   | panic ch => exact ⟨_, a₁, w₁, hq, .pass (x := .inLoop c) rfl (fun _ _ => .inl (by simp)) harr⟩
   | outgrown => exact ⟨_, a₁, w₁, hq, .pass (x := .inLoop c) rfl (fun _ _ => .inl (by simp)) harr⟩
 obtain ⟨e, a', w', hq, harr⟩ := key _ x0 a w rfl h0; exact ⟨e, a', w', hq, .of_steps (.one step_loop) harr⟩
def argK : List Value → Nat → List (Nat × Value)
 | [], _ => []
 | v :: l, i => (i, v) :: argK l (i + 1)
theorem argK_look : ∀ (l : List Value) (i j : Nat) (v : Value), look (argK l i) j = some v → i ≤ j ∧ l[j - i]? = some v
 | [], _, _, _, h => by simp [argK, look] at h
 | u :: l, i, j, v, h => by
  unfold argK look at h; cases hb : Nat.beq i j with
  | true =>
   simp only [hb, Option.some.injEq] at h; have e : i = j := Nat.eq_of_beq_eq_true hb; subst e h
   simp
  | false =>
   simp only [hb] at h; obtain ⟨h1, h2⟩ := argK_look l (i + 1) j v h; refine ⟨by omega, ?_⟩; rw [show j - i = (j - (i + 1)) + 1 by omega]
   simpa using h2
theorem vc_enter {f : FuncId} {fn : Func} {c : Code} {args : List Value} {R : Ending → World → Prop} (hf : P.funcs[f]? = some fn) (hb : fn.body = some c) (hn : fn.ntmps = n) (hs : Nat.ble args.length n = true)
  (h : ∀ a, Kn n (argK args 0) a → c.wp P (bodyPost P fn R) a w) : Calls P f args.toArray w R := by
 refine calls_of_wp hf hb (h _ ⟨rfl, ?_, fun i v hv => ?_⟩)
 ·have : args.length ≤ n := Nat.le_of_ble_eq_true hs
  simp [hn]; omega
 ·obtain ⟨_, h2⟩ := argK_look args 0 i v hv; have hi : i < args.length := by
   have := (List.getElem?_eq_some_iff.1 h2).1; omega
  rw [Array.getElem?_append_left (by simpa using hi)]
  simpa using h2
def resF (fn : Func) (f : Nat → Value) : Sem Value := do
 let vs ← fn.results.mapM fun
  | .tmp t => pure (f t)
  | .cell a t => do loadVar t (← asAddr (f a))
 pure (if h : vs.size = 1 then vs[0] else .tuple vs)
theorem vc_ret {fn : Func} {R : Ending → World → Prop} {vs : List Value} {obs : List (Addr × Value)} (hK : Kn n K a) (he : ∀ J, sx P (resF fn fun t => rho K J (.tmp t)) vs = some (v', obs)) (ho : Obs w obs) (hv : v' = v) (hR : R (.returned v) w) : bodyPost P fn R .ret a w := by
 refine ⟨hK.d, v, ?_, hR⟩; have e : results fn a.tmps = resF fn fun t => a.tmps.getD t undef := rfl
 rw [e, hK.slot, ← hv]; exact sx_run _ (he _) ho
end
end Go.Proofs.YtmfjcachghboiaaDoor
namespace Go.Proofs.YtmfjcachghboiaaDoor
open Go.RowKit
section
variable {n : Nat} {K K' : List (Nat × Value)} {a : Act} {P : Program} {w w0 : World} {ops : Array Oper} {Q : Exit → Act → World → Prop} {o : Oper} {rest : List Oper} {d : Nat} {v v' : Value} {l l' : List It}
def Rec (w : World) (b o : Nat) (cs : List Value) : Prop := ∀ j v, cs[j]? = some v → w.cell? ⟨b, o + j, none⟩ = some v
theorem row_open {α : Type} {f : α → List Value} {m : Nat} {w : World} {A : Option Addr} {l : List α} {k : Nat} {x : α} (hm : ∀ x, (f x).length = m) (h : ∀ W, Below w.heap.size w W → Rd W A (l.flatMap f)) (h0 : 0 < m) (hx : l[k]? = some x) :
  ∃ b o, A = some ⟨b, o, none⟩ ∧ ∀ W, Below w.heap.size w W → ∀ i x, l[i]? = some x → Rec W b (o + i * m) (f x) := by
 have hk : k < l.length := (List.getElem?_eq_some_iff.1 hx).1; have flen : ∀ l : List α, (l.flatMap f).length = l.length * m := by
  intro l
  induction l with
  | nil => simp
  | cons x l ih => rw [List.flatMap_cons, List.length_append, hm, ih, List.length_cons, Nat.add_mul, Nat.one_mul, Nat.add_comm]
 have fget : ∀ (l : List α) (i j : Nat) (x : α), l[i]? = some x → j < m → (l.flatMap f)[i * m + j]? = (f x)[j]? := by
  intro l
  induction l with
  | nil => intro i j x h; simp at h
  | cons y l ih =>
   intro i j x h hj; rw [List.flatMap_cons]; cases i with
   | zero =>
    simp only [List.getElem?_cons_zero, Option.some.injEq] at h; subst h; rw [Nat.zero_mul, Nat.zero_add, List.getElem?_append_left (by rw [hm]; exact hj)]
   | succ i =>
    simp only [List.getElem?_cons_succ] at h; rw [List.getElem?_append_right (by rw [hm, Nat.add_mul]; omega), hm, show (i + 1) * m + j - m = i * m + j by rw [Nat.add_mul]; omega]; exact ih i j x h hj
 have hne : l.flatMap f ≠ [] := by
  intro e; have := flen l; rw [e] at this; simp only [List.length_nil] at this; have := Nat.mul_pos (show 0 < l.length by omega) h0; omega
 obtain ⟨b, o, rfl, _, _⟩ := h w (Below.refl _ _) hne; refine ⟨b, o, rfl, fun W hW i x hx j v hv => ?_⟩; obtain ⟨b', o', e, _, hc⟩ := h W hW hne
 injection e with e
 injection e with e1 e2
 subst e1 e2; have hj : j < m := by have := (List.getElem?_eq_some_iff.1 hv).1; rwa [hm] at this
 rw [Nat.add_assoc]; exact hc _ _ (by rw [fget l i j x hx hj]; exact hv)
theorem add_addr (b off j : Nat) : (⟨b, off, none⟩ : Addr).add j = ⟨b, off + j, none⟩ := by
 unfold Addr.add
 split
 ·next h => rw [h, Nat.add_zero]
 ·rfl
theorem ix_slice {P : Program} {T e : TypeId} {i : TypeInfo} {b off len c j m : Nat} {k : IntKind} (hT : P.underlying T = some (.slice e)) (hi : P.info? e = some i) (hm : i.size = m) (hj : j < len) :
  sx P (Instr.indexAt T (.slice (some ⟨b, off, none⟩) len c) (.int k (j : Int))) [] = some (.pointer (some ⟨b, off + j * m, none⟩), []) := by
 have h1 : (0 : Int) ≤ (j : Int) ∧ (j : Int) < (len : Int) := by omega
 simp only [Instr.indexAt, asIntOf, underlying, program, bind, Sem.bind, pure, sx, hT, h1, and_self, if_true, sizeOf, typeInfo, hi, hm, add_addr, Int.toNat_natCast]
theorem Ev.grow (h : Ev w0 w l) (i : Nat) : True := trivial
end
end Go.Proofs.YtmfjcachghboiaaDoor
namespace Go.Proofs.YtmfjcachghboiaaDoor
open Go.RowKit
section
variable {n : Nat} {K K' : List (Nat × Value)} {a : Act} {P : Program} {w w0 : World} {ops : Array Oper} {Q : Exit → Act → World → Prop} {o : Oper} {rest : List Oper} {d : Nat} {v v' : Value} {l l' : List It}
def growAt (v : Value) (k : Nat) (xs : List Value) : Nat → List It → Option (List It)
 | 0, .own e m _ _ _ :: l => some (.own e m v k xs :: l)
 | i + 1, .blk g t c :: l => (growAt v k xs i l).map fun l' => .blk g t c :: l'
 | i + 1, .own e m u j ys :: l => (growAt v k xs i l).map fun l' => .own e m u j ys :: l'
 | _, _ => none
theorem apart_grow {v u : Value} {k j m : Nat} {e : TypeId} {xs ys : List Value} : ∀ {i : Nat} {l l' : List It}, growAt v k xs i l = some l' → l[i]? = some (.own e m u j ys) → ∀ x, (∀ g, x = some g → v.ownBlock ≠ some g) → apart x l → apart x l'
 | 0, .own e' m' u' j' ys' :: l, l', h, hi, x, hx, ha => by simp only [growAt, Option.some.injEq] at h; subst h; exact ⟨hx, ha.2⟩
 | i + 1, .blk g t c :: l, l', h, hi, x, hx, ha => by
  simp only [growAt, Option.map_eq_some_iff] at h; obtain ⟨q, h1, rfl⟩ := h; exact apart_grow (l := l) h1 (by simpa using hi) x hx ha
 | i + 1, .own e' m' u' j' ys' :: l, l', h, hi, x, hx, ha => by
  simp only [growAt, Option.map_eq_some_iff] at h; obtain ⟨q, h1, rfl⟩ := h; exact ⟨ha.1, apart_grow (l := l) h1 (by simpa using hi) x hx ha.2⟩
theorem Ok.older {B : Nat} {w w' : World} {b : Nat} {r : Option Nat} (hg : w.grownBy w' r) (hr : ∀ k, r = some k → b ≤ k) (hbs : b ≤ w.heap.size) : ∀ {l : List It} {n : Nat}, n ≤ b → apart r l → Ok B w n l → Ok B w' n l
 | [], _, _, _, h => h
 | .blk g t cs :: l, n, hn, ha, h => ⟨h.1, (hg.block g (by have := h.1; omega) (fun e => by have := hr g e.symm; have := h.1; omega)).trans h.2.1, h.2.2.1, Ok.older hg hr hbs (by have := h.1; omega) ha h.2.2.2⟩
 | .own _ _ u _ _ :: l, n, hn, ha, h => by
  obtain ⟨c, h1, h2, h3, h4⟩ := h; refine ⟨c, h1, own_keep h2 (fun k hk => hg.block k (own_lt h2 hk).2 (fun e => ?_)), h3, Ok.older hg hr hbs (by omega) ha.2 h4⟩; exact ha.1 k e.symm hk
 | .dat p :: l, n, hn, ha, h => by
  obtain ⟨m, h1, h2, h3⟩ := h; have hb : Below m w w' := (Below.refl m w).grown hg (by omega) (fun k hk => by have := hr k hk; omega); exact ⟨m, h1, fun W hW => h2 W (hb.trans hW), Ok.older hg hr hbs (by omega) ha h3⟩
theorem Ok.grow {B : Nat} {w w' : World} {v u : Value} {k j m : Nat} {e : TypeId} {xs ys : List Value} (hg : w.grownBy w' u.ownBlock) (hv : v.ownBlock = u.ownBlock ∨ v.ownBlock = some w.heap.size) (hn : ∀ b, w.ownsRow b e m u j ys → b ≤ w.heap.size → w'.ownsRow b e m v k xs) :
  ∀ {l l' : List It} {n i : Nat}, n ≤ w.heap.size → Ok B w n l → l[i]? = some (.own e m u j ys) → growAt v k xs i l = some l' → Ok B w' n l'
 | [], _, _, i, _, _, hi, _ => by simp at hi
 | .dat _ :: l, l', n, i, _, h, hi, hs => by cases i <;> simp [growAt] at hs
 | .blk g t c :: l, l', n, 0, _, h, hi, hs => by simp [growAt] at hs
 | .own e' m' u' j' ys' :: l, l', n, 0, hns, h, hi, hs => by
  simp only [List.getElem?_cons_zero, Option.some.injEq, It.own.injEq] at hi; obtain ⟨rfl, rfl, rfl, rfl, rfl⟩ := hi; simp only [growAt, Option.some.injEq] at hs; subst hs; obtain ⟨b, h1, h2, h3, h4⟩ := h; have hlow : apart v.ownBlock l := by
   rcases hv with hv | hv
   ·rw [hv]; exact h3
   ·rw [hv]; exact Ok.apart_new (Nat.le_refl _) h4
  exact ⟨b, h1, hn b h2 (by omega), hlow, Ok.older hg (fun k hk => (own_lt h2 hk).1) (by omega) (Nat.le_refl _) h3 h4⟩
 | .blk g t c :: l, l', n, i + 1, hns, h, hi, hs => by
  simp only [growAt, Option.map_eq_some_iff] at hs; obtain ⟨q, h1, rfl⟩ := hs; have hi' : l[i]? = some (.own e m u j ys) := by simpa using hi
  have hne : u.ownBlock ≠ some g := apart_of h.2.2.1 hi'; have hgs : g < w.heap.size := Nat.lt_of_lt_of_le h.1 hns; refine ⟨h.1, (hg.block g hgs (fun e => hne e.symm)).trans h.2.1, apart_grow h1 hi' _ (fun g' e hv' => ?_) h.2.2.1, Ok.grow hg hv hn (by omega) h.2.2.2 hi' h1⟩
  injection e with e
  subst e; rcases hv with hv | hv
  ·exact hne (hv ▸ hv')
  ·rw [hv] at hv'; injection hv' with hv'; omega
 | .own e' m' u' j' ys' :: l, l', n, i + 1, hns, h, hi, hs => by
  simp only [growAt, Option.map_eq_some_iff] at hs; obtain ⟨q, h1, rfl⟩ := hs; have hi' : l[i]? = some (.own e m u j ys) := by simpa using hi
  obtain ⟨b, h2, h3, h4, h5⟩ := h; have hne : ∀ g, u'.ownBlock = some g → u.ownBlock ≠ some g := fun g hg' => apart_of (hg' ▸ h4) hi'
  refine ⟨b, h2, own_keep h3 (fun g hg' => hg.block g (own_lt h3 hg').2 (fun e => hne g hg' e.symm)), apart_grow h1 hi' _ (fun g' e hv' => ?_) h4, Ok.grow hg hv hn (by omega) h5 hi' h1⟩; rcases hv with hv | hv
  ·exact hne g' e (hv ▸ hv')
  ·rw [hv] at hv'; injection hv' with hv'; have := (own_lt h3 e).2; omega
theorem Ev.rd (h : Ev w0 w l) (i : Nat) {e : TypeId} {m k c : Nat} {A : Option Addr} {xs : List Value} (hi : l[i]? = some (.own e m (.slice A k c) k xs)) : Rd w A xs := by
 obtain ⟨b, _, hr⟩ := h.row i hi; exact Rd.of_own hr
theorem hd_of {i : Nat} (ho : ops[i]? = some o) (hK : Kn n K a) (hg : gd ops K o = some true) {Kx : Act → World → Prop} (h : o.wp P a w Kx Q) : wpOp P ops Q i Kx a w := by
 unfold wpOp; simp only [ho]; rw [hK.wanted hg, if_pos rfl]; exact .inl h
theorem Ev.drew (h : Ev w0 w l) : Ev w0 w.drew l := h.call (Below.refl _ _).drew
def allOf (p : Nat → Prop) : List Nat → Prop
 | [] => True
 | i :: l => p i ∧ allOf p l
theorem allOf_mem {p : Nat → Prop} : ∀ {l : List Nat}, allOf p l → ∀ i ∈ l, p i
 | _ :: l, h, i, hi => by
  rcases List.mem_cons.1 hi with rfl | hi
  ·exact h.1
  ·exact allOf_mem h.2 i hi
end
end Go.Proofs.YtmfjcachghboiaaDoor
namespace Go.Proofs.YtmfjcachghboiaaDoor
open Go.RowKit
section
variable {n : Nat} {K K' : List (Nat × Value)} {a : Act} {P : Program} {w w0 : World} {ops : Array Oper} {Q : Exit → Act → World → Prop} {o : Oper} {rest : List Oper} {d : Nat} {v v' : Value} {l l' : List It}
def ownAt (m k : Nat) : Nat → List It → Option (List It)
 | 0, .blk g t cs :: l => some (.own t m (.slice (some ⟨g, 0, none⟩) k k) k cs.toList :: l)
 | i + 1, .blk g t c :: l => (ownAt m k i l).map fun l' => .blk g t c :: l'
 | i + 1, .own e m' u j ys :: l => (ownAt m k i l).map fun l' => .own e m' u j ys :: l'
 | i + 1, .dat p :: l => (ownAt m k i l).map fun l' => .dat p :: l'
 | _, _ => none
theorem apart_ownAt {m k g : Nat} {t : TypeId} {cs : Array Value} : ∀ {i : Nat} {l l' : List It}, ownAt m k i l = some l' → l[i]? = some (.blk g t cs) → ∀ x, (∀ j, x = some j → j ≠ g) → apart x l → apart x l'
 | 0, .blk g' t' c' :: l, l', h, hi, x, hx, ha => by
  simp only [List.getElem?_cons_zero, Option.some.injEq, It.blk.injEq] at hi; obtain ⟨rfl, rfl, rfl⟩ := hi; simp only [ownAt, Option.some.injEq] at h; subst h; refine ⟨fun j hj e => hx j hj ?_, ha⟩; simp only [Value.ownBlock, Option.some.injEq] at e; exact e.symm
 | i + 1, .blk _ _ _ :: l, l', h, hi, x, hx, ha => by
  simp only [ownAt, Option.map_eq_some_iff] at h; obtain ⟨q, h1, rfl⟩ := h; exact apart_ownAt (l := l) h1 (by simpa using hi) x hx ha
 | i + 1, .dat _ :: l, l', h, hi, x, hx, ha => by
  simp only [ownAt, Option.map_eq_some_iff] at h; obtain ⟨q, h1, rfl⟩ := h; exact apart_ownAt (l := l) h1 (by simpa using hi) x hx ha
 | i + 1, .own _ _ _ _ _ :: l, l', h, hi, x, hx, ha => by
  simp only [ownAt, Option.map_eq_some_iff] at h; obtain ⟨q, h1, rfl⟩ := h; exact ⟨ha.1, apart_ownAt (l := l) h1 (by simpa using hi) x hx ha.2⟩
theorem Ok.ownAt_ {B : Nat} {w : World} {m k g : Nat} {t : TypeId} {cs : Array Value} (hs : cs.size = k * m) (hk : k ≤ maxLen) : ∀ {l l' : List It} {n i : Nat}, Ok B w n l → l[i]? = some (.blk g t cs) → ownAt m k i l = some l' → Ok B w n l'
 | [], _, _, i, _, hi, _ => by simp at hi
 | .blk g' t' c' :: l, l', n, 0, h, hi, ho => by
  simp only [List.getElem?_cons_zero, Option.some.injEq, It.blk.injEq] at hi; obtain ⟨rfl, rfl, rfl⟩ := hi; simp only [ownAt, Option.some.injEq] at ho; subst ho; obtain ⟨h1, h2, h3, h4⟩ := h; exact ⟨g', Nat.le_of_lt h1, ⟨by simp [hs], .inr ⟨g', k, c', rfl, Nat.le_refl _, h2, Nat.le_refl _, hk, hs, by rw [List.take_of_length_le (by simp [hs])]⟩⟩, h3, h4⟩
 | .own _ _ _ _ _ :: l, l', n, 0, h, hi, ho => by simp at hi
 | .dat _ :: l, l', n, 0, h, hi, ho => by simp at hi
 | .blk g' t' c' :: l, l', n, i + 1, h, hi, ho => by
  simp only [ownAt, Option.map_eq_some_iff] at ho; obtain ⟨q, h1, rfl⟩ := ho; have hi' : l[i]? = some (.blk g t cs) := by simpa using hi
  have hlt := Ok.lt_of h.2.2.2 hi'; exact ⟨h.1, h.2.1, apart_ownAt h1 hi' _ (fun j hj e => by injection hj with hj; omega) h.2.2.1, Ok.ownAt_ hs hk h.2.2.2 hi' h1⟩
 | .dat p :: l, l', n, i + 1, h, hi, ho => by
  simp only [ownAt, Option.map_eq_some_iff] at ho; obtain ⟨q, h1, rfl⟩ := ho; obtain ⟨b, h2, h3, h4⟩ := h; exact ⟨b, h2, h3, Ok.ownAt_ hs hk h4 (by simpa using hi) h1⟩
 | .own _ _ u _ _ :: l, l', n, i + 1, h, hi, ho => by
  simp only [ownAt, Option.map_eq_some_iff] at ho; obtain ⟨q, h1, rfl⟩ := ho; have hi' : l[i]? = some (.blk g t cs) := by simpa using hi
  obtain ⟨b, h2, h3, h4, h5⟩ := h; have hlt := Ok.lt_of h5 hi'; exact ⟨b, h2, h3, apart_ownAt h1 hi' _ (fun j hj e => by have := (own_lt h3 hj).1; omega) h4, Ok.ownAt_ hs hk h5 hi' h1⟩
theorem Ev.own (h : Ev w0 w l) (i m k : Nat) {g : Nat} {t : TypeId} {cs : Array Value} (hi : l[i]? = some (.blk g t cs)) (hs : cs.size = k * m) (hk : k ≤ maxLen) (ho : ownAt m k i l = some l') : Ev w0 w l' := ⟨h.b, Ok.ownAt_ hs hk h.k hi ho⟩
end
end Go.Proofs.YtmfjcachghboiaaDoor
namespace Go.Proofs.YtmfjcachghboiaaDoor
open Go.RowKit
section
variable {n : Nat} {K : List (Nat × Value)} {a : Act} {P : Program} {w w0 : World} {ops : Array Oper} {Q : Exit → Act → World → Prop} {o : Oper} {rest : List Oper} {d : Nat} {v v' : Value} {l l' : List It}
end
end Go.Proofs.YtmfjcachghboiaaDoor
namespace Go.Proofs.YtmfjcachghboiaaDoor
open Go.RowKit
section
variable {n : Nat} {K : List (Nat × Value)} {a : Act} {P : Program} {w w0 : World} {ops : Array Oper} {Q : Exit → Act → World → Prop} {o : Oper} {rest : List Oper} {d : Nat} {v v' : Value} {l l' : List It}
theorem st_run (hK : Kn n K a) (hg : gd ops K o = some true) (hr : ∀ J W, (execOp (rho K J) o).run P W = .ok (.value v') W) (hv : v' = v) (hd : o.dst = some d) (hn : Nat.blt d n = true)
  (h : ∀ a', Kn n ((d, v) :: K) a' → wpList P ops Q rest a' w) : wpList P ops Q (o :: rest) a w := by
 refine st_of hK hg ?_; rw [if_pos rfl]; unfold Oper.wp Oper.upon; rw [hK.eval, hr, hd, hv]; exact h _ (hK.put hn v)
theorem qs_run {B : Nat} {Q : Act → Prop} (hK : Kn n K a) (hg : gd ops K o = some true) (hr : ∀ J W, (execOp (rho K J) o).run P W = .ok (.value v') W) (hv : v' = v) (hd : o.dst = some d) (hn : Nat.blt d n = true)
  (h : ∀ a', Kn n ((d, v) :: K) a' → wpQuiet P ops (fun w' => ∃ x : Fut B w, w' = x.v) Q rest a') : wpQuiet P ops (fun w' => ∃ x : Fut B w, w' = x.v) Q (o :: rest) a := by
 refine wpQuiet_step fun Kx hx => ?_
 rw [hK.wanted hg, if_pos rfl]; refine ⟨v, ?_, hx _ (by rw [hd]; exact h _ (hK.put hn v))⟩; rintro _ ⟨x, rfl⟩; unfold Oper.quietAt; rw [hK.eval, hr, hv]; exact ⟨rfl, rfl⟩
theorem run_v {α : Type} {s : Sem α} {f : α → Next} {r : α} {W : World} (h : s.run P W = .ok r W) : Sem.run P (do pure (f (← s))) W = .ok (f r) W := by
 rw [Sem.run_bind, h]; rfl
theorem ex_eq {bop : BinOp} {T yT : TypeId} {x y : Operand} {u1 u2 r : Value} (hop : o.op = .binOp bop T x y yT) (hx : ∀ J, rho K J x = u1) (hy : ∀ J, rho K J y = u2) (hg : sx P (eqGuard bop T x y u1 u2) [] = some ((), [])) (hr : ∀ W, (binOp bop T u1 u2).run P W = .ok r W) :
  ∀ J W, (execOp (rho K J) o).run P W = .ok (.value r) W := fun J W => by
 have e : execOp (rho K J) o = (do pure (.value (← (do eqGuard bop T x y (rho K J x) (rho K J y); binOp bop T (rho K J x) (rho K J y))))) := by unfold execOp; rw [hop]
 rw [e, hx, hy]; refine run_v ?_; rw [Sem.run_bind, sx_run _ hg trivial]; exact hr W
theorem ex_int {bop : BinOp} {T yT : TypeId} {x y : Operand} {k : IntKind} {p q : Int} {r : Value} (hop : o.op = .binOp bop T x y yT) (hx : ∀ J, rho K J x = .int k p) (hy : ∀ J, rho K J y = .int k q) (hg : sx P (eqGuard bop T x y (.int k p) (.int k q)) [] = some ((), [])) (hr : ∀ W, (binOp bop T (.int k p) (.int k q)).run P W = .ok r W) :
  ∀ J W, (execOp (rho K J) o).run P W = .ok (.value r) W := ex_eq hop hx hy hg hr
theorem run_rem {T : TypeId} {k : IntKind} {p q : Int} (hq : q ≠ 0) (W : World) : (binOp .rem T (.int k p) (.int k q)).run P W = .ok (.int k (p.tmod q)) W := by
 simp [binOp, Op.intDiv, hq, pure, Sem.run]
theorem run_quo {T : TypeId} {k : IntKind} {p q : Int} (hq : q ≠ 0) (W : World) : (binOp .quo T (.int k p) (.int k q)).run P W = .ok (.int k (k.wrap (p.tdiv q))) W := by
 simp [binOp, Op.intDiv, hq, pure, Sem.run]
end
end Go.Proofs.YtmfjcachghboiaaDoor
namespace Go.Proofs.YtmfjcachghboiaaDoor
open Go.RowKit
def insAt (p : World → Prop) : Nat → List It → List It
 | 0, l => .dat p :: l
 | i + 1, x :: l => x :: insAt p i l
 | _ + 1, [] => []
theorem apart_ins {p : World → Prop} {x : Option Nat} : ∀ (i : Nat) {l : List It}, apart x l → apart x (insAt p i l)
 | 0, l, h => h
 | i + 1, [], h => h
 | i + 1, .blk _ _ _ :: l, h => apart_ins (l := l) i h
 | i + 1, .dat _ :: l, h => apart_ins (l := l) i h
 | i + 1, .own _ _ _ _ _ :: l, h => ⟨h.1, apart_ins (l := l) i h.2⟩
theorem Ok.ins {B : Nat} {w : World} {p q : World → Prop} (hp : ∀ W, q W → p W) : ∀ (i : Nat) {l : List It} {n : Nat}, Ok B w n l → l[i]? = some (.dat q) → Ok B w n (insAt p i l)
 | 0, [], n, h, hi => by simp at hi
 | 0, .blk _ _ _ :: l, n, h, hi => by simp at hi
 | 0, .own _ _ _ _ _ :: l, n, h, hi => by simp at hi
 | 0, .dat r :: l, n, h, hi => by
  simp only [List.getElem?_cons_zero, Option.some.injEq, It.dat.injEq] at hi; subst hi; obtain ⟨m, h1, h2, h3⟩ := h; exact ⟨m, h1, fun W hW => hp W (h2 W hW), m, Nat.le_refl _, h2, h3⟩
 | i + 1, [], n, h, hi => by simp at hi
 | i + 1, .blk _ _ _ :: l, n, h, hi => ⟨h.1, h.2.1, apart_ins i h.2.2.1, Ok.ins hp i h.2.2.2 (by simpa using hi)⟩
 | i + 1, .own _ _ _ _ _ :: l, n, h, hi => by
  obtain ⟨b, h1, h2, h3, h4⟩ := h; exact ⟨b, h1, h2, apart_ins i h3, Ok.ins hp i h4 (by simpa using hi)⟩
 | i + 1, .dat _ :: l, n, h, hi => by
  obtain ⟨b, h1, h2, h4⟩ := h; exact ⟨b, h1, h2, Ok.ins hp i h4 (by simpa using hi)⟩
theorem Ev.from_ {w0 w : World} {l : List It} (h : Ev w0 w l) (i : Nat) {p q : World → Prop} (hi : l[i]? = some (.dat q)) (hp : ∀ W, q W → p W) : Ev w0 w (insAt p i l) := ⟨h.b, Ok.ins hp i h.k hi⟩
theorem rd_some {w : World} {A : Option Addr} {cs : List Value} (h : Rd w A cs) (hn : cs ≠ []) : ∃ b o, A = some ⟨b, o, none⟩ := by
 obtain ⟨b, o, h1, _⟩ := h hn; exact ⟨b, o, h1⟩
theorem row_some {α : Type} {f : α → List Value} {m : Nat} {w : World} {A : Option Addr} {l : List α} {k : Nat} {x : α} (hm : ∀ x, (f x).length = m) (h : Rd w A (l.flatMap f)) (h0 : 0 < m) (hx : l[k]? = some x) : ∃ b o, A = some ⟨b, o, none⟩ := by
 refine rd_some h fun e => ?_
 have hmem := List.mem_of_getElem? hx; have : f x = [] := by
  have := List.flatMap_eq_nil_iff.1 e x hmem; exact this
 have h1 := hm x; rw [this] at h1
 simp at h1
 omega
theorem row_recs {α : Type} {f : α → List Value} {m : Nat} {W : World} {A : Option Addr} {l : List α} {b o : Nat} (hm : ∀ x, (f x).length = m) (h0 : 0 < m) (hA : A = some ⟨b, o, none⟩) (h : Rd W A (l.flatMap f)) : ∀ i x, l[i]? = some x → Rec W b (o + i * m) (f x) := by
 intro i x hx; have hd : ∀ V, Below W.heap.size W V → Rd V A (l.flatMap f) := fun V hV => h.below hV (Nat.le_refl _)
 obtain ⟨b', o', e, hr⟩ := row_open hm hd h0 hx; rw [hA] at e
 injection e with e
 injection e with e1 e2
 subst e1 e2; exact hr W (Below.refl _ _) i x hx
end Go.Proofs.YtmfjcachghboiaaDoor
namespace Go.Proofs.YtmfjcachghboiaaDoor
open Go.RowKit
structure Wr1 (w w' : World) (g : Nat) (t : TypeId) (cs : Array Value) : Prop where
 s : w'.heap.size = w.heap.size
 k : ∀ k, k ≠ g → w'.heap[k]? = w.heap[k]?
 b : Below g w w'
 n : Blk w' g t cs
section
variable {n : Nat} {K : List (Nat × Value)} {a : Act} {P : Program} {w : World} {ops : Array Oper} {Q : Exit → Act → World → Prop} {o : Oper} {rest : List Oper} {v v' : Value}
end
end Go.Proofs.YtmfjcachghboiaaDoor
namespace Go.Proofs.YtmfjcachghboiaaDoor
open Go.RowKit
structure Ag (S : Nat → Prop) (w W : World) : Prop where
 size : w.heap.size ≤ W.heap.size
 block : ∀ g, S g → W.heap[g]? = w.heap[g]?
theorem Ag.refl (S : Nat → Prop) (w : World) : Ag S w w := ⟨Nat.le_refl _, fun _ _ => rfl⟩
theorem Ag.trans {S : Nat → Prop} {a b c : World} (h : Ag S a b) (k : Ag S b c) : Ag S a c := ⟨Nat.le_trans h.size k.size, fun g hg => (k.block g hg).trans (h.block g hg)⟩
theorem Ag.mono {S S' : Nat → Prop} {a b : World} (h : Ag S' a b) (hs : ∀ g, S g → S' g) : Ag S a b := ⟨h.size, fun g hg => h.block g (hs g hg)⟩
theorem Ag.cell {S : Nat → Prop} {w W : World} (h : Ag S w W) {b o : Nat} (hb : S b) : W.cell? ⟨b, o, none⟩ = w.cell? ⟨b, o, none⟩ := World.cell?_of_block (w := w) (h.block b hb)
theorem Ag.below {S : Nat → Prop} {w W : World} (h : Below w.heap.size w W) (hs : ∀ g, S g → g < w.heap.size) : Ag S w W := ⟨h.size, fun g hg => h.block g (hs g hg)⟩
structure RecS (S : Nat → Prop) (w : World) (b o : Nat) (cs : List Value) : Prop where
 r : Rec w b o cs
 s : S b
theorem RecS.to {S S' : Nat → Prop} {w W : World} {b o : Nat} {cs : List Value} (h : RecS S w b o cs) (hS : ∀ g, S g → S' g) (hA : Ag S w W) : RecS S' W b o cs := ⟨fun j v hv => (hA.cell h.s).trans (h.r j v hv), hS _ h.s⟩
structure RowS (S : Nat → Prop) (w : World) (A : Option Addr) (xs : List Value) : Prop where
 r : Rd w A xs
 s : xs ≠ [] → ∃ b o, A = some ⟨b, o, none⟩ ∧ S b
theorem RowS.nil (S : Nat → Prop) (w : World) (A : Option Addr) : RowS S w A [] := ⟨Rd.nil w A, fun h => absurd rfl h⟩
theorem RowS.to {S S' : Nat → Prop} {w W : World} {A : Option Addr} {xs : List Value} (h : RowS S w A xs) (hS : ∀ g, S g → S' g) (hA : Ag S w W) : RowS S' W A xs := by
 refine ⟨fun hn => ?_, fun hn => ?_⟩
 ·obtain ⟨b, o, hA1, hb, hc⟩ := h.r hn; obtain ⟨b', o', hA2, hs⟩ := h.s hn; rw [hA1] at hA2
  injection hA2 with e
  injection e with e1 e2
  subst e1 e2; exact ⟨b, o, hA1, Nat.lt_of_lt_of_le hb hA.size, fun j u hu => (hA.cell hs).trans (hc j u hu)⟩
 ·obtain ⟨b, o, e, hs⟩ := h.s hn; exact ⟨b, o, e, hS b hs⟩
theorem RowS.elem {α : Type} {f : α → List Value} {m : Nat} {S : Nat → Prop} {w : World} {A : Option Addr} {l : List α} {j : Nat} {x : α} (h : RowS S w A (l.flatMap f)) (hm : ∀ x, (f x).length = m) (h0 : 0 < m) (hx : l[j]? = some x) : ∃ b o, A = some ⟨b, o, none⟩ ∧ RecS S w b (o + j * m) (f x) := by
 obtain ⟨b, o, hA⟩ := row_some hm h.r h0 hx; refine ⟨b, o, hA, row_recs hm h0 hA h.r j x hx, ?_⟩; have hn : l.flatMap f ≠ [] := fun e => by
  have := List.flatMap_eq_nil_iff.1 e x (List.mem_of_getElem? hx); have hl := hm x; rw [this] at hl
  simp at hl
  omega
 obtain ⟨b', o', e, hs⟩ := h.s hn; rw [hA] at e
 injection e with e
 injection e with e1 e2
 subst e1; exact hs
theorem fl_len {α : Type} (f : α → List Value) (m : Nat) (hm : ∀ x, (f x).length = m) (l : List α) : (l.flatMap f).length = l.length * m := by
 induction l with
 | nil => simp
 | cons x l ih => rw [List.flatMap_cons, List.length_append, ih, hm, List.length_cons, Nat.add_mul]; omega
def ext (S : Nat → Prop) (w w' : World) : Nat → Prop := fun g => S g ∨ (w.heap.size ≤ g ∧ g < w'.heap.size)
inductive Ik where
 | blk (g : Nat) (t : TypeId) (cs : Array Value)
 | own (e : TypeId) (m : Nat) (v : Value) (k : Nat) (xs : List Value)
 | dat (p : (Nat → Prop) → World → Prop)
def Ik.at : Ik → Option Nat
 | .blk g _ _ => some g
 | .own _ _ v _ _ => v.ownBlock
 | .dat _ => none
def Ik.ok (B : Nat) (S : Nat → Prop) (w : World) : Ik → Prop
 | .blk g t cs => B ≤ g ∧ ¬ S g ∧ Blk w g t cs
 | .own e m v k xs => (∃ b, B ≤ b ∧ w.ownsRow b e m v k xs) ∧ ∀ g, v.ownBlock = some g → ¬ S g
 | .dat p => ∀ (S' : Nat → Prop) (W : World), (∀ g, S g → S' g) → Ag S w W → p S' W
def Apt (x y : Ik) : Prop := ∀ g, x.at = some g → y.at ≠ some g
theorem Apt.symm {x y : Ik} (h : Apt x y) : Apt y x := fun g hy hx => h g hx hy
structure Es (S0 : Nat → Prop) (w0 w : World) (S : Nat → Prop) (l : List Ik) : Prop where
 b : Below w0.heap.size w0 w
 e : ∀ g, S g → S0 g ∨ w0.heap.size ≤ g
 lt : ∀ g, S g → g < w.heap.size
 k : ∀ y ∈ l, y.ok w0.heap.size S w
 p : l.Pairwise Apt
section
variable {S0 S : Nat → Prop} {w0 w w' : World} {l l' : List Ik}
theorem Ik.ok.lt {B : Nat} {y : Ik} (h : y.ok B S w) {g : Nat} (hg : y.at = some g) : B ≤ g ∧ g < w.heap.size := by
 cases y with
 | blk g' t cs => simp only [Ik.at, Option.some.injEq] at hg; subst hg; exact ⟨h.1, h.2.2.lt⟩
 | own e m v k xs => obtain ⟨⟨b, hb, hr⟩, _⟩ := h; have := own_lt hr hg; exact ⟨by omega, this.2⟩
 | dat p => cases hg
theorem Ik.ok.notin {B : Nat} {y : Ik} (h : y.ok B S w) {g : Nat} (hg : y.at = some g) : ¬ S g := by
 cases y with
 | blk g' t cs => simp only [Ik.at, Option.some.injEq] at hg; subst hg; exact h.2.1
 | own e m v k xs => exact h.2 g hg
 | dat p => cases hg
theorem Ik.ok.to {B : Nat} {S' : Nat → Prop} {y : Ik} (h : y.ok B S w) (hS : ∀ g, S g → S' g) (hn : ∀ g, y.at = some g → ¬ S' g) (hA : Ag S w w') (hb : ∀ g, y.at = some g → w'.heap[g]? = w.heap[g]?) : y.ok B S' w' := by
 cases y with
 | blk g t cs => exact ⟨h.1, hn g rfl, (hb g rfl).trans h.2.2⟩
 | own e m v k xs => obtain ⟨⟨b, hb', hr⟩, _⟩ := h; exact ⟨⟨b, hb', own_keep hr hb⟩, hn⟩
 | dat p => exact fun S'' W h1 h2 => h S'' W (fun g hg => h1 g (hS g hg)) (hA.trans (h2.mono hS))
theorem Es.start {w : World} (hS : ∀ g, S g → g < w.heap.size) : Es S w w S [] := ⟨Below.refl _ _, fun _ h => .inl h, hS, fun _ h => absurd h List.not_mem_nil, .nil⟩
theorem Es.ag (h : Es S0 w0 w S l) (hb : Below w.heap.size w w') : Ag S w w' := Ag.below hb h.lt
theorem Es.get (h : Es S0 w0 w S l) (i : Nat) {p : (Nat → Prop) → World → Prop} (hi : l[i]? = some (.dat p)) : p S w := h.k _ (List.mem_of_getElem? hi) S w (fun _ h => h) (Ag.refl _ _)
theorem Es.get' (h : Es S0 w0 w S l) (i : Nat) {p : (Nat → Prop) → World → Prop} (hi : l[i]? = some (.dat p)) {S' : Nat → Prop} (hs : ∀ g, S g → S' g) : p S' w := h.k _ (List.mem_of_getElem? hi) S' w hs (Ag.refl _ _)
theorem Es.sub (h : Es S0 w0 w S l) : ∀ g, S g → ext S0 w0 w g := fun g hg => by
 rcases h.e g hg with h1 | h1
 ·exact .inl h1
 ·exact .inr ⟨h1, h.lt g hg⟩
theorem Es.out (h : Es S0 w0 w S l) (i : Nat) {p : (Nat → Prop) → World → Prop} (hi : l[i]? = some (.dat p)) : p (ext S0 w0 w) w := h.get' i hi h.sub
theorem Es.blk (h : Es S0 w0 w S l) (i : Nat) {g : Nat} {t : TypeId} {cs : Array Value} (hi : l[i]? = some (.blk g t cs)) : Blk w g t cs := (h.k _ (List.mem_of_getElem? hi)).2.2
theorem Es.row (h : Es S0 w0 w S l) (i : Nat) {e : TypeId} {m k : Nat} {v : Value} {xs : List Value} (hi : l[i]? = some (.own e m v k xs)) : ∃ b, w0.heap.size ≤ b ∧ w.ownsRow b e m v k xs := (h.k _ (List.mem_of_getElem? hi)).1
theorem Es.rd (h : Es S0 w0 w S l) (i : Nat) {e : TypeId} {m k c : Nat} {A : Option Addr} {xs : List Value} (hi : l[i]? = some (.own e m (.slice A k c) k xs)) : Rd w A xs := by
 obtain ⟨b, _, hr⟩ := h.row i hi; exact Rd.of_own hr
theorem Es.rdAll (h : Es S0 w0 w S l) (i : Nat) {e : TypeId} {m k c : Nat} {A : Option Addr} {xs : List Value} (hi : l[i]? = some (.own e m (.slice A k c) k xs)) : RowS (fun g => g < w.heap.size) w A xs := by
 refine ⟨h.rd i hi, fun hn => ?_⟩; obtain ⟨b, o, e, hb, _⟩ := h.rd i hi hn; exact ⟨b, o, e, hb⟩
theorem Es.blkAll (h : Es S0 w0 w S l) (i : Nat) {g : Nat} {t : TypeId} {cs : Array Value} (hi : l[i]? = some (.blk g t cs)) : RowS (fun g => g < w.heap.size) w (some ⟨g, 0, none⟩) cs.toList :=
 ⟨Rd.of_blk (h.blk i hi), fun _ => ⟨g, 0, rfl, (h.blk i hi).lt⟩⟩
theorem Es.getAll (h : Es S0 w0 w S l) (i : Nat) {p : (Nat → Prop) → World → Prop} (hi : l[i]? = some (.dat p)) : p (fun g => g < w.heap.size) w := h.get' i hi h.lt
theorem Es.dat (h : Es S0 w0 w S l) {p : (Nat → Prop) → World → Prop} (hp : ∀ (S' : Nat → Prop) (W : World), (∀ g, S g → S' g) → Ag S w W → p S' W) : Es S0 w0 w S (.dat p :: l) :=
 ⟨h.b, h.e, h.lt, fun y hy => by rcases List.mem_cons.1 hy with rfl | hy; exact hp; exact h.k y hy, List.pairwise_cons.2 ⟨fun _ _ _ hg => (by cases hg), h.p⟩⟩
theorem Es.from_ (h : Es S0 w0 w S l) (i : Nat) {p q : (Nat → Prop) → World → Prop} (hi : l[i]? = some (.dat q)) (hp : ∀ S' W, q S' W → p S' W) : Es S0 w0 w S (.dat p :: l) :=
 h.dat fun S' W h1 h2 => hp S' W (h.k _ (List.mem_of_getElem? hi) S' W h1 h2)
theorem Es.drop (h : Es S0 w0 w S l) (hs : List.Sublist l' l) : Es S0 w0 w S l' := ⟨h.b, h.e, h.lt, fun y hy => h.k y (hs.subset hy), h.p.sublist hs⟩
def selL (l : List Ik) : List Nat → Option (List Ik)
 | [] => some []
 | i :: is => match l[i]?, selL l is with
  | some x, some r => some (x :: r)
  | _, _ => none
def noIn (i : Nat) : List Nat → Bool
 | [] => true
 | j :: is => !(Nat.beq i j) && noIn i is
def ndB : List Nat → Bool
 | [] => true
 | i :: is => noIn i is && ndB is
theorem noIn_ne {i : Nat} : ∀ {is : List Nat}, noIn i is = true → ∀ j ∈ is, i ≠ j
 | k :: is, h, j, hj, e => by
  simp only [noIn, Bool.and_eq_true, Bool.not_eq_true'] at h; rcases List.mem_cons.1 hj with rfl | hj
  ·subst e; simp at h
  ·exact noIn_ne h.2 j hj e
theorem selL_mem {l : List Ik} : ∀ {is : List Nat} {r : List Ik}, selL l is = some r → ∀ y ∈ r, ∃ i ∈ is, l[i]? = some y
 | [], r, h, y, hy => by simp only [selL, Option.some.injEq] at h; subst h; cases hy
 | i :: is, r, h, y, hy => by
  unfold selL at h
  split at h
  ·next x r' hx hr' =>
   simp only [Option.some.injEq] at h; subst h; rcases List.mem_cons.1 hy with rfl | hy
   ·exact ⟨i, List.mem_cons_self, hx⟩
   ·obtain ⟨j, hj, e⟩ := selL_mem hr' y hy; exact ⟨j, List.mem_cons_of_mem _ hj, e⟩
  ·cases h
theorem apt_of {l : List Ik} (hp : l.Pairwise Apt) {i j : Nat} {x y : Ik} (hij : i ≠ j) (hx : l[i]? = some x) (hy : l[j]? = some y) : Apt x y := by
 have hpw := List.pairwise_iff_getElem.1 hp; obtain ⟨hi, rfl⟩ := List.getElem?_eq_some_iff.1 hx; obtain ⟨hj, rfl⟩ := List.getElem?_eq_some_iff.1 hy; rcases Nat.lt_or_gt_of_ne hij with h | h
 ·exact hpw i j hi hj h
 ·exact (hpw j i hj hi h).symm
theorem selL_pw {l : List Ik} (hp : l.Pairwise Apt) : ∀ {is : List Nat} {r : List Ik}, ndB is = true → selL l is = some r → r.Pairwise Apt
 | [], r, _, h => by simp only [selL, Option.some.injEq] at h; subst h; exact .nil
 | i :: is, r, hn, h => by
  unfold selL at h; simp only [ndB, Bool.and_eq_true] at hn
  split at h
  ·next x r' hx hr' =>
   simp only [Option.some.injEq] at h; subst h; refine List.pairwise_cons.2 ⟨fun y hy => ?_, selL_pw hp hn.2 hr'⟩; obtain ⟨j, hj, e⟩ := selL_mem hr' y hy; exact apt_of hp (noIn_ne hn.1 j hj) hx e
  ·cases h
theorem Es.sel (h : Es S0 w0 w S l) (is : List Nat) (hn : ndB is = true) (hl : selL l is = some l') : Es S0 w0 w S l' := by
 refine ⟨h.b, h.e, h.lt, fun y hy => ?_, selL_pw h.p hn hl⟩; obtain ⟨i, _, e⟩ := selL_mem hl y hy; exact h.k y (List.mem_of_getElem? e)
theorem Es.own0 (h : Es S0 w0 w S l) (e : TypeId) (m : Nat) : Es S0 w0 w S (.own e m (.slice none 0 0) 0 [] :: l) :=
 ⟨h.b, h.e, h.lt, fun y hy => by
  rcases List.mem_cons.1 hy with rfl | hy
  ·exact ⟨⟨w.heap.size, h.b.size, by simp, .inl ⟨rfl, rfl⟩⟩, fun g hg => (by cases hg)⟩
  ·exact h.k y hy, List.pairwise_cons.2 ⟨fun _ _ _ hg => (by cases hg), h.p⟩⟩
theorem Es.call (h : Es S0 w0 w S l) (hb : Below w.heap.size w w') : Es S0 w0 w' (ext S w w') l := by
 refine ⟨h.b.trans (hb.mono h.b.size), fun g hg => ?_, fun g hg => ?_, fun y hy => ?_, h.p⟩
 ·rcases hg with hg | ⟨hg, _⟩
  ·exact h.e g hg
  ·exact .inr (Nat.le_trans h.b.size hg)
 ·rcases hg with hg | ⟨_, hg⟩
  ·exact Nat.lt_of_lt_of_le (h.lt g hg) hb.size
  ·exact hg
 ·have hk := h.k y hy; refine hk.to (fun g hg => .inl hg) (fun g hg hs => ?_) (h.ag hb) (fun g hg => hb.block g (hk.lt hg).2); rcases hs with hs | ⟨hs, _⟩
  ·exact hk.notin hg hs
  ·have := (hk.lt hg).2; omega
theorem Es.same (h : Es S0 w0 w S l) (hb : Below w.heap.size w w') : Es S0 w0 w' S l := by
 refine ⟨h.b.trans (hb.mono h.b.size), h.e, fun g hg => Nat.lt_of_lt_of_le (h.lt g hg) hb.size, fun y hy => ?_, h.p⟩; have hk := h.k y hy; exact hk.to (fun g hg => hg) (fun g hg => hk.notin hg) (h.ag hb) (fun g hg => hb.block g (hk.lt hg).2)
theorem Es.drew (h : Es S0 w0 w S l) : Es S0 w0 w.drew S l := h.same (Below.refl _ _).drew
theorem Es.alloc (h : Es S0 w0 w S l) (cs : Array Value) (t : TypeId) : Es S0 w0 (w.alloc (.cells cs t)) S (.blk w.heap.size t cs :: l) := by
 have hb : Below w.heap.size w (w.alloc (.cells cs t)) := (Below.refl _ _).alloc (Nat.le_refl _) _; have h' := h.same hb; refine ⟨h'.b, h'.e, h'.lt, fun y hy => ?_, List.pairwise_cons.2 ⟨fun y hy g hg hg' => ?_, h.p⟩⟩
 ·rcases List.mem_cons.1 hy with rfl | hy
  ·exact ⟨h.b.size, fun hs => Nat.lt_irrefl _ (h.lt _ hs), Blk.new _ _ _⟩
  ·exact h'.k y hy
 ·simp only [Ik.at, Option.some.injEq] at hg; subst hg; have := ((h.k y hy).lt hg').2; omega
theorem Es.put {S' : Nat → Prop} (h : Es S0 w0 w S l) (i : Nat) {x y : Ik} (hi : l[i]? = some x) (hb : Below w0.heap.size w0 w') (hs : ∀ g, S g → S' g) (he : ∀ g, S' g → S g ∨ x.at = some g) (hsz : w.heap.size ≤ w'.heap.size)
  (hy : y.ok w0.heap.size S' w') (hx : ∀ g, y.at = some g → x.at = some g ∨ w.heap.size ≤ g) (hk : ∀ g, g < w.heap.size → x.at ≠ some g → w'.heap[g]? = w.heap[g]?) : Es S0 w0 w' S' (l.set i y) := by
 have hxok := h.k _ (List.mem_of_getElem? hi); have hA : Ag S w w' := ⟨hsz, fun g hg => hk g (h.lt g hg) (fun e => hxok.notin e hg)⟩; have hil : i < l.length := (List.getElem?_eq_some_iff.1 hi).1; have hpw := List.pairwise_iff_getElem.1 h.p; have hxi : l[i] = x := (List.getElem?_eq_some_iff.1 hi).2; have apt : ∀ j (hj : j < l.length), j ≠ i → Apt x l[j] := fun j hj hji => by
  rcases Nat.lt_or_gt_of_ne hji with h1 | h1
  ·have := hpw j i hj hil h1; rw [hxi] at this; exact this.symm
  ·have := hpw i j hil hj h1; rw [hxi] at this; exact this
 have apty : ∀ j (hj : j < l.length), j ≠ i → Apt y l[j] := fun j hj hji g hg hg' => by
  rcases hx g hg with h1 | h1
  ·exact apt j hj hji g h1 hg'
  ·have := ((h.k _ (List.getElem_mem hj)).lt hg').2; omega
 refine ⟨hb, fun g hg => ?_, fun g hg => ?_, fun z hz => ?_, List.pairwise_iff_getElem.2 fun a b ha hb' hab => ?_⟩
 ·rcases he g hg with h1 | h1
  ·exact h.e g h1
  ·exact .inr (hxok.lt h1).1
 ·rcases he g hg with h1 | h1
  ·exact Nat.lt_of_lt_of_le (h.lt g h1) hsz
  ·exact Nat.lt_of_lt_of_le (hxok.lt h1).2 hsz
 ·obtain ⟨j, hj, rfl⟩ := List.mem_iff_getElem.1 hz; rw [List.length_set] at hj; rw [List.getElem_set]
  split
  ·exact hy
  ·next hne =>
   have hz' := h.k _ (List.getElem_mem hj); have ha := apt j hj (fun e => hne e.symm); refine hz'.to hs (fun g hg hs' => ?_) hA (fun g hg => hk g (hz'.lt hg).2 (fun e => ha g e hg)); rcases he g hs' with h1 | h1
   ·exact hz'.notin hg h1
   ·exact ha g h1 hg
 ·rw [List.length_set] at ha hb'; rw [List.getElem_set, List.getElem_set]
  split
  ·next e1 =>
   rw [if_neg (by omega)]; exact apty b hb' (by omega)
  ·next e1 =>
   split
   ·next e2 => exact (apty a ha (by omega)).symm
   ·exact hpw a b ha hb' hab
theorem Es.store (h : Es S0 w0 w S l) {g : Nat} {t : TypeId} {cs : Array Value} (i : Nat) (hi : l[i]? = some (.blk g t cs)) (ivs : List (Nat × Value))
  (hb : Blk (stsW w (ivs.map fun p => (⟨g, p.1, none⟩, p.2))) g t (sets cs ivs)) : Es S0 w0 (stsW w (ivs.map fun p => (⟨g, p.1, none⟩, p.2))) S (l.set i (.blk g t (sets cs ivs))) := by
 have ho := stsW_other (g := g) ivs (w := w); have hok := h.k _ (List.mem_of_getElem? hi); exact h.put i hi (h.b.trans (ho.2.2.mono hok.1)) (fun _ h => h) (fun _ h => .inl h) (Nat.le_of_eq ho.1.symm) ⟨hok.1, hok.2.1, hb⟩ (fun _ h => .inl h) (fun k _ hne => ho.2.1 k (fun e => hne (by simp [Ik.at, e])))
theorem Es.grow (h : Es S0 w0 w S l) {v u : Value} {i k j m : Nat} {e : TypeId} {xs ys : List Value} (hg : w.grownBy w' u.ownBlock) (hv : v.ownBlock = u.ownBlock ∨ v.ownBlock = some w.heap.size) (hn : ∀ b, w.ownsRow b e m u j ys → b ≤ w.heap.size → w'.ownsRow b e m v k xs)
  (hi : l[i]? = some (.own e m u j ys)) : Es S0 w0 w' S (l.set i (.own e m v k xs)) := by
 obtain ⟨⟨b, hb, hr⟩, hns⟩ := h.k _ (List.mem_of_getElem? hi); have hb0 : ∃ b, w0.heap.size ≤ b ∧ b ≤ w.heap.size ∧ w.ownsRow b e m u j ys := by
  rcases Nat.le_total b w.heap.size with h1 | h1
  ·exact ⟨b, hb, h1, hr⟩
  ·rcases hr.2 with ⟨h2, h3⟩ | ⟨g, cap, cur, h2, h3, h4, h5⟩
   ·exact ⟨w.heap.size, h.b.size, Nat.le_refl _, hr.1, .inl ⟨h2, h3⟩⟩
   ·have := (Array.getElem?_eq_some_iff.1 h4).1; exact ⟨b, hb, by omega, hr⟩
 obtain ⟨b, hb, hbw, hr⟩ := hb0; refine h.put i hi (h.b.grown hg h.b.size (fun k hk => Nat.le_trans hb (own_lt hr hk).1)) (fun _ h => h) (fun _ h => .inl h) hg.size ⟨⟨b, hb, hn b hr hbw⟩, fun g hg' => ?_⟩ (fun g hg' => ?_) (fun k hk hne => hg.block k hk (fun e => hne e.symm))
 ·rcases hv with e | e
  ·rw [e] at hg'; exact hns g hg'
  ·rw [e] at hg'; injection hg' with hg'; subst hg'; exact fun hs => Nat.lt_irrefl _ (h.lt _ hs)
 ·simp only [Ik.at] at hg' ⊢; rcases hv with e | e
  ·rw [e] at hg'; exact .inl hg'
  ·rw [e] at hg'; injection hg' with hg'; exact .inr (Nat.le_of_eq hg')
theorem Es.own (h : Es S0 w0 w S l) (i m k : Nat) {g : Nat} {t : TypeId} {cs : Array Value} (hi : l[i]? = some (.blk g t cs)) (hs : cs.size = k * m) (hk : k ≤ maxLen) : Es S0 w0 w S (l.set i (.own t m (.slice (some ⟨g, 0, none⟩) k k) k cs.toList)) := by
 have hok := h.k _ (List.mem_of_getElem? hi); refine h.put i hi h.b (fun _ h => h) (fun _ h => .inl h) (Nat.le_refl _) ⟨⟨g, hok.1, by simp [hs], .inr ⟨g, k, cs, rfl, Nat.le_refl _, hok.2.2, Nat.le_refl _, hk, hs, ?_⟩⟩, fun g' hg' => ?_⟩ (fun g' hg' => .inl ?_) (fun _ _ _ => rfl)
 ·rw [List.take_of_length_le (by simp [hs])]
 ·simp only [Value.ownBlock, Option.some.injEq] at hg'; subst hg'; exact hok.2.1
 ·exact hg'
theorem Es.shut (h : Es S0 w0 w S l) (i : Nat) {e : TypeId} {m k c : Nat} {A : Option Addr} {xs : List Value} (hi : l[i]? = some (.own e m (.slice A k c) k xs)) : ∃ S', Es S0 w0 w S' (l.set i (.dat fun S W => RowS S W A xs)) := by
 obtain ⟨⟨b, hb, hr⟩, hns⟩ := h.k _ (List.mem_of_getElem? hi); refine ⟨fun g => S g ∨ (Value.slice A k c).ownBlock = some g, h.put i hi h.b (fun _ h => .inl h) (fun _ h => h) (Nat.le_refl _) ?_ (fun _ hg => (by cases hg)) (fun _ _ _ => rfl)⟩; have h0 : RowS (fun g => S g ∨ (Value.slice A k c).ownBlock = some g) w A xs := by
  refine ⟨Rd.of_own hr, fun hn => ?_⟩; obtain ⟨b, o, e, _, _⟩ := Rd.of_own hr hn; exact ⟨b, o, e, .inr (by rw [e]; rfl)⟩
 exact fun S' W h1 h2 => h0.to h1 h2
theorem Es.shutB (h : Es S0 w0 w S l) (i : Nat) {g : Nat} {t : TypeId} {cs : Array Value} (hi : l[i]? = some (.blk g t cs)) : ∃ S', Es S0 w0 w S' (l.set i (.dat fun S W => RowS S W (some ⟨g, 0, none⟩) cs.toList)) := by
 have hok := h.k _ (List.mem_of_getElem? hi); refine ⟨fun x => S x ∨ x = g, h.put i hi h.b (fun _ h => .inl h) (fun x h => ?_) (Nat.le_refl _) ?_ (fun _ hg => (by cases hg)) (fun _ _ _ => rfl)⟩
 ·rcases h with h | h
  ·exact .inl h
  ·subst h; exact .inr rfl
 ·have h0 : RowS (fun x => S x ∨ x = g) w (some ⟨g, 0, none⟩) cs.toList := ⟨Rd.of_blk hok.2.2, fun _ => ⟨g, 0, rfl, .inr rfl⟩⟩; exact fun S' W h1 h2 => h0.to h1 h2
theorem Es.elem (h : Es S0 w0 w S l) (i : Nat) {α : Type} {f : α → List Value} {m : Nat} {A : Option Addr} {L : List α} (hi : l[i]? = some (.dat fun S W => RowS S W A (L.flatMap f))) (hm : ∀ x, (f x).length = m) (h0 : 0 < m) {j : Nat} {x : α} (hx : L[j]? = some x) :
  ∃ b o, A = some ⟨b, o, none⟩ ∧ Es S0 w0 w S (.dat (fun S W => RecS S W b (o + j * m) (f x)) :: l) := by
 obtain ⟨b, o, hA, _⟩ := (h.get i hi).elem hm h0 hx; refine ⟨b, o, hA, h.from_ i hi fun S' W hq => ?_⟩; obtain ⟨b', o', hA', hr⟩ := hq.elem hm h0 hx; rw [hA] at hA'
 injection hA' with e
 injection e with e1 e2
 subst e1 e2; exact hr
end
section
variable {n : Nat} {K : List (Nat × Value)} {a : Act} {P : Program} {S0 S : Nat → Prop} {w0 w : World} {ops : Array Oper} {Q : Exit → Act → World → Prop} {o : Oper} {rest : List Oper} {d : Nat} {v v' : Value} {l l' : List Ik}
theorem sq_new {v : Nat → Value} {cs : Array Value} {t : TypeId} (hK : Kn n K a) (hE : Es S0 w0 w S l) (hg : gd ops K o = some true) (he : ∀ J g, sn P g (execOp (rho K J) o) = some (.value (v g), .cells cs t)) (hd : o.dst = some d) (hn : Nat.blt d n = true)
  (h : ∀ a' g w', Kn n ((d, v g) :: K) a' → Es S0 w0 w' S (.blk g t cs :: l) → wpList P ops Q rest a' w') : wpList P ops Q (o :: rest) a w := by
 refine st_of hK hg ?_; rw [if_pos rfl]; unfold Oper.wp Oper.upon; rw [hK.eval, sn_run _ (he _ _), hd]; exact h _ _ _ (hK.put hn _) (hE.alloc cs t)
def setsL (cs : List Value) (l : List (Nat × Value)) : List Value := l.foldl (fun cs p => cs.set p.1 p.2) cs
theorem sets_eq : ∀ (ivs : List (Nat × Value)) (cs : Array Value), (sets cs ivs).toList = setsL cs.toList ivs
 | [], _ => rfl
 | p :: l, cs => by
  show (sets (cs.setIfInBounds p.1 p.2) l).toList = setsL (cs.toList.set p.1 p.2) l
  rw [sets_eq l, Array.toList_setIfInBounds]
theorem sets_lit {cs cs' : Array Value} {ivs : List (Nat × Value)} (h : setsL cs.toList ivs = cs'.toList) : sets cs ivs = cs' := Array.ext' ((sets_eq ivs cs).trans h)
def ltAll (n : Nat) : List (Nat × Value) → Bool
 | [] => true
 | p :: l => Nat.blt p.1 n && ltAll n l
theorem ltAll_all {n : Nat} : ∀ {l : List (Nat × Value)}, ltAll n l = true → l.all (fun p => Nat.blt p.1 n) = true
 | [], _ => rfl
 | p :: l, h => by simp only [ltAll, Bool.and_eq_true] at h; simp only [List.all_cons, Bool.and_eq_true]; exact ⟨h.1, ltAll_all h.2⟩
theorem sq_store {g : Nat} {t : TypeId} {cs cs' : Array Value} (i : Nat) (ivs : List (Nat × Value)) (hK : Kn n K a) (hE : Es S0 w0 w S l) (hg : gd ops K o = some true) (hi : l[i]? = some (.blk g t cs))
  (he : ∀ J, ss P (execOp (rho K J) o) = some (.skip, ivs.map fun p => (⟨g, p.1, none⟩, p.2))) (hin : ltAll cs.toList.length ivs = true) (hc : setsL cs.toList ivs = cs'.toList) (hl : l.set i (.blk g t cs') = l') (hd : o.dst = none)
  (h : ∀ w', Es S0 w0 w' S l' → wpList P ops Q rest a w') : wpList P ops Q (o :: rest) a w := by
 subst hl; have hs := sets_lit hc; have hin := ltAll_all hin; rw [Array.length_toList] at hin; refine st_of hK hg ?_; rw [if_pos rfl]; have hr := ss_run (P := P) _ (hE.blk i hi) (he (fun t => a.tmps.getD t undef)) hin; unfold Oper.wp Oper.upon; rw [hK.eval, hr.1, hd]; have hh := hE.store i hi ivs hr.2; rw [hs] at hh; exact h _ hh
theorem run_append_es {P : Program} {T e : TypeId} {ti : TypeInfo} {z : Value} {m bytes k mm c i : Nat} {A : Option Addr} {ys news : List Value} {ty : TypeId} (hT : P.underlying T = some (.slice e)) (hti : P.info? e = some ti) (hz : ti.zero = some z) (hsz : ti.size = m) (hby : ti.bytes = bytes) (hzs : z.cells.size = m) (hm0 : 0 < m)
  (hE : Es S0 w0 w S l) (hi : l[i]? = some (.own e m v k ys)) (hl : news.length = mm * m) (hr : Rd w A news) (h1 : ∀ u ∈ news, u.oneCell' = true) (h63 : k + mm ≤ maxLen) (hbytes : (k + mm) * bytes ≤ 140737488355328) :
  ∃ A' c' w', (Builtin.append_ #[T, T] ty #[v, .slice A mm c]).run P w = .ok (.slice A' (k + mm) c') w' ∧ k + mm ≤ c' ∧ c' ≤ maxLen ∧ Es S0 w0 w' S (l.set i (.own e m (.slice A' (k + mm) c') (k + mm) (ys ++ news))) := by
 obtain ⟨b, hb, hrow⟩ := hE.row i hi; have hbs : ∃ b', b' ≤ w.heap.size ∧ w.ownsRow b' e m v k ys := by
  rcases Nat.le_total b w.heap.size with h | h
  ·exact ⟨b, h, hrow⟩
  ·rcases hrow.2 with ⟨h2, h3⟩ | ⟨g, cap, cur, hv, hg, hh, r⟩
   ·exact ⟨w.heap.size, Nat.le_refl _, hrow.1, .inl ⟨h2, h3⟩⟩
   ·have := (Array.getElem?_eq_some_iff.1 hh).1; exact ⟨b, by omega, hrow⟩
 have key : ∀ b, b ≤ w.heap.size → w.ownsRow b e m v k ys → ∃ v' w', (Builtin.append_ #[T, T] ty #[v, .slice A mm c]).run P w = .ok v' w' ∧ w'.ownsRow b e m v' (k + mm) (ys ++ news) ∧ w.grownBy w' v.ownBlock ∧ (v'.ownBlock = v.ownBlock ∨ v'.ownBlock = some w.heap.size) :=
  fun b hb h => run_append_rd (P := P) w b T ty e ti z m bytes hT hti hz hsz hby hzs hm0 v k ys h A mm c news hl hr h1 h63 hbytes hb
 obtain ⟨b, hbs, hrow⟩ := hbs; obtain ⟨v', w', hrun, ho, hgr, hv'⟩ := key b hbs hrow; obtain ⟨A', c', rfl, hc1, hc2, _⟩ := own_form ho; refine ⟨A', c', w', hrun, hc1, hc2, hE.grow hgr hv' (fun b' hb' hbs' => ?_) hi⟩; obtain ⟨v2, w2, hrun2, ho2, _, _⟩ := key b' hbs' hb'; rw [hrun] at hrun2
 injection hrun2 with e1 e2
 subst e1 e2; exact ho2
theorem wp_append_es {P : Program} {T e : TypeId} {ti : TypeInfo} {z : Value} {m bytes k mm c k2 i : Nat} {A : Option Addr} {ys news xs2 : List Value} {s x : Operand} {Kx : Act → World → Prop} (hk2 : k + mm = k2) (hx2 : ys ++ news = xs2)
  (hK : Kn n K a) (hop : o.op = .call { callee := .builtin .append, args := #[s, x], argTypes := #[T, T] }) (hs : ∀ J, rho K J s = v) (hx : ∀ J, rho K J x = .slice A mm c) (hT : P.underlying T = some (.slice e)) (hti : P.info? e = some ti) (hz : ti.zero = some z) (hsz : ti.size = m) (hby : ti.bytes = bytes) (hzs : z.cells.size = m) (hm0 : 0 < m)
  (hE : Es S0 w0 w S l) (hi : l[i]? = some (.own e m v k ys)) (hl : news.length = mm * m) (hr : Rd w A news) (h1 : ∀ u ∈ news, u.oneCell' = true) (h63 : k2 ≤ maxLen) (hbytes : k2 * bytes ≤ 140737488355328) (hd : o.dst = some d) (hn : Nat.blt d n = true)
  (h : ∀ A' c' a' w', k2 ≤ c' → c' ≤ maxLen → Kn n ((d, .slice A' k2 c') :: K) a' → Es S0 w0 w' S (l.set i (.own e m (.slice A' k2 c') k2 xs2)) → Kx a' w') : o.wp P a w Kx Q := by
 subst hk2 hx2; obtain ⟨A', c', w', hrun, hc1, hc2, hev⟩ := run_append_es (P := P) (ty := o.type) (c := c) hT hti hz hsz hby hzs hm0 hE hi hl hr h1 h63 hbytes; have hs' : a.eval s = v := by rw [hK.eval]; exact hs _
 have hx' : a.eval x = .slice A mm c := by rw [hK.eval]; exact hx _
 unfold Oper.wp execOp; simp only [hop, resolve, invoke, builtin, Sem.run_bind, Sem.run_pure, Result.andThen_ok, List.map_toArray, List.map_cons, List.map_nil, hs', hx', hrun]; unfold Oper.upon; rw [hd]; exact h A' c' _ _ hc1 hc2 (hK.put hn _) hev
theorem sq_append {T e : TypeId} {ti : TypeInfo} {z : Value} {m bytes k mm c k2 : Nat} {A : Option Addr} {ys news xs2 : List Value} {s x : Operand} (i : Nat) (hk2 : k + mm = k2) (hx2 : ys ++ news = xs2)
  (hK : Kn n K a) (hE : Es S0 w0 w S l) (hg : gd ops K o = some true) (hop : o.op = .call { callee := .builtin .append, args := #[s, x], argTypes := #[T, T] }) (hs : ∀ J, rho K J s = v) (hx : ∀ J, rho K J x = .slice A mm c) (hT : P.underlying T = some (.slice e)) (hti : P.info? e = some ti) (hz : ti.zero = some z) (hsz : ti.size = m) (hby : ti.bytes = bytes) (hzs : z.cells.size = m) (hm0 : 0 < m)
  (hi : l[i]? = some (.own e m v k ys)) (hl : news.length = mm * m) (hr : Rd w A news) (h1 : ∀ u ∈ news, u.oneCell' = true) (h63 : k2 ≤ maxLen) (hbytes : k2 * bytes ≤ 140737488355328) (hd : o.dst = some d) (hn : Nat.blt d n = true)
  (h : ∀ A' c' a' w', k2 ≤ c' → c' ≤ maxLen → Kn n ((d, .slice A' k2 c') :: K) a' → Es S0 w0 w' S (l.set i (.own e m (.slice A' k2 c') k2 xs2)) → wpList P ops Q rest a' w') : wpList P ops Q (o :: rest) a w := by
 refine st_of hK hg ?_; rw [if_pos rfl]; exact wp_append_es hk2 hx2 hK hop hs hx hT hti hz hsz hby hzs hm0 hE hi hl hr h1 h63 hbytes hd hn h
theorem Es.ownNew (h : Es S0 w0 w S l) {e : TypeId} {m k : Nat} {v : Value} {xs : List Value} {w' : World} (hg : w.grownBy w' none) (hv : v.ownBlock = none ∨ v.ownBlock = some w.heap.size) (hn : w'.ownsRow w.heap.size e m v k xs) : Es S0 w0 w' S (.own e m v k xs :: l) := by
 have hb : Below w.heap.size w w' := Below.of_grown hg; have h' := h.same hb; refine ⟨h'.b, h'.e, h'.lt, fun y hy => ?_, List.pairwise_cons.2 ⟨fun y hy g hg' hgy => ?_, h.p⟩⟩
 ·rcases List.mem_cons.1 hy with rfl | hy
  ·refine ⟨⟨w.heap.size, h.b.size, hn⟩, fun g hg' hs => ?_⟩; rcases hv with e | e
   ·rw [e] at hg'; cases hg'
   ·rw [e] at hg'; injection hg' with hg'; subst hg'; exact Nat.lt_irrefl _ (h.lt _ hs)
  ·exact h'.k y hy
 ·simp only [Ik.at] at hg'; rcases hv with e | e
  ·rw [e] at hg'; cases hg'
  ·rw [e] at hg'; injection hg' with hg'; subst hg'; have := ((h.k y hy).lt hgy).2; omega
theorem wp_make_es {P : Program} {T e : TypeId} {z : Value} {m bytes : Nat} {c : Int} {kl kc : IntKind} {x y : Operand} {Kx : Act → World → Prop}
  (hK : Kn n K a) (hE : Es S0 w0 w S l) (hop : o.op = .makeSlice T x y) (hx : ∀ J, rho K J x = .int kl 0) (hy : ∀ J, rho K J y = .int kc c) (hT : P.underlying T = some (.slice e)) (hi : (P.info? e).map (fun i => (i.zero, i.size, i.bytes)) = some (some z, m, bytes))
  (h0 : 0 ≤ c) (hbytes : c * (bytes : Int) ≤ 140737488355328) (hb1 : 1 ≤ bytes) (hd : o.dst = some d) (hn : Nat.blt d n = true)
  (h : ∀ A' c' a' w', Kn n ((d, .slice A' 0 c') :: K) a' → Es S0 w0 w' S (.own e m (.slice A' 0 c') 0 [] :: l) → Kx a' w') : o.wp P a w Kx Q := by
 obtain ⟨ti, hti, hz, hm, hby⟩ := info_parts hi; obtain ⟨k, rfl⟩ : ∃ k : Nat, c = (k : Int) := ⟨c.toNat, by omega⟩; have hb2 : bytes * k ≤ 281474976710656 := by
  have : ((k * bytes : Nat) : Int) ≤ 140737488355328 := by rw [Int.natCast_mul]; exact hbytes
  rw [Nat.mul_comm]; omega
 have h63 : k ≤ maxLen := by
  have h1 : k * 1 ≤ bytes * k := by rw [Nat.mul_comm bytes k]; exact Nat.mul_le_mul_left k hb1
  simp only [maxLen]; omega
 obtain ⟨w', hrun, ho, hg⟩ := run_make_own (P := P) w w.heap.size T e ti z m hT hti hz hm kl kc k (by rw [hby]; exact hb2) h63 (Nat.le_refl _); have hx' : a.eval x = .int kl 0 := by rw [hK.eval]; exact hx _
 have hy' : a.eval y = .int kc (k : Int) := by rw [hK.eval]; exact hy _
 unfold Oper.wp execOp; simp only [hop, Sem.run_bind, Sem.run_pure, Result.andThen_ok, hx', hy', hrun]; unfold Oper.upon; rw [hd]; exact h _ _ _ _ (hK.put hn _) (hE.ownNew hg (.inr rfl) ho)
theorem sq_quiet {id : Nat} {ls : List Oper} (hE : Es S0 w0 w S l) (hm : P.follows .mixedOrders = true) (hB : Region.lexB .any ls.toArray = true)
    (h : wpQuiet P ls.toArray (fun w' => ∃ x : Fut w.heap.size w, w' = x.v) (fun a' => ∀ w' S', Es S0 w0 w' S' l → Q .normal a' w') ls a) : (Code.region id ls.toArray true).wp P Q a w := by
  refine wp_region_fut w.heap.size hm hB ?_
  revert h
  have mono : ∀ (r : List Oper) (a : Act), wpQuiet P ls.toArray (fun w' => ∃ x : Fut w.heap.size w, w' = x.v) (fun a' => ∀ w' S', Es S0 w0 w' S' l → Q .normal a' w') r a →
      wpQuiet P ls.toArray (fun w' => ∃ x : Fut w.heap.size w, w' = x.v) (fun a' => ∀ w', (∃ x : Fut w.heap.size w, w' = x.v) → Q .normal a' w') r a := by
    intro r
    induction r with
    | nil =>
      intro a h w' hw'
      exact h w' _ (hE.call (Fut.of hw'))
    | cons o r ih =>
      intro a h
      unfold wpQuiet at h ⊢
      split
      · next hw => rw [if_pos hw] at h; obtain ⟨v, h1, h2⟩ := h; exact ⟨v, h1, ih _ h2⟩
      · next hw => rw [if_neg hw] at h; exact ih _ h
  exact mono ls a
def Wk (S0 : Nat → Prop) (w0 : World) (lk : List Ik) (W : World) : Prop := ∃ S, Es S0 w0 W S lk
theorem rh_begin {id : Nat} {ls : List Oper} (lk : List Ik) (hm : P.follows .mixedOrders = true) (h : wpAnyH P .any ls.toArray Q (Wk S0 w0 lk) ls.length (Array.replicate ls.length false) a w.drew) : (Code.region id ls.toArray true).wp P Q a w :=
 wp_region_held hm (by simpa using h)
variable {lk : List Ik}
theorem rh_take {md : Region.Mode} {i fuel : Nat} {listed : Array Bool} (listed' : Array Bool) (hli : listed.setIfInBounds i true = listed') {vs : List Value} {obs : List (Addr × Value)} (hK : Kn n K a) (hS : Wk S0 w0 lk w) (ho : ops[i]? = some o) (hs : Region.noSelect ops = true) (hf : Region.free md ops listed i = true) (hr : (Region.ready md ops listed).contains i = true) (hg : gd ops K o = some true)
  (hQ : ∀ c a w, Q (.panic c) (a.put o.dst v) w → Q (.panic c) a w) (he : ∀ J, sx P (execOp (rho K J) o) vs = some (.value v', obs)) (hobs : ∀ W S, Es S0 w0 W S lk → Obs W obs) (hv : v' = v) (hd : o.dst = some d) (hn : Nat.blt d n = true)
  (h : ∀ a', Kn n ((d, v) :: K) a' → wpAnyH P md ops Q (Wk S0 w0 lk) fuel listed' a' w) : wpAnyH P md ops Q (Wk S0 w0 lk) (fuel + 1) listed a w := by
 subst hli; refine wpAnyH_take (v := v) ho hs hf hr hQ (.inl ⟨hK.wanted hg, fun W ⟨S, hW⟩ => ?_⟩) hS (by rw [hd]; exact h _ (hK.put hn v)); rw [hK.eval, sx_run _ (he _) (hobs W S hW), hv]
theorem rh_run {md : Region.Mode} {i fuel : Nat} {listed : Array Bool} (listed' : Array Bool) (hli : listed.setIfInBounds i true = listed') (hK : Kn n K a) (hS : Wk S0 w0 lk w) (ho : ops[i]? = some o) (hs : Region.noSelect ops = true) (hf : Region.free md ops listed i = true) (hrd : (Region.ready md ops listed).contains i = true) (hg : gd ops K o = some true)
  (hQ : ∀ c a w, Q (.panic c) (a.put o.dst v) w → Q (.panic c) a w) (hr : ∀ J W, (execOp (rho K J) o).run P W = .ok (.value v') W) (hv : v' = v) (hd : o.dst = some d) (hn : Nat.blt d n = true)
  (h : ∀ a', Kn n ((d, v) :: K) a' → wpAnyH P md ops Q (Wk S0 w0 lk) fuel listed' a' w) : wpAnyH P md ops Q (Wk S0 w0 lk) (fuel + 1) listed a w := by
 subst hli; refine wpAnyH_take (v := v) ho hs hf hrd hQ (.inl ⟨hK.wanted hg, fun W _ => ?_⟩) hS (by rw [hd]; exact h _ (hK.put hn v)); rw [hK.eval, hr, hv]
theorem rh_all {md : Region.Mode} {fuel : Nat} {listed : Array Bool} (rs : List Nat) (hr : Region.ready md ops listed = rs) (hne : rs ≠ [])
  (h : allOf (fun i => wpOp P ops Q i (fun a' w' => Wk S0 w0 lk w' ∧ wpAnyH P md ops Q (Wk S0 w0 lk) fuel (listed.setIfInBounds i true) a' w') a w) rs) : wpAnyH P md ops Q (Wk S0 w0 lk) (fuel + 1) listed a w :=
 wpAnyH_all hr hne (allOf_mem h)
variable {j : Nat} {Kx : Act → World → Prop}
theorem rh_op {vs : List Value} {obs : List (Addr × Value)} (ho : ops[j]? = some o) (hK : Kn n K a) (hS : Wk S0 w0 lk w) (hg : gd ops K o = some true) (he : ∀ J, sx P (execOp (rho K J) o) vs = some (.value v', obs)) (hobs : Obs w obs) (hv : v' = v) (hd : o.dst = some d) (hn : Nat.blt d n = true)
  (h : ∀ a', Kn n ((d, v) :: K) a' → Kx a' w) : wpOp P ops Q j (fun a' w' => Wk S0 w0 lk w' ∧ Kx a' w') a w := by
 refine hd_of ho hK hg ?_; unfold Oper.wp Oper.upon; rw [hK.eval, sx_run _ (he _) hobs, hd, hv]; exact ⟨hS, h _ (hK.put hn v)⟩
theorem rh_new {v : Nat → Value} {cs : Array Value} {t : TypeId} (ho : ops[j]? = some o) (hK : Kn n K a) (hE : Es S0 w0 w S l) (hg : gd ops K o = some true) (he : ∀ J g, sn P g (execOp (rho K J) o) = some (.value (v g), .cells cs t)) (hd : o.dst = some d) (hn : Nat.blt d n = true)
  (h : ∀ a' g w', Kn n ((d, v g) :: K) a' → Es S0 w0 w' S (.blk g t cs :: l) → Wk S0 w0 lk w' ∧ Kx a' w') : wpOp P ops Q j (fun a' w' => Wk S0 w0 lk w' ∧ Kx a' w') a w := by
 refine hd_of ho hK hg ?_; unfold Oper.wp Oper.upon; rw [hK.eval, sn_run _ (he _ _), hd]; exact h _ _ _ (hK.put hn _) (hE.alloc cs t)
theorem rh_store {g : Nat} {t : TypeId} {cs cs' : Array Value} (i : Nat) (ivs : List (Nat × Value)) (ho : ops[j]? = some o) (hK : Kn n K a) (hE : Es S0 w0 w S l) (hg : gd ops K o = some true) (hi : l[i]? = some (.blk g t cs))
  (he : ∀ J, ss P (execOp (rho K J) o) = some (.skip, ivs.map fun p => (⟨g, p.1, none⟩, p.2))) (hin : ltAll cs.toList.length ivs = true) (hc : setsL cs.toList ivs = cs'.toList) (hl : l.set i (.blk g t cs') = l') (hd : o.dst = none)
  (h : ∀ w', Es S0 w0 w' S l' → Wk S0 w0 lk w' ∧ Kx a w') : wpOp P ops Q j (fun a' w' => Wk S0 w0 lk w' ∧ Kx a' w') a w := by
 subst hl; have hs := sets_lit hc; have hin := ltAll_all hin; rw [Array.length_toList] at hin; refine hd_of ho hK hg ?_; have hr := ss_run (P := P) _ (hE.blk i hi) (he (fun t => a.tmps.getD t undef)) hin; unfold Oper.wp Oper.upon; rw [hK.eval, hr.1, hd]; have hh := hE.store i hi ivs hr.2; rw [hs] at hh; exact h _ hh
theorem rh_call {f : FuncId} {args : Array Value} {R : Ending → World → Prop} (ho : ops[j]? = some o) (hK : Kn n K a) (hg : gd ops K o = some true) (he : ∀ J, sx P (execOp (rho K J) o) [] = some (.enter f args, [])) (hd : o.dst = some d) (hn : Nat.blt d n = true)
  (hc : Calls P f args w R) (h : ∀ e w', R e w' → ∃ v, e = .returned v ∧ Wk S0 w0 lk w' ∧ ∀ a', Kn n ((d, v) :: K) a' → Kx a' w') : wpOp P ops Q j (fun a' w' => Wk S0 w0 lk w' ∧ Kx a' w') a w := by
 refine hd_of ho hK hg ?_; unfold Oper.wp Oper.upon; rw [hK.eval, sx_run _ (he _) trivial, hd]; refine hc.mono fun e w' hr => ?_
 obtain ⟨v, rfl, hb, hk⟩ := h e w' hr; exact ⟨hb, hk _ (hK.put hn v)⟩
theorem rh_append {T e : TypeId} {ti : TypeInfo} {z : Value} {m bytes k mm c k2 : Nat} {A : Option Addr} {ys news xs2 : List Value} {s x : Operand} (i : Nat) (hk2 : k + mm = k2) (hx2 : ys ++ news = xs2) (ho : ops[j]? = some o)
  (hK : Kn n K a) (hE : Es S0 w0 w S l) (hg : gd ops K o = some true) (hop : o.op = .call { callee := .builtin .append, args := #[s, x], argTypes := #[T, T] }) (hs : ∀ J, rho K J s = v) (hx : ∀ J, rho K J x = .slice A mm c) (hT : P.underlying T = some (.slice e)) (hti : P.info? e = some ti) (hz : ti.zero = some z) (hsz : ti.size = m) (hby : ti.bytes = bytes) (hzs : z.cells.size = m) (hm0 : 0 < m)
  (hi : l[i]? = some (.own e m v k ys)) (hl : news.length = mm * m) (hr : Rd w A news) (h1 : ∀ u ∈ news, u.oneCell' = true) (h63 : k2 ≤ maxLen) (hbytes : k2 * bytes ≤ 140737488355328) (hd : o.dst = some d) (hn : Nat.blt d n = true)
  (h : ∀ A' c' a' w', k2 ≤ c' → c' ≤ maxLen → Kn n ((d, .slice A' k2 c') :: K) a' → Es S0 w0 w' S (l.set i (.own e m (.slice A' k2 c') k2 xs2)) → Wk S0 w0 lk w' ∧ Kx a' w') : wpOp P ops Q j (fun a' w' => Wk S0 w0 lk w' ∧ Kx a' w') a w := by
 exact hd_of ho hK hg (wp_append_es hk2 hx2 hK hop hs hx hT hti hz hsz hby hzs hm0 hE hi hl hr h1 h63 hbytes hd hn h)
theorem sx_bind {α β : Type} (s : Sem α) (f : α → Sem β) {r : α} {r' : β} : sx P s [] = some (r, []) → sx P (f r) [] = some (r', []) → sx P (s.bind f) [] = some (r', []) := by
 induction s with
 | pure a => intro h1 h2; simp only [sx, Option.some.injEq, Prod.mk.injEq] at h1; rw [Sem.bind, h1.1]; exact h2
 | program k ih => intro h1 h2; simp only [sx] at h1; simp only [Sem.bind, sx]; exact ih P h1 h2
 | mark m k ih => intro h1 h2; simp only [sx] at h1; simp only [Sem.bind, sx]; exact ih h1 h2
 | _ => intro h1; simp [sx] at h1
theorem ex_ix {T e : TypeId} {i : TypeInfo} {b off len c m : Nat} {k : IntKind} {A : Option Addr} {x ix : Operand} {z : Int} {jj : Nat} (hop : o.op = .indexAddr T x ix) (hx : ∀ J, rho K J x = .slice A len c) (hA : A = some ⟨b, off, none⟩) (hix : ∀ J, rho K J ix = .int k z) (hz : z = (jj : Int)) (hj : jj < len)
  (hT : P.underlying T = some (.slice e)) (hi : P.info? e = some i) (hm : i.size = m) : ∀ J W, (execOp (rho K J) o).run P W = .ok (.value (.pointer (some ⟨b, off + jj * m, none⟩))) W := fun J W => by
 subst hA; have he : sx P (execOp (rho K J) o) [] = some (.value (.pointer (some ⟨b, off + jj * m, none⟩)), []) := by
  have h1 : execOp (rho K J) o = (do pure (.value (← Instr.indexAt T (rho K J x) (rho K J ix)))) := by unfold execOp; rw [hop]
  rw [h1, hx, hix, hz]; exact sx_bind _ _ (ix_slice (P := P) (c := c) (k := k) (b := b) (off := off) hT hi hm hj) rfl
 exact sx_run _ he trivial
theorem RowS.part {S : Nat → Prop} {A : Option Addr} {α : Type} {f : α → List Value} {m : Nat} {L : List α} (h : RowS S w A (L.flatMap f)) (hm : ∀ x, (f x).length = m) (p q : Nat) (hq : q ≤ L.length) : RowS S w (A.map (·.add (p * m))) (((L.take q).drop p).flatMap f) := by
 have e1 : L.flatMap f = (L.take p).flatMap f ++ ((L.drop p).take (q - p)).flatMap f ++ ((L.drop p).drop (q - p)).flatMap f := by
  rw [List.append_assoc, ← List.flatMap_append, List.take_append_drop, ← List.flatMap_append, List.take_append_drop]
 have e2 : (L.take q).drop p = (L.drop p).take (q - p) := by rw [List.drop_take]
 rcases Classical.em (((L.take q).drop p).flatMap f = []) with h0 | h0
 ·rw [h0]; exact RowS.nil _ _ _
 ·have hne : L.flatMap f ≠ [] := by
   intro e; rw [e2] at h0; rw [e1] at e; simp only [List.append_eq_nil_iff] at e; exact h0 e.1.2
  obtain ⟨b, o, hA, hs⟩ := h.s hne; subst hA; have hpl : p ≤ L.length := by
   rcases Nat.lt_or_ge L.length p with h1 | h1
   ·exact absurd (by rw [List.drop_eq_nil_of_le (by rw [List.length_take]; omega)]; rfl) h0
   ·exact h1
  have hlen : ((L.take p).flatMap f).length = p * m := by
   have : ∀ l : List α, (l.flatMap f).length = l.length * m := by
    intro l
    induction l with
    | nil => simp
    | cons x l ih => rw [List.flatMap_cons, List.length_append, hm, ih, List.length_cons, Nat.add_mul, Nat.one_mul, Nat.add_comm]
   rw [this, List.length_take, Nat.min_eq_left hpl]
  have hr := h.r; rw [e1, List.append_assoc] at hr; have hr2 := (Rd.shift hr).pre; rw [hlen] at hr2; simp only [Option.map_some, add_addr]; rw [e2]; exact ⟨hr2, fun _ => ⟨b, o + p * m, rfl, hs⟩⟩
theorem run_part {T e : TypeId} {i : TypeInfo} {A : Option Addr} {n c m p q : Nat} (lo hi : Option Value) (hT : P.underlying T = some (.slice e)) (hi' : P.info? e = some i) (hm : i.size = m) (hlo : (lo = none ∧ p = 0) ∨ (∃ k, lo = some (.int k (p : Int)))) (hhi : (hi = none ∧ q = n) ∨ (∃ k, hi = some (.int k (q : Int)))) (hpq : p ≤ q) (hqn : q ≤ n) (hnc : n ≤ c) (W : World) :
  (Instr.sliceAt T (.slice A n c) lo hi none).run P W = .ok (.slice (if c = p then A else A.map (·.add (p * m))) (q - p) (c - p)) W := by
 have hs : ∀ W, (sizeOf e).run P W = .ok m W := fun W => by simp [sizeOf, typeInfo, hi', hm, run_program]
 have h1 : (p : Int) ≤ q := by omega
 have h2 : (q : Int) ≤ c := by omega
 have h3 : (p : Int) ≤ n := by omega
 rcases hlo with ⟨rfl, rfl⟩ | ⟨k, rfl⟩ <;> rcases hhi with ⟨rfl, rfl⟩ | ⟨k', rfl⟩ <;> simp [Instr.sliceAt, Instr.slice, run_underlying hT, Instr.sliceBounds, run_sliceBound, hs, h1, h2, h3]
theorem ex_part {T e : TypeId} {i : TypeInfo} {A : Option Addr} {n c m p q : Nat} {α : Type} {f : α → List Value} {L r : List α} (hfm : ∀ x, (f x).length = m) (hpq : p ≤ q) (hqn : q ≤ L.length) (hr : r = (L.take q).drop p) (hn : n = L.length) (hnc : L.length ≤ c)
  (hT : P.underlying T = some (.slice e)) (hi' : P.info? e = some i) (hm : i.size = m) :
  ∃ A' c', (∀ (o : Oper) (ρ : Operand → Value) (x : Operand) (lo hi : Option Operand), o.op = .slice T x lo hi none → ρ x = .slice A n c → ((lo = none ∧ p = 0) ∨ (∃ y k, lo = some y ∧ ρ y = .int k (p : Int))) → ((hi = none ∧ q = n) ∨ (∃ y k, hi = some y ∧ ρ y = .int k (q : Int))) → ∀ W, (execOp ρ o).run P W = .ok (.value (.slice A' r.length c')) W) ∧ r.length ≤ c' ∧ ∀ (S : Nat → Prop) (w : World), RowS S w A (L.flatMap f) → RowS S w A' (r.flatMap f) := by
 subst hn; have hrl : r.length = q - p := by rw [hr, List.length_drop, List.length_take]; omega
 refine ⟨if c = p then A else A.map (·.add (p * m)), c - p, fun o ρ x lo hi hop hx hlo hhi W => ?_, by omega, fun S w hrow => ?_⟩
 ·have h1 : execOp ρ o = (do pure (.value (← Instr.sliceAt T (ρ x) (lo.map ρ) (hi.map ρ) none))) := by unfold execOp; rw [hop]; rfl
  rw [h1, hx, hrl]; refine run_v (run_part (p := p) (q := q) (n := L.length) _ _ hT hi' hm ?_ ?_ hpq hqn hnc W)
  ·rcases hlo with ⟨rfl, h⟩ | ⟨y, k, rfl, h⟩
   ·exact .inl ⟨rfl, h⟩
   ·exact .inr ⟨k, by rw [Option.map_some, h]⟩
  ·rcases hhi with ⟨rfl, h⟩ | ⟨y, k, rfl, h⟩
   ·exact .inl ⟨rfl, h⟩
   ·exact .inr ⟨k, by rw [Option.map_some, h]⟩
 ·subst hr
  split
  ·next hcp =>
   have : (L.take q).drop p = [] := List.drop_eq_nil_of_le (by rw [List.length_take]; omega); rw [this]; exact RowS.nil _ _ _
  ·exact hrow.part hfm p q hqn
theorem rh_make {T e : TypeId} {z : Value} {m bytes : Nat} {c : Int} {kl kc : IntKind} {x y : Operand} (ho : ops[j]? = some o)
  (hK : Kn n K a) (hE : Es S0 w0 w S l) (hg : gd ops K o = some true) (hop : o.op = .makeSlice T x y) (hx : ∀ J, rho K J x = .int kl 0) (hy : ∀ J, rho K J y = .int kc c) (hT : P.underlying T = some (.slice e)) (hi : (P.info? e).map (fun i => (i.zero, i.size, i.bytes)) = some (some z, m, bytes))
  (h0 : 0 ≤ c) (hbytes : c * (bytes : Int) ≤ 140737488355328) (hb1 : 1 ≤ bytes) (hd : o.dst = some d) (hn : Nat.blt d n = true)
  (h : ∀ A' c' a' w', Kn n ((d, .slice A' 0 c') :: K) a' → Es S0 w0 w' S (.own e m (.slice A' 0 c') 0 [] :: l) → Wk S0 w0 lk w' ∧ Kx a' w') : wpOp P ops Q j (fun a' w' => Wk S0 w0 lk w' ∧ Kx a' w') a w :=
 hd_of ho hK hg (wp_make_es hK hE hop hx hy hT hi h0 hbytes hb1 hd hn h)
theorem vx_fall {fn : Func} {R : Ending → World → Prop} (h : bodyPost P fn R .ret a w) : bodyPost P fn R .normal a w := h
def apS (a b : List UInt8) : Option (List UInt8) := if a.length + b.length ≤ 9223372036854775807 then some (a ++ b) else none
theorem run_str_add {T : TypeId} {a b r : List UInt8} (h : apS a b = some r) (W : World) : (binOp .add T (.string ⟨a.toArray⟩) (.string ⟨b.toArray⟩)).run P W = .ok (.string ⟨r.toArray⟩) W := by
 unfold apS at h
 split at h
 ·next hc =>
  rw [← Option.some.inj h, show (⟨(a ++ b).toArray⟩ : ByteArray) = ⟨a.toArray⟩ ++ ⟨b.toArray⟩ by apply ByteArray.ext; simp]; exact run_string_add_sum W _ _ (by simpa [ByteArray.size] using hc)
 ·cases h
theorem nz_of {y : Int} (h : (!(y == 0)) = true) : y ≠ 0 := fun e => by subst e; simp at h
theorem seq_join1 {x y : Code} (J : Act → World → Prop) (h1 : x.wp P (Exit.then J Q) a w) (h2 : ∀ a w, J a w → y.wp P Q a w) : (Code.seq x y).wp P Q a w := by
 refine wp_seq (wp_mono h1 fun e a w h => ?_); cases e with
 | normal => exact h2 a w h
 | _ => exact h
end
def c_i64 (x : Int) : List Value := [.int .i64 x]
theorem one_i64 (l : List Int) : ∀ u ∈ l.flatMap c_i64, u.oneCell' = true := by
 intro u hu; obtain ⟨x, _, hx⟩ := List.mem_flatMap.1 hu; simp only [c_i64, List.mem_cons, List.not_mem_nil, or_false] at hx; subst hx; rfl
def c_u64 (x : Int) : List Value := [.int .u64 x]
theorem one_u64 (l : List Int) : ∀ u ∈ l.flatMap c_u64, u.oneCell' = true := by
 intro u hu; obtain ⟨x, _, hx⟩ := List.mem_flatMap.1 hu; simp only [c_u64, List.mem_cons, List.not_mem_nil, or_false] at hx; subst hx; rfl
end Go.Proofs.YtmfjcachghboiaaDoor
namespace Go.Proofs
open Go.Shelf
def Tryd.lays125_ren : Go.Shelf.Ren := ⟨fun | 125 => 91 | 128 => 100 | 129 => 101 | n => n, fun | 46 => 87 | 3 => 3 | 51 => 109 | 53 => 25 | 4 => 4 | 5 => 5 | 9 => 9 | n => n, fun | n => n⟩
theorem Tryd.lays125 : Go.Proofs.Lays.n125 Tryd.prog Tryd.lays125_ren := {
 mixed := by kernel_rfl
 f125 := Tryd.func91.trans (congrArg some (by kernel_rfl))
 f128 := Tryd.func100.trans (congrArg some (by kernel_rfl))
 f129 := Tryd.func101.trans (congrArg some (by kernel_rfl))
 t3 := Tryd.underlying3
 a3 := Tryd.isAgg3
 z3 := Tryd.sizeOf3
 v3 := Tryd.zeroValue3
 t4 := Tryd.underlying4
 a4 := Tryd.isAgg4
 z4 := Tryd.sizeOf4
 v4 := Tryd.zeroValue4
 t5 := Tryd.underlying5
 a5 := Tryd.isAgg5
 z5 := Tryd.sizeOf5
 v5 := Tryd.zeroValue5
 t9 := Tryd.underlying9
 a9 := Tryd.isAgg9
 z9 := Tryd.sizeOf9
 v9 := Tryd.zeroValue9
 t46 := Tryd.underlying87
 a46 := Tryd.isAgg87
 z46 := Tryd.sizeOf87
 v46 := Tryd.zeroValue87
 t51 := Tryd.underlying109
 a51 := Tryd.isAgg109
 z51 := Tryd.sizeOf109
 v51 := Tryd.zeroValue109
 t53 := Tryd.underlying25
 a53 := Tryd.isAgg25
 z53 := Tryd.sizeOf25
 v53 := Tryd.zeroValue25 }
theorem Tryd.bits_Len (x : Int) (w : World) (h0 : 0 ≤ x) (h1 : x ≤ 18446744073709551615) :
  Calls Tryd.prog 91 #[.int .u64 x] w fun e w' => e = .returned (.int .i64 (Lib.bitLen x.toNat)) ∧ w' = w := Any.bits_Len Tryd.lays125 x w h0 h1
def Tryd.lays283_ren : Go.Shelf.Ren := ⟨fun | 283 => 106 | n => n, fun | 3 => 3 | 9 => 9 | 4 => 4 | n => n, fun | n => n⟩
theorem Tryd.lays283 : Go.Proofs.Lays.n283 Tryd.prog Tryd.lays283_ren := {
 mixed := by kernel_rfl
 f283 := Tryd.func106.trans (congrArg some (by kernel_rfl))
 t3 := Tryd.underlying3
 a3 := Tryd.isAgg3
 z3 := Tryd.sizeOf3
 v3 := Tryd.zeroValue3
 t4 := Tryd.underlying4
 a4 := Tryd.isAgg4
 z4 := Tryd.sizeOf4
 v4 := Tryd.zeroValue4
 t9 := Tryd.underlying9
 a9 := Tryd.isAgg9
 z9 := Tryd.sizeOf9
 v9 := Tryd.zeroValue9 }
open Go.Lib in
theorem Tryd.internal_strconv_small (i : Nat) (h : i < 100) (w : World) :
  Calls Tryd.prog 106 #[.int .i64 i] w fun e w' => e = .returned (.string ⟨(Lib.decDigits i).toArray⟩) ∧ w' = w := Any.internal_strconv_small Tryd.lays283 i h w
def Tryd.laysM284_ren : Go.Shelf.Ren := ⟨fun | 284 => 107 | 129 => 101 | 317 => 110 | 318 => 111 | n => n, fun | 53 => 25 | 3 => 3 | 212 => 132 | 0 => 0 | 4 => 4 | 46 => 87 | 5 => 5 | 9 => 9 | n => n, fun | 17 => 0 | n => n⟩
theorem Tryd.laysM284 : Go.Proofs.LaysM.n284 Tryd.prog Tryd.laysM284_ren := {
 mixed := by kernel_rfl
 f129 := Tryd.func101.trans (congrArg some (by kernel_rfl))
 f284 := Tryd.func107.trans (congrArg some (by kernel_rfl))
 f317 := Tryd.func110.trans (congrArg some (by kernel_rfl))
 f318 := Tryd.func111.trans (congrArg some (by kernel_rfl))
 t0 := Tryd.underlying0
 a0 := Tryd.isAgg0
 z0 := Tryd.sizeOf0
 v0 := Tryd.zeroValue0
 t3 := Tryd.underlying3
 a3 := Tryd.isAgg3
 z3 := Tryd.sizeOf3
 v3 := Tryd.zeroValue3
 t4 := Tryd.underlying4
 a4 := Tryd.isAgg4
 z4 := Tryd.sizeOf4
 v4 := Tryd.zeroValue4
 t5 := Tryd.underlying5
 a5 := Tryd.isAgg5
 z5 := Tryd.sizeOf5
 v5 := Tryd.zeroValue5
 t9 := Tryd.underlying9
 a9 := Tryd.isAgg9
 z9 := Tryd.sizeOf9
 v9 := Tryd.zeroValue9
 t46 := Tryd.underlying87
 a46 := Tryd.isAgg87
 z46 := Tryd.sizeOf87
 v46 := Tryd.zeroValue87
 t53 := Tryd.underlying25
 a53 := Tryd.isAgg25
 z53 := Tryd.sizeOf25
 v53 := Tryd.zeroValue25
 t212 := Tryd.underlying132
 a212 := Tryd.isAgg132
 z212 := Tryd.sizeOf132
 v212 := Tryd.zeroValue132
 g17 := by kernel_rfl
 i0 := by kernel_rfl
 i3 := by kernel_rfl
 i4 := by kernel_rfl
 i5 := by kernel_rfl
 i9 := by kernel_rfl
 i46 := by kernel_rfl
 i53 := by kernel_rfl
 i212 := by kernel_rfl
 m17 := by kernel_rfl }
open Go.Lib in
theorem Tryd.internal_strconv_numDigits (u : Nat) (h1 : 1 ≤ u) (h2 : u < 18446744073709551616) (w : World) (htab : Lib.TabIs Tryd.prog w "internal/strconv.uint64pow10" .u64 Lib.pow10Tab) :
  Calls Tryd.prog 107 #[.int .u64 u] w fun e w' => e = .returned (.int .i64 (Lib.nDigits u)) ∧ w' = w := Any.internal_strconv_numDigits Tryd.laysM284 u h1 h2 w htab
def Tryd.lays285_ren : Go.Shelf.Ren := ⟨fun | 285 => 108 | n => n, fun | 37 => 102 | 53 => 25 | 3 => 3 | 4 => 4 | 51 => 109 | 9 => 9 | 5 => 5 | 0 => 0 | n => n, fun | n => n⟩
theorem Tryd.lays285 : Go.Proofs.Lays.n285 Tryd.prog Tryd.lays285_ren := {
 mixed := by kernel_rfl
 f285 := Tryd.func108.trans (congrArg some (by kernel_rfl))
 t0 := Tryd.underlying0
 a0 := Tryd.isAgg0
 z0 := Tryd.sizeOf0
 v0 := Tryd.zeroValue0
 t3 := Tryd.underlying3
 a3 := Tryd.isAgg3
 z3 := Tryd.sizeOf3
 v3 := Tryd.zeroValue3
 t4 := Tryd.underlying4
 a4 := Tryd.isAgg4
 z4 := Tryd.sizeOf4
 v4 := Tryd.zeroValue4
 t5 := Tryd.underlying5
 a5 := Tryd.isAgg5
 z5 := Tryd.sizeOf5
 v5 := Tryd.zeroValue5
 t9 := Tryd.underlying9
 a9 := Tryd.isAgg9
 z9 := Tryd.sizeOf9
 v9 := Tryd.zeroValue9
 t37 := Tryd.underlying102
 a37 := Tryd.isAgg102
 z37 := Tryd.sizeOf102
 v37 := Tryd.zeroValue102
 t51 := Tryd.underlying109
 a51 := Tryd.isAgg109
 z51 := Tryd.sizeOf109
 v51 := Tryd.zeroValue109
 t53 := Tryd.underlying25
 a53 := Tryd.isAgg25
 z53 := Tryd.sizeOf25
 v53 := Tryd.zeroValue25 }
open Go.RowKit Go.Sort Go.Lib in
theorem Tryd.internal_strconv_formatBase10 (blk off cap : Nat) (u : Nat) (d : Array UInt8) (w : World) (hH : Holds (fun (b : UInt8) => Value.int .u8 (b.toNat : Int)) w blk off d) (hu : u < 10 ^ d.size) (hu64 : u < 18446744073709551616) (hsz : d.size < 4611686018427387904) :
  Calls Tryd.prog 108 #[.slice (some ⟨blk, off, none⟩) d.size cap, .int .u64 u] w fun e w' =>
   e = .returned (.tuple #[]) ∧ ∃ (n v' : Nat) (dk : Array UInt8), w' = (putRow (fun (b : UInt8) => Value.int .u8 (b.toNat : Int)) w blk off dk).drewN n ∧ FmtInv d.size u 0 v' dk := Any.internal_strconv_formatBase10 Tryd.lays285 blk off cap u d w hH hu hu64 hsz
def Tryd.laysM288_ren : Go.Shelf.Ren := ⟨fun | 288 => 105 | 283 => 106 | 284 => 107 | 285 => 108 | 286 => 109 | 129 => 101 | 317 => 110 | 318 => 111 | 319 => 112 | 320 => 113 | 337 => 114 | 338 => 115 | n => n, fun | 37 => 102 | 53 => 25 | 3 => 3 | 4 => 4 | 9 => 9 | 171 => 127 | 0 => 0 | 173 => 129 | 212 => 132 | 51 => 109 | 5 => 5 | 20 => 20 | 213 => 133 | 46 => 87 | 232 => 134 | 233 => 135 | n => n, fun | 17 => 0 | 18 => 1 | 19 => 2 | n => n⟩
theorem Tryd.laysM288 : Go.Proofs.LaysM.n288 Tryd.prog Tryd.laysM288_ren := {
 mixed := by kernel_rfl
 f129 := Tryd.func101.trans (congrArg some (by kernel_rfl))
 f283 := Tryd.func106.trans (congrArg some (by kernel_rfl))
 f284 := Tryd.func107.trans (congrArg some (by kernel_rfl))
 f285 := Tryd.func108.trans (congrArg some (by kernel_rfl))
 f286 := Tryd.func109.trans (congrArg some (by kernel_rfl))
 f288 := Tryd.func105.trans (congrArg some (by kernel_rfl))
 f317 := Tryd.func110.trans (congrArg some (by kernel_rfl))
 f318 := Tryd.func111.trans (congrArg some (by kernel_rfl))
 f319 := Tryd.func112.trans (congrArg some (by kernel_rfl))
 f320 := Tryd.func113.trans (congrArg some (by kernel_rfl))
 f337 := Tryd.func114.trans (congrArg some (by kernel_rfl))
 f338 := Tryd.func115.trans (congrArg some (by kernel_rfl))
 t0 := Tryd.underlying0
 a0 := Tryd.isAgg0
 z0 := Tryd.sizeOf0
 v0 := Tryd.zeroValue0
 t3 := Tryd.underlying3
 a3 := Tryd.isAgg3
 z3 := Tryd.sizeOf3
 v3 := Tryd.zeroValue3
 t4 := Tryd.underlying4
 a4 := Tryd.isAgg4
 z4 := Tryd.sizeOf4
 v4 := Tryd.zeroValue4
 t5 := Tryd.underlying5
 a5 := Tryd.isAgg5
 z5 := Tryd.sizeOf5
 v5 := Tryd.zeroValue5
 t9 := Tryd.underlying9
 a9 := Tryd.isAgg9
 z9 := Tryd.sizeOf9
 v9 := Tryd.zeroValue9
 t20 := Tryd.underlying20
 a20 := Tryd.isAgg20
 z20 := Tryd.sizeOf20
 v20 := Tryd.zeroValue20
 t37 := Tryd.underlying102
 a37 := Tryd.isAgg102
 z37 := Tryd.sizeOf102
 v37 := Tryd.zeroValue102
 t46 := Tryd.underlying87
 a46 := Tryd.isAgg87
 z46 := Tryd.sizeOf87
 v46 := Tryd.zeroValue87
 t51 := Tryd.underlying109
 a51 := Tryd.isAgg109
 z51 := Tryd.sizeOf109
 v51 := Tryd.zeroValue109
 t53 := Tryd.underlying25
 a53 := Tryd.isAgg25
 z53 := Tryd.sizeOf25
 v53 := Tryd.zeroValue25
 t171 := Tryd.underlying127
 a171 := Tryd.isAgg127
 z171 := Tryd.sizeOf127
 v171 := Tryd.zeroValue127
 t173 := Tryd.underlying129
 a173 := Tryd.isAgg129
 z173 := Tryd.sizeOf129
 v173 := Tryd.zeroValue129
 t212 := Tryd.underlying132
 a212 := Tryd.isAgg132
 z212 := Tryd.sizeOf132
 v212 := Tryd.zeroValue132
 t213 := Tryd.underlying133
 a213 := Tryd.isAgg133
 z213 := Tryd.sizeOf133
 t232 := Tryd.underlying134
 a232 := Tryd.isAgg134
 z232 := Tryd.sizeOf134
 v232 := Tryd.zeroValue134
 t233 := Tryd.underlying135
 a233 := Tryd.isAgg135
 z233 := Tryd.sizeOf135
 v233 := Tryd.zeroValue135
 g17 := by kernel_rfl
 g18 := by kernel_rfl
 g19 := by kernel_rfl
 i0 := by kernel_rfl
 i3 := by kernel_rfl
 i4 := by kernel_rfl
 i5 := by kernel_rfl
 i9 := by kernel_rfl
 i20 := by kernel_rfl
 i37 := by kernel_rfl
 i46 := by kernel_rfl
 i51 := by kernel_rfl
 i53 := by kernel_rfl
 i171 := by kernel_rfl
 i173 := by kernel_rfl
 i212 := by kernel_rfl
 i232 := by kernel_rfl
 i233 := by kernel_rfl
 m17 := by kernel_rfl
 m18 := by kernel_rfl
 m19 := by kernel_rfl }
open Go.RowKit Go.Sort Go.Lib in
theorem Tryd.internal_strconv_AppendUint_10 (B n u : Nat) (hu64 : u < 18446744073709551616) (sv : Value) (xs : List Value) (w : World) (hown : w.ownsRow B 5 1 sv n xs) (hBw : B ≤ w.heap.size) (hlim : n + 20 ≤ 140737488355328) (htab : Lib.TabIs Tryd.prog w "internal/strconv.uint64pow10" .u64 Lib.pow10Tab) :
  Calls Tryd.prog 105 #[sv, .int .u64 u, .int .i64 10] w fun e w' => ∃ v', e = .returned v' ∧ w'.ownsRow B 5 1 v' (n + (Lib.decDigits u).length) (xs ++ Lib.byteCells (Lib.decDigits u)) ∧ Below B w w' ∧ Lib.OthersKept 5 none w w' := Any.internal_strconv_AppendUint_10 Tryd.laysM288 B n u hu64 sv xs w hown hBw hlim htab
def Tryd.laysM176_ren : Go.Shelf.Ren := ⟨fun | 176 => 103 | 249 => 104 | 288 => 105 | 283 => 106 | 284 => 107 | 285 => 108 | 286 => 109 | 129 => 101 | 317 => 110 | 318 => 111 | 319 => 112 | 320 => 113 | 337 => 114 | 338 => 115 | n => n, fun | 37 => 102 | 2 => 2 | 3 => 3 | 53 => 25 | 4 => 4 | 9 => 9 | 171 => 127 | 0 => 0 | 173 => 129 | 212 => 132 | 51 => 109 | 5 => 5 | 20 => 20 | 213 => 133 | 46 => 87 | 232 => 134 | 233 => 135 | n => n, fun | 17 => 0 | 18 => 1 | 19 => 2 | n => n⟩
theorem Tryd.laysM176 : Go.Proofs.LaysM.n176 Tryd.prog Tryd.laysM176_ren := {
 mixed := by kernel_rfl
 f129 := Tryd.func101.trans (congrArg some (by kernel_rfl))
 f176 := Tryd.func103.trans (congrArg some (by kernel_rfl))
 f249 := Tryd.func104.trans (congrArg some (by kernel_rfl))
 f283 := Tryd.func106.trans (congrArg some (by kernel_rfl))
 f284 := Tryd.func107.trans (congrArg some (by kernel_rfl))
 f285 := Tryd.func108.trans (congrArg some (by kernel_rfl))
 f286 := Tryd.func109.trans (congrArg some (by kernel_rfl))
 f288 := Tryd.func105.trans (congrArg some (by kernel_rfl))
 f317 := Tryd.func110.trans (congrArg some (by kernel_rfl))
 f318 := Tryd.func111.trans (congrArg some (by kernel_rfl))
 f319 := Tryd.func112.trans (congrArg some (by kernel_rfl))
 f320 := Tryd.func113.trans (congrArg some (by kernel_rfl))
 f337 := Tryd.func114.trans (congrArg some (by kernel_rfl))
 f338 := Tryd.func115.trans (congrArg some (by kernel_rfl))
 t0 := Tryd.underlying0
 a0 := Tryd.isAgg0
 z0 := Tryd.sizeOf0
 v0 := Tryd.zeroValue0
 t2 := Tryd.underlying2
 a2 := Tryd.isAgg2
 z2 := Tryd.sizeOf2
 v2 := Tryd.zeroValue2
 t3 := Tryd.underlying3
 a3 := Tryd.isAgg3
 z3 := Tryd.sizeOf3
 v3 := Tryd.zeroValue3
 t4 := Tryd.underlying4
 a4 := Tryd.isAgg4
 z4 := Tryd.sizeOf4
 v4 := Tryd.zeroValue4
 t5 := Tryd.underlying5
 a5 := Tryd.isAgg5
 z5 := Tryd.sizeOf5
 v5 := Tryd.zeroValue5
 t9 := Tryd.underlying9
 a9 := Tryd.isAgg9
 z9 := Tryd.sizeOf9
 v9 := Tryd.zeroValue9
 t20 := Tryd.underlying20
 a20 := Tryd.isAgg20
 z20 := Tryd.sizeOf20
 v20 := Tryd.zeroValue20
 t37 := Tryd.underlying102
 a37 := Tryd.isAgg102
 z37 := Tryd.sizeOf102
 v37 := Tryd.zeroValue102
 t46 := Tryd.underlying87
 a46 := Tryd.isAgg87
 z46 := Tryd.sizeOf87
 v46 := Tryd.zeroValue87
 t51 := Tryd.underlying109
 a51 := Tryd.isAgg109
 z51 := Tryd.sizeOf109
 v51 := Tryd.zeroValue109
 t53 := Tryd.underlying25
 a53 := Tryd.isAgg25
 z53 := Tryd.sizeOf25
 v53 := Tryd.zeroValue25
 t171 := Tryd.underlying127
 a171 := Tryd.isAgg127
 z171 := Tryd.sizeOf127
 v171 := Tryd.zeroValue127
 t173 := Tryd.underlying129
 a173 := Tryd.isAgg129
 z173 := Tryd.sizeOf129
 v173 := Tryd.zeroValue129
 t212 := Tryd.underlying132
 a212 := Tryd.isAgg132
 z212 := Tryd.sizeOf132
 v212 := Tryd.zeroValue132
 t213 := Tryd.underlying133
 a213 := Tryd.isAgg133
 z213 := Tryd.sizeOf133
 t232 := Tryd.underlying134
 a232 := Tryd.isAgg134
 z232 := Tryd.sizeOf134
 v232 := Tryd.zeroValue134
 t233 := Tryd.underlying135
 a233 := Tryd.isAgg135
 z233 := Tryd.sizeOf135
 v233 := Tryd.zeroValue135
 g17 := by kernel_rfl
 g18 := by kernel_rfl
 g19 := by kernel_rfl
 i0 := by kernel_rfl
 i2 := by kernel_rfl
 i3 := by kernel_rfl
 i4 := by kernel_rfl
 i5 := by kernel_rfl
 i9 := by kernel_rfl
 i20 := by kernel_rfl
 i37 := by kernel_rfl
 i46 := by kernel_rfl
 i51 := by kernel_rfl
 i53 := by kernel_rfl
 i171 := by kernel_rfl
 i173 := by kernel_rfl
 i212 := by kernel_rfl
 i232 := by kernel_rfl
 i233 := by kernel_rfl
 m17 := by kernel_rfl
 m18 := by kernel_rfl
 m19 := by kernel_rfl }
open Go.RowKit Go.Sort Go.Lib in
theorem Tryd.strconv_AppendInt_10 (B n : Nat) (i : Int) (h0 : -9223372036854775808 ≤ i) (h1 : i ≤ 9223372036854775807) (sv : Value) (xs : List Value) (w : World) (hown : w.ownsRow B 5 1 sv n xs) (hBw : B ≤ w.heap.size) (hlim : n + 21 ≤ 140737488355328) (htab : Lib.TabBelow Tryd.prog B w "internal/strconv.uint64pow10" .u64 Lib.pow10Tab) :
  Calls Tryd.prog 103 #[sv, .int .i64 i, .int .i64 10] w fun e w' => ∃ v', e = .returned v' ∧ w'.ownsRow B 5 1 v' (n + (Lib.itoa i).length) (xs ++ Lib.byteCells (Lib.itoa i)) ∧ Below B w w' ∧ Lib.OthersKept 5 none w w' := Any.strconv_AppendInt_10 Tryd.laysM176 B n i h0 h1 sv xs w hown hBw hlim htab
end Go.Proofs
namespace Go.Proofs.YtmfjcachghboiaaDoor
open Go.RowKit
def Tb (w : World) : Prop := Lib.TabBelow Tryd.prog w.heap.size w "internal/strconv.uint64pow10" .u64 Lib.pow10Tab
theorem Tb.to {w w' : World} (h : Tb w) (hb : Below w.heap.size w w') : Tb w' := fun W hW => h W (hb.trans (hW.mono hb.size))
theorem Tb.low {w w' : World} (h : Tb w) (hb : Below w.heap.size w w') {B : Nat} (hB : w.heap.size ≤ B) : Lib.TabBelow Tryd.prog B w' "internal/strconv.uint64pow10" .u64 Lib.pow10Tab := fun W hW => h W (hb.trans (hW.mono hB))
end Go.Proofs.YtmfjcachghboiaaDoor
namespace Go.Proofs.YtmfjcachghboiaaDoor
open Go.RowKit
def KS (k : IntKind) (w : World) (A : Option Addr) (l : List Int) : Prop := Rd w A (l.map (Value.int k))
section
variable {k : IntKind} {w w' : World} {A : Option Addr} {l : List Int}
theorem KS.below {B : Nat} (h : KS k w A l) (hb : Below B w w') (hB : w.heap.size ≤ B) : KS k w' A l := Rd.below h hb hB
theorem KS.alloc (h : KS k w A l) (o : Obj) : KS k (w.alloc o) A l := h.below ((Below.refl _ _).alloc (Nat.le_refl _) _) (Nat.le_refl _)
theorem KS.drew (h : KS k w A l) : KS k w.drew A l := h.below (Below.refl _ _).drew (Nat.le_refl _)
theorem KS.then_ (h : KS k w A l) (hb : Below w.heap.size w w') : KS k w' A l := h.below hb (Nat.le_refl _)
theorem KS.at_ (h : KS k w A l) {i : Nat} (hk : i < l.length) : ∃ b o, A = some ⟨b, o, none⟩ ∧ b < w.heap.size ∧ ∀ i (hi : i < l.length), w.cell? ⟨b, o + i, none⟩ = some (.int k l[i]) := by
 obtain ⟨b, o, rfl, hb, hc⟩ := h (by intro e; have := congrArg List.length e; simp at this; subst this; simp at hk); exact ⟨b, o, rfl, hb, fun i hi => hc i _ (by rw [List.getElem?_map, List.getElem?_eq_getElem hi]; rfl)⟩
theorem KS.pre (h : KS k w A l) (n : Nat) : KS k w A (l.take n) := Rd.take h ⟨(l.drop n).map (Value.int k), by rw [← List.map_append, List.take_append_drop]⟩
theorem KS.shift {b o : Nat} (h : KS k w (some ⟨b, o, none⟩) l) {n : Nat} (hn : n ≤ l.length) : KS k w (some ⟨b, o + n, none⟩) (l.drop n) := by
 unfold KS at h ⊢; rw [← List.take_append_drop n l, List.map_append] at h; have := Rd.shift h; rw [List.length_map, List.length_take, Nat.min_eq_left hn] at this; exact this
def FrA (w : World) (A : Option Addr) : Prop := ∀ b o, A = some ⟨b, o, none⟩ → w.heap.size ≤ b
def OwnK (k : IntKind) (e : TypeId) (w : World) (base : Nat) (v : Value) (l : List Int) : Prop := w.ownsRow base e 1 v l.length (l.map (Value.int k))
variable {e : TypeId} {base : Nat} {v : Value}
theorem OwnK.form (h : OwnK k e w base v l) : ∃ A c, v = .slice A l.length c ∧ l.length ≤ c ∧ c ≤ maxLen ∧ KS k w A l := own_form h
theorem OwnK.fresh {n c : Nat} {A : Option Addr} (h : OwnK k e w base (.slice A n c) l) : ∀ b o, A = some ⟨b, o, none⟩ → base ≤ b := fun b o hA => by
 rcases h.2 with ⟨hv, _⟩ | ⟨g, _, _, hv, hg, _⟩
 ·injection hv with hv _ _; rw [hA] at hv; cases hv
 ·injection hv with hv _ _; rw [hA] at hv; injection hv with hv; injection hv with hv _; omega
theorem OwnK.nil : OwnK k e w base (.slice none 0 0) [] := World.ownsRow_nil _ _ _ _
theorem OwnK.below (h : OwnK k e w base v l) (hb : Below w.heap.size w w') : OwnK k e w' base v l := by
 refine ⟨h.1, ?_⟩; rcases h.2 with h2 | ⟨g, cap, cur, hv, hg, hh, r⟩
 ·exact .inl h2
 ·exact .inr ⟨g, cap, cur, hv, hg, (hb.block g (Array.getElem?_eq_some_iff.1 hh).1).trans hh, r⟩
theorem OwnK.snoc {n : Nat} {x : Int} {cs : List Value} (h : w.ownsRow base e 1 v (n + 1) (cs ++ [.int k x])) (hn : n = l.length) (hc : cs = l.map (Value.int k)) : OwnK k e w base v (l ++ [x]) := by
 subst hn; subst hc; simpa [OwnK] using h
theorem OwnK.app {n : Nat} {l' : List Int} {cs : List Value} (h : w.ownsRow base e 1 v n cs) (hn : n = (l ++ l').length) (hc : cs = l.map (Value.int k) ++ l'.map (Value.int k)) : OwnK k e w base v (l ++ l') := by
 subst hn; subst hc; simpa [OwnK] using h
theorem kone (l : List Int) : ∀ u ∈ l.map (Value.int k), u.oneCell' = true := by
 intro u hu; obtain ⟨n, _, rfl⟩ := List.mem_map.1 hu; rfl
end
end Go.Proofs.YtmfjcachghboiaaDoor
namespace Go.Proofs.YtmfjcachghboiaaDoor
open Go.RowKit
def oct (n : Int) (j : Nat) : Int := (n / 2 ^ (56 - 8 * j)) % 256
def octRow (n : Int) (k : Nat) : Array Value :=
 #[.int .u8 (if 0 < k then oct n 0 else 0), .int .u8 (if 1 < k then oct n 1 else 0), .int .u8 (if 2 < k then oct n 2 else 0), .int .u8 (if 3 < k then oct n 3 else 0), .int .u8 (if 4 < k then oct n 4 else 0), .int .u8 (if 5 < k then oct n 5 else 0), .int .u8 (if 6 < k then oct n 6 else 0), .int .u8 (if 7 < k then oct n 7 else 0)]
set_option maxHeartbeats 2000000 in
theorem octets_any (n : Int) (w : World) : Calls Tryd.prog 94 #[.int .u64 n] w fun e w' => e = .returned (.agg (octRow n 8)) ∧ Below w.heap.size w w' := by
 go_enter Tryd.func94, Tryd.ntmps94
 go_wp2
 go_loopw [3, 4] (fun _ i wr => ∃ k : Nat, k ≤ 8 ∧ i = .int .i64 k ∧ Blk wr w.heap.size 117 (octRow n k) ∧ Below w.heap.size w wr) (fun _ i _ => 8 - (intOf i).toNat)
 case atStart => exact ⟨0, by omega, rfl, Blk.new _ _ _, (Below.refl _ _).alloc (Nat.le_refl _) _⟩
 case round =>
  obtain ⟨k, hk, rfl, hb, hbl⟩ := hrel; have qc := hb.cell; have qf := hb.frozen; have HB := hide hb; have HL := hide hbl; clear hb hbl; rcases (show k = 0 ∨ k = 1 ∨ k = 2 ∨ k = 3 ∨ k = 4 ∨ k = 5 ∨ k = 6 ∨ k = 7 ∨ k = 8 by omega) with rfl | rfl | rfl | rfl | rfl | rfl | rfl | rfl | rfl
  ·simp [octRow] at qc
   go_wp2
   go_roundw
   case rel => exact ⟨1, by omega, rfl, by simpa [octRow, oct] using HB.out.set_ 0 (.int .u8 (oct n 0)), HL.out.setCell (p := ⟨w.heap.size, 0, none⟩) (Nat.le_refl _) _⟩
   case measure => simp [intOf]
  ·simp [octRow] at qc
   go_wp2
   go_roundw
   case rel => exact ⟨2, by omega, rfl, by simpa [octRow, oct] using HB.out.set_ 1 (.int .u8 (oct n 1)), HL.out.setCell (p := ⟨w.heap.size, 1, none⟩) (Nat.le_refl _) _⟩
   case measure => simp [intOf]
  ·simp [octRow] at qc
   go_wp2
   go_roundw
   case rel => exact ⟨3, by omega, rfl, by simpa [octRow, oct] using HB.out.set_ 2 (.int .u8 (oct n 2)), HL.out.setCell (p := ⟨w.heap.size, 2, none⟩) (Nat.le_refl _) _⟩
   case measure => simp [intOf]
  ·simp [octRow] at qc
   go_wp2
   go_roundw
   case rel => exact ⟨4, by omega, rfl, by simpa [octRow, oct] using HB.out.set_ 3 (.int .u8 (oct n 3)), HL.out.setCell (p := ⟨w.heap.size, 3, none⟩) (Nat.le_refl _) _⟩
   case measure => simp [intOf]
  ·simp [octRow] at qc
   go_wp2
   go_roundw
   case rel => exact ⟨5, by omega, rfl, by simpa [octRow, oct] using HB.out.set_ 4 (.int .u8 (oct n 4)), HL.out.setCell (p := ⟨w.heap.size, 4, none⟩) (Nat.le_refl _) _⟩
   case measure => simp [intOf]
  ·simp [octRow] at qc
   go_wp2
   go_roundw
   case rel => exact ⟨6, by omega, rfl, by simpa [octRow, oct] using HB.out.set_ 5 (.int .u8 (oct n 5)), HL.out.setCell (p := ⟨w.heap.size, 5, none⟩) (Nat.le_refl _) _⟩
   case measure => simp [intOf]
  ·simp [octRow] at qc
   go_wp2
   go_roundw
   case rel => exact ⟨7, by omega, rfl, by simpa [octRow, oct] using HB.out.set_ 6 (.int .u8 (oct n 6)), HL.out.setCell (p := ⟨w.heap.size, 6, none⟩) (Nat.le_refl _) _⟩
   case measure => simp [intOf]
  ·simp [octRow] at qc
   go_wp2
   go_roundw
   case rel => exact ⟨8, by omega, rfl, by simpa [octRow, oct] using HB.out.set_ 7 (.int .u8 (oct n 7)), HL.out.setCell (p := ⟨w.heap.size, 7, none⟩) (Nat.le_refl _) _⟩
   case measure => simp [intOf]
  ·simp [octRow] at qc
   go_wp2
   have h8 := ((((((((HB.out.set_ 0 (.int .u8 (oct n 0))).set_ 1 (.int .u8 (oct n 1))).set_ 2 (.int .u8 (oct n 2))).set_ 3 (.int .u8 (oct n 3))).set_ 4 (.int .u8 (oct n 4))).set_ 5 (.int .u8 (oct n 5))).set_ 6 (.int .u8 (oct n 6))).set_ 7 (.int .u8 (oct n 7))); have e8 : ((((((((octRow n 8).setIfInBounds 0 (.int .u8 (oct n 0))).setIfInBounds 1 (.int .u8 (oct n 1))).setIfInBounds 2 (.int .u8 (oct n 2))).setIfInBounds 3 (.int .u8 (oct n 3))).setIfInBounds 4 (.int .u8 (oct n 4))).setIfInBounds 5 (.int .u8 (oct n 5))).setIfInBounds 6 (.int .u8 (oct n 6))).setIfInBounds 7 (.int .u8 (oct n 7)) = octRow n 8 := by simp [octRow]
   rw [e8] at h8; exact bodyPost_ret (results_blk1 rfl _ _ _ _ _ _ rfl h8 Tryd.underlying117 rfl (by kernel_rfl)) rfl ⟨rfl, ((((((((HL.out.setCell (p := ⟨w.heap.size, 0, none⟩) (Nat.le_refl _) (.int .u8 (oct n 0))).setCell (p := ⟨w.heap.size, 1, none⟩) (Nat.le_refl _) (.int .u8 (oct n 1))).setCell (p := ⟨w.heap.size, 2, none⟩) (Nat.le_refl _) (.int .u8 (oct n 2))).setCell (p := ⟨w.heap.size, 3, none⟩) (Nat.le_refl _) (.int .u8 (oct n 3))).setCell (p := ⟨w.heap.size, 4, none⟩) (Nat.le_refl _) (.int .u8 (oct n 4))).setCell (p := ⟨w.heap.size, 5, none⟩) (Nat.le_refl _) (.int .u8 (oct n 5))).setCell (p := ⟨w.heap.size, 6, none⟩) (Nat.le_refl _) (.int .u8 (oct n 6))).setCell (p := ⟨w.heap.size, 7, none⟩) (Nat.le_refl _) (.int .u8 (oct n 7)))⟩
def sumF (h x : Int) : Int := IntKind.u64.wrap (bits .xor .u64 h (IntKind.u64.wrap x) * 1099511628211)
theorem foldl_take1 {α β : Type} (f : β → α → β) (b : β) (l : List α) (k : Nat) (hk : k < l.length) : (l.take (k + 1)).foldl f b = f ((l.take k).foldl f b) l[k] := by
 rw [List.take_succ_eq_append_getElem hk, List.foldl_append]; rfl
def sumB (l : List Int) : Int := l.foldl sumF 14695981039346656037
set_option maxHeartbeats 1000000 in
theorem sum_any (A : Option Addr) (c : Nat) (l : List Int) (w : World) (hn : l.length ≤ 9223372036854775807) (h : KS .u8 w A l) :
  Calls Tryd.prog 95 #[.slice A l.length c] w fun e w' => e = .returned (.int .u64 (sumB l)) ∧ w = w' := by
 go_enter Tryd.func95, Tryd.ntmps95
 go_wp2
 go_loopw [3, 5, 8] (fun s _ i wr => ∃ k : Nat, k ≤ l.length ∧ i = .int .i64 k ∧ s = .int .u64 ((l.take k).foldl sumF 14695981039346656037) ∧ w = wr) (fun _ _ i _ => l.length - (intOf i).toNat)
 case atStart => exact ⟨0, Nat.zero_le _, rfl, rfl, rfl⟩
 case round =>
  obtain ⟨k, hk, rfl, rfl, rfl⟩ := hrel
  by_cases hlt : k < l.length
  ·obtain ⟨b, o, rfl, hbl, hc⟩ := h.at_ hlt; have c0 := hc k hlt; clear hc; have hs := foldl_take1 sumF 14695981039346656037 l k hlt; have HS := hide hs; clear hs
   go_wp2
   go_roundw
   case rel => exact ⟨k + 1, by omega, by go_num, by rw [HS.out]; rfl, by trivial⟩
   case measure => simp [intOf]; omega
  ·have hr : l.take k = l := List.take_of_length_le (by omega); rw [hr]; clear hr
   go_wp2
   go_ret
   exact ⟨rfl, rfl⟩
end Go.Proofs.YtmfjcachghboiaaDoor
namespace Go.Proofs.YtmfjcachghboiaaDoor
open Go.RowKit
section
variable {P : Program} (w : World)
theorem run_append_src_grows (t tx ty e : TypeId) (i : TypeInfo) (z : Value) (size bytes : Nat) (ht : P.underlying t = some (.slice e)) (hi : P.info? e = some i) (hz : i.zero = some z) (hsize : i.size = size) (hby : i.bytes = bytes) (hzs : z.cells.size = size)
  (A : Option Addr) (n cap : Nat) (olds : List Value) (hlo : olds.length = n * size) (hr : Rd w A olds) (x : Value) (m : Nat) (news : List Value) (hs : Src P size tx x m news w)
  (hg : cap < n + m) (h63 : n + m ≤ maxLen) (hbytes : (n + m) * bytes ≤ 140737488355328) :
  ∃ v' w', (Builtin.append_ #[t, tx] ty #[.slice A n cap, x]).run P w = .ok v' w' ∧ w'.ownsRow w.heap.size e size v' (n + m) (olds ++ news) ∧ w.grownBy w' none := by
 subst hsize; subst hby
 have hlen : (olds ++ news).length = (n + m) * i.size := by rw [List.length_append, hlo, hs.newsLen, Nat.add_mul]
 have hge := grownCap_ge w (n + m) cap e; have hcm : grownCap w (n + m) cap e ≤ maxLen := grownCap_le_maxLen w (n + m) cap e h63; have hold : (Builtin.firstCells i.size n (.slice A n cap)).run P w.drew = .ok olds.toArray w.drew := by
  by_cases he : olds = []
  ·subst he; cases A with
   | none => exact run_firstCells_none w.drew i.size n n cap |>.trans (by simp)
   | some a => exact run_firstCells_some w.drew i.size n a n cap [] hlo (fun j u h => by simp at h)
  ·obtain ⟨b, o, rfl, _, hc⟩ := hr he; refine run_firstCells_some w.drew i.size n ⟨b, o, none⟩ n cap olds hlo fun j u hu => ?_
   rw [Addr.add_lit]; exact hc j u hu
 have hrun := run_append_grow_src (P := P) w t tx ty e i z ht hi hz A n cap olds hold x m news hs hg (by simp only [maxLen] at h63; omega) (growslice_fits hg hbytes); refine ⟨_, _, hrun, ⟨hlen, .inr ⟨w.heap.size, _, _, rfl, Nat.le_refl _, heap_alloc_new w.drew _, hge, hcm, ?_, ?_⟩⟩, ⟨rfl, rfl, rfl, by simp, fun k hk _ => Below.heap_alloc w.drew _ k hk⟩⟩
 ·simp only [Array.size_append, List.size_toArray, size_zeroCells, hzs, hlen, ← Nat.add_mul]
  congr 1
  omega
 ·simp only [Array.toList_append]; rw [← hlen]; exact List.take_left
theorem wpList_append_src_grows {ops : Array Oper} {rest : List Oper} {o : Oper} {a : Act} {Q : Exit → Act → World → Prop} (hgd : o.guard = none) (s y : Operand) (t tx : TypeId)
  (ho : o.op = .call { callee := .builtin .append, args := #[s, y], argTypes := #[t, tx] })
  (e : TypeId) (i : TypeInfo) (z : Value) (size bytes : Nat) (ht : P.underlying t = some (.slice e)) (hi : P.info? e = some i) (hz : i.zero = some z) (hsize : i.size = size) (hby : i.bytes = bytes) (hzs : z.cells.size = size)
  (A : Option Addr) (n cap : Nat) (hsv : a.eval s = .slice A n cap) (olds : List Value) (hlo : olds.length = n * size) (hr : Rd w A olds) (x : Value) (m : Nat) (news : List Value) (hx : a.eval y = x) (hs : Src P size tx x m news w)
  (hg : cap < n + m) (h63 : n + m ≤ maxLen) (hbytes : (n + m) * bytes ≤ 140737488355328)
  (h : ∀ v' w', w'.ownsRow w.heap.size e size v' (n + m) (olds ++ news) → w.grownBy w' none → wpList P ops Q rest (a.put o.dst v') w') : wpList P ops Q (o :: rest) a w :=
 wpList_plain hgd fun _ hK => by
  obtain ⟨v', w', hrun, h2, h3⟩ := run_append_src_grows (P := P) w t tx o.type e i z size bytes ht hi hz hsize hby hzs A n cap olds hlo hr x m news hs hg h63 hbytes; unfold Oper.wp execOp; simp only [ho, resolve, invoke, builtin, Sem.run_bind, Sem.run_pure, Result.andThen_ok, List.map_toArray, List.map_cons, List.map_nil, hsv, hx, hrun]; exact hK _ _ (h v' w' h2 h3)
end
end Go.Proofs.YtmfjcachghboiaaDoor
namespace Go.Proofs.YtmfjcachghboiaaDoor
open Go.RowKit
theorem addr_add (b o j : Nat) : (⟨b, o, none⟩ : Addr).add j = ⟨b, o + j, none⟩ := by unfold Addr.add; split <;> simp_all
section
variable {P : Program}
theorem run_copyN (w : World) (dT sT ty elem : TypeId) (size : Nat) (dp sp : Option Addr) (g o dLen dCap sLen sCap : Nat) (cur : Array Value) (t : TypeId) (cs : List Value)
  (hu : P.underlying dT = some (.slice elem)) (hs : (P.info? elem).map (·.size) = some size)
  (hg : Blk w g t cur) (hn : cs.length = Nat.min sLen dLen * size) (hd : cs ≠ [] → dp = some ⟨g, o, none⟩)
  (hsrc : Rd w sp cs) (hfit : o + cs.length ≤ cur.size) (h1 : ∀ v ∈ cs, v.oneCell' = true) :
  ∃ w', (Builtin.copy_ #[dT, sT] ty #[.slice dp dLen dCap, .slice sp sLen sCap]).run P w = .ok (goInt (Nat.min sLen dLen)) w' ∧
   Blk w' g t (splice cur.toList o cs).toArray ∧ w.grownBy w' (some g) ∧ w'.heap.size = w.heap.size := by
 cases hq : P.info? elem with
 | none => simp [hq] at hs
 | some i =>
  have hi : i.size = size := by simpa [hq] using hs
  by_cases hc : cs = []
  ·subst hc; refine ⟨w, ?_, by simpa [splice] using hg, World.grownBy.refl w _, rfl⟩; have h0 : Nat.min sLen dLen * i.size = 0 := by rw [hi, ← hn]; rfl
   have hl : ∀ a : Addr, (loadCells a (Nat.min sLen dLen * i.size)).run P w = .ok #[] w := fun a => by
    rw [h0]; simp [loadCells, loadCellsFrom]
   cases sp <;> cases dp <;> simp [Builtin.copy_, run_underlying hu, Builtin.lenOf, Builtin.firstCells, sizeOf, typeInfo, hq, storeCells, hl]
  ·obtain rfl := hd hc; obtain ⟨b, o', rfl, _, hcell⟩ := hsrc hc; have hl := run_loadCells_list (P := P) w ⟨b, o', none⟩ cs (fun j v hv => by rw [addr_add]; exact hcell j v hv); have hst := run_storeCells_at P g o t cs 0 cur w hg (by simpa using hfit) h1; refine ⟨_, ?_, setRow_heap w g cur _ t _ hg, ⟨rfl, rfl, rfl, by simp [World.setRow], fun k _ hk => setRow_other w g k _ (fun e => hk (by rw [e]))⟩, by simp [World.setRow]⟩; have hlen : Nat.min sLen dLen * i.size = cs.length := by rw [hn, hi]
   simp [Builtin.copy_, run_underlying hu, Builtin.lenOf, Builtin.firstCells, sizeOf, typeInfo, hq, hlen, hl, hst, splice]
theorem step_copyN {ops : Array Oper} {w : World} {o : Oper} {a : Act} {K : Act → World → Prop} {Q : Exit → Act → World → Prop} {E : Prop} (hgd : o.guard = none) (d s : Operand) (dT sT : TypeId)
  (ho : o.op = .call { callee := .builtin .copy, args := #[d, s], argTypes := #[dT, sT] }) (elem : TypeId) (size : Nat) (hu : P.underlying dT = some (.slice elem)) (hs : (P.info? elem).map (·.size) = some size)
  (dp sp : Option Addr) (dLen dCap sLen sCap : Nat) (hdv : a.eval d = .slice dp dLen dCap) (hsv : a.eval s = .slice sp sLen sCap)
  (g off : Nat) (cur : Array Value) (t : TypeId) (hg : Blk w g t cur) (cs : List Value) (hn : cs.length = Nat.min sLen dLen * size) (hd : cs ≠ [] → dp = some ⟨g, off, none⟩)
  (hsrc : Rd w sp cs) (hfit : off + cs.length ≤ cur.size) (h1 : ∀ v ∈ cs, v.oneCell' = true)
  (h : ∀ w', Blk w' g t (splice cur.toList off cs).toArray → w.grownBy w' (some g) → w'.heap.size = w.heap.size → K (a.put o.dst (goInt (Nat.min sLen dLen))) w') :
  if Region.wanted o (yielded ops a.tmps) = true then Oper.wp P o a w K Q else E := by
 have hw : Region.wanted o (yielded ops a.tmps) = true := by simp [Region.wanted, hgd]
 rw [if_pos hw]; obtain ⟨w', hrun, h2, h3, h4⟩ := run_copyN (P := P) w dT sT o.type elem size dp sp g off dLen dCap sLen sCap cur t cs hu hs hg hn hd hsrc hfit h1; unfold Oper.wp
 simp [execOp, ho, resolve, invoke, builtin, hdv, hsv, hrun, Result.andThen]
 exact h w' h2 h3 h4
end
end Go.Proofs.YtmfjcachghboiaaDoor
namespace Go.Proofs.YtmfjcachghboiaaDoor
open Go.RowKit
theorem infoB : (Tryd.prog.info? 5).map (fun i => (i.zero, i.size, i.bytes)) = some (some (.int .u8 0), 1, 1) := by kernel_rfl
def octL (n : Int) : List Int := [oct n 0, oct n 1, oct n 2, oct n 3, oct n 4, oct n 5, oct n 6, oct n 7]
theorem octRow_eq (n : Int) : octRow n 8 = ((octL n).map (Value.int .u8)).toArray := by simp [octRow, octL]
theorem ks_oct {w : World} {g : Nat} {t : TypeId} {n : Int} (h : Blk w g t (octRow n 8)) : KS .u8 w (some ⟨g, 0, none⟩) (octL n) := by
 rw [octRow_eq] at h; exact Rd.of_blk h
theorem small0 (w : World) : Calls Tryd.prog 106 #[.int .i64 0] w fun e w' => e = .returned (.string ⟨#[48]⟩) ∧ w = w' := by
 go_enter Tryd.func106, Tryd.ntmps106
 go_wp2
 go_ret
 exact ⟨rfl, rfl⟩
set_option maxHeartbeats 1000000 in
theorem appendUint0 (A : Option Addr) (n : Nat) (l : List Int) (w : World) (hl : l.length = n) (hn : n ≤ 100000) (h : KS .u8 w A l) :
  Calls Tryd.prog 105 #[.slice A n n, .int .u64 0, .int .i64 10] w fun e w' => ∃ v, e = .returned v ∧ OwnK .u8 5 w' w.heap.size v (l ++ [48]) ∧ Below w.heap.size w w' := by
 obtain ⟨i0, hi, hz0, hz1, hz2⟩ := info_parts infoB
 go_enter Tryd.func105, Tryd.ntmps105
 go_wp2_with (first
  | (go_at_call 106; refine (small0 _).mono ?_; rintro e w2 ⟨rfl, rfl⟩)
  | (at_builtin; refine wpList_append_src_grows _ rfl _ _ 102 9 rfl 5 i0 _ 1 1 Tryd.underlying102 hi hz0 hz1 hz2 rfl A n n rfl (l.map (Value.int .u8)) (by simp [hl]) h (.string ⟨#[48]⟩) 1 [.int .u8 48] rfl (Src.ofString _ Tryd.underlying9 ⟨#[48]⟩) (by omega) ?_ ?_ ?_))
 ·simp only [maxLen]; omega
 ·omega
 intro v' w' hown hgrow
 go_wp2
 go_ret
 exact ⟨v', rfl, by simpa [OwnK, hl] using hown, Below.of_grown hgrow⟩
theorem appendIntI0 (A : Option Addr) (n : Nat) (l : List Int) (w : World) (hl : l.length = n) (hn : n ≤ 100000) (h : KS .u8 w A l) :
  Calls Tryd.prog 104 #[.slice A n n, .int .i64 0, .int .i64 10] w fun e w' => ∃ v, e = .returned v ∧ OwnK .u8 5 w' w.heap.size v (l ++ [48]) ∧ Below w.heap.size w w' := by
 go_enter Tryd.func104, Tryd.ntmps104
 go_wp2_with (go_at_call 105; refine (appendUint0 A n l _ hl hn h).mono ?_; rintro e w2 ⟨v, rfl, ho, hb⟩)
 go_ret
 exact ⟨v, rfl, ho, hb⟩
theorem appendInt0 (A : Option Addr) (n : Nat) (l : List Int) (w : World) (hl : l.length = n) (hn : n ≤ 100000) (h : KS .u8 w A l) :
  Calls Tryd.prog 103 #[.slice A n n, .int .i64 0, .int .i64 10] w fun e w' => ∃ v, e = .returned v ∧ OwnK .u8 5 w' w.heap.size v (l ++ [48]) ∧ Below w.heap.size w w' := by
 go_enter Tryd.func103, Tryd.ntmps103
 go_wp2_with (go_at_call 104; refine (appendIntI0 A n l _ hl hn h).mono ?_; rintro e w2 ⟨v, rfl, ho, hb⟩)
 go_ret
 exact ⟨v, rfl, ho, hb⟩
set_option maxHeartbeats 1000000 in
theorem text0 (A B : Option Addr) (n d : Nat) (l : List Int) (w : World) (hl : l.length = n) (hn : n ≤ 100000) (h : KS .u8 w A l) (h' : KS .i64 w B [0]) :
  Calls Tryd.prog 97 #[.slice A n n, .slice B 1 d] w fun e w' => ∃ v, e = .returned v ∧ OwnK .u8 5 w' w.heap.size v (l ++ [48] ++ [32]) ∧ Below w.heap.size w w' := by
 obtain ⟨i0, hi, hz0, hz1, hz2⟩ := info_parts infoB; obtain ⟨b, o, rfl, hbl, hc⟩ := h'.at_ (i := 0) (by simp); have c0 := hc 0 (by simp); simp only [Nat.add_zero, List.getElem_cons_zero] at c0; clear hc
 go_enter Tryd.func97, Tryd.ntmps97
 go_wp2
 go_loopw [0, 6, 9] (fun u0 _ i wr => (i = .int .i64 0 ∧ u0 = .slice A n n ∧ wr = w) ∨ (i = .int .i64 1 ∧ OwnK .u8 5 wr w.heap.size u0 (l ++ [48] ++ [32]) ∧ Below w.heap.size w wr)) (fun _ _ i _ => 1 - (intOf i).toNat)
 case atStart => exact .inl ⟨rfl, rfl, rfl⟩
 case round =>
  rcases hrel with ⟨rfl, rfl, rfl⟩ | ⟨rfl, ho, hb⟩
  ·go_wp2_with (first
    | (go_at_call 103; refine (appendInt0 A n l _ hl hn h).mono ?_; rintro e w2 ⟨v, rfl, ho2, hb2⟩; have HO := hide ho2; have HB := hide hb2; have hs2 := hb2.size; clear ho2 hb2)
    | (at_builtin; refine wpList_append_rd _ rfl _ _ 102 rfl wr.heap.size 5 i0 _ 1 1 Tryd.underlying102 hi hz0 hz1 hz2 rfl (by decide) _ _ _ rfl (OwnK.below HO.out ((Below.refl _ _).alloc (Nat.le_refl _) _)) (some ⟨w2.heap.size, 0, none⟩) 1 1 [.int .u8 32] rfl rfl (Rd.new_row _ _ _) (by simp [Value.oneCell']) ?_ ?_ ?_ ?_))
   ·simp only [maxLen, List.length_append, List.length_cons, List.length_nil]; omega
   ·simp only [List.length_append, List.length_cons, List.length_nil]; omega
   ·simp; omega
   intro v' w6 hown' hgrow _; have b6 : Below wr.heap.size wr w6 := (HB.out.alloc hs2 _).grown hgrow (by simp; omega) (fun g hg => (HO.out.lt g hg).1)
   go_wp2
   go_roundw
   case rel => exact .inr ⟨rfl, by simpa [OwnK, hl] using hown', b6⟩
   case measure => simp [intOf]
  ·have HO := hide ho; have HB := hide hb; clear ho hb
   go_wp2
   go_ret
   exact ⟨u0, rfl, HO.out, HB.out⟩
def leafF (n : Int) : Int := sumB (octL n ++ [48] ++ [32])
def pairF (a b : Int) : Int := sumB ([1] ++ octL a ++ octL b)
set_option maxHeartbeats 1000000 in
theorem next0 (n : Int) (B : Option Addr) (d : Nat) (w : World) (h' : KS .i64 w B [0]) :
  Calls Tryd.prog 76 #[.int .u64 n, .slice B 1 d] w fun e w' => e = .returned (.int .u64 (leafF n)) ∧ Below w.heap.size w w' := by
 have HB := hide h'; have HS := hide fun A c l W hn s => sum_any A c l W hn s
 clear h'
 go_enter Tryd.func76, Tryd.ntmps76
 go_wp2_with (first
  | (go_at_call 94; refine (octets_any n _).mono ?_; rintro e w2 ⟨rfl, hb2⟩; have hs2 := hb2.size; have B2 := hide (hb2.alloc hs2 (.cells (octRow n 8) 117)); have K2 := hide (ks_oct (Blk.new w2 117 (octRow n 8))); have I2 := hide ((HB.out.then_ hb2).alloc (.cells (octRow n 8) 117)); clear hb2; simp only [octRow, Nat.reduceLT, if_true] at B2 K2 I2 ⊢)
  | (go_at_call 97; refine (text0 _ B 8 d (octL n) _ rfl (by omega) K2.out I2.out).mono ?_; rintro e w3 ⟨v3, rfl, ho3, hb3⟩; obtain ⟨A3, c3, rfl, hl3, hm3, hk3⟩ := ho3.form; have B3 := hide (B2.out.trans (hb3.mono B2.out.size)); have K3 := hide hk3; clear ho3 hb3 hk3)
  | (go_at_call 95; refine (HS.out A3 c3 _ _ (by simp [octL]) K3.out).mono ?_; rintro e w4 ⟨rfl, rfl⟩))
 go_ret
 exact ⟨rfl, B3.out⟩
theorem leaf_any (n : Int) (w : World) : Calls Tryd.prog 85 #[.int .u64 n] w fun e w' => e = .returned (.int .u64 (leafF n)) ∧ Below w.heap.size w w' := by
 have K := hide (show KS .i64 (w.alloc (.cells #[.int .i64 0] 3)) (some ⟨w.heap.size, 0, none⟩) [0] from Rd.new_row w 3 #[.int .i64 0])
 go_enter Tryd.func85, Tryd.ntmps85
 go_wp2_with (go_at_call 76; refine (next0 n _ _ _ K.out).mono ?_; rintro e w2 ⟨rfl, hb⟩)
 go_ret
 exact ⟨rfl, ((Below.refl w.heap.size w).alloc (Nat.le_refl _) _).trans (hb.mono (by simp))⟩
end Go.Proofs.YtmfjcachghboiaaDoor
namespace Go.Proofs.YtmfjcachghboiaaDoor
theorem dec_small {u : Nat} (h : u < 10) : Lib.decDigits u = [UInt8.ofNat (48 + u)] := Lib.decDigits_one h
theorem dec_big {u : Nat} (h : ¬u < 10) : Lib.decDigits u = Lib.decDigits (u / 10) ++ [UInt8.ofNat (48 + u % 10)] := by
 rw [Lib.decDigits, dif_neg h]
theorem itoa_small {n : Int} (h0 : 0 ≤ n) (h : n < 10) : Lib.itoa n = [UInt8.ofNat (48 + n.toNat)] := by
 unfold Lib.itoa; rw [if_neg (by omega), dec_small (by omega)]
theorem itoa_big {n : Int} (h : 10 ≤ n) : Lib.itoa n = Lib.itoa (n / 10) ++ [UInt8.ofNat (48 + n.toNat % 10)] := by
 unfold Lib.itoa; rw [if_neg (by omega), if_neg (by omega), dec_big (by omega), show (n / 10).toNat = n.toNat / 10 by omega]
theorem itoa_negs {n : Int} (h0 : n < 0) (h : -10 < n) : Lib.itoa n = [45, UInt8.ofNat (48 + n.natAbs)] := by
 unfold Lib.itoa; rw [if_pos h0, dec_small (by omega)]
theorem itoa_negb {n : Int} (h : n ≤ -10) : Lib.itoa n = Lib.itoa (-(-n / 10)) ++ [UInt8.ofNat (48 + n.natAbs % 10)] := by
 unfold Lib.itoa; rw [if_pos (by omega), if_pos (by omega), dec_big (by omega), show (-(-n / 10)).natAbs = n.natAbs / 10 by omega]; rfl
theorem tdiv_neg {n : Int} (h : n ≤ 0) : Int.tdiv n 10 = -(-n / 10) := by
 rw [show n = -(-n) by omega, Int.neg_tdiv, Int.tdiv_eq_ediv_of_nonneg (by omega), Int.neg_neg]
theorem tmod_neg {n : Int} (h : n ≤ 0) : Int.tmod n 10 = -(-n % 10) := by
 rw [show n = -(-n) by omega, Int.neg_tmod, Int.tmod_eq_emod_of_nonneg (by omega), Int.neg_neg]
def numL (z : Int) : List Int := (Lib.itoa z).map fun b => (b.toNat : Int)
def textL (l : List Int) : List Int := l.flatMap fun z => numL z ++ [32]
theorem byteCells_num (z : Int) : Lib.byteCells (Lib.itoa z) = (numL z).map (Value.int .u8) := by simp [Lib.byteCells, numL]
theorem textL_snoc (l : List Int) (z : Int) : textL (l ++ [z]) = textL l ++ numL z ++ [32] := by simp [textL]
theorem textL_take {l : List Int} {k : Nat} (hk : k < l.length) : textL (l.take (k + 1)) = textL (l.take k) ++ numL l[k] ++ [32] := by
 rw [List.take_succ_eq_append_getElem hk, textL_snoc]
theorem numL_len {z : Int} (h0 : -9223372036854775808 ≤ z) (h1 : z ≤ 9223372036854775807) : (numL z).length ≤ 21 := by
 unfold numL; rw [List.length_map]; exact Lib.itoa_length_le z h0 h1
theorem textL_len : ∀ {l : List Int}, (∀ z ∈ l, -9223372036854775808 ≤ z ∧ z ≤ 9223372036854775807) → (textL l).length ≤ 22 * l.length
 | [], _ => Nat.le_refl _
 | z :: l, h => by
  have h1 := numL_len (h z (by simp)).1 (h z (by simp)).2; have h2 := textL_len (l := l) fun y hy => h y (by simp [hy])
  show (numL z ++ [32] ++ textL l).length ≤ _
  simp only [List.length_append, List.length_cons, List.length_nil]; omega
end Go.Proofs.YtmfjcachghboiaaDoor
namespace Go.Proofs.YtmfjcachghboiaaDoor
open Go.RowKit
def inI (l : List Int) : Prop := ∀ z ∈ l, -9223372036854775808 ≤ z ∧ z ≤ 9223372036854775807
instance (l : List Int) : Decidable (inI l) := inferInstanceAs (Decidable (∀ z ∈ l, _))
set_option maxHeartbeats 4000000 in
theorem text_any (base n : Nat) (v : Value) (l zs : List Int) (B : Option Addr) (d : Nat) (w0 w : World) (hT : Tb w0) (hb0 : Below w0.heap.size w0 w) (hB0 : w0.heap.size ≤ base) (hBw : base ≤ w.heap.size) (hown : OwnK .u8 5 w base v l) (hl : l.length ≤ 100000)
  (hz : ∀ W, Below base w W → KS .i64 W B zs) (hi : inI zs) (hzl : zs.length ≤ 100000) :
  Calls Tryd.prog 97 #[v, .slice B zs.length d] w fun e w' => ∃ v', e = .returned v' ∧ OwnK .u8 5 w' base v' (l ++ textL zs) ∧ Below base w w' := by
 obtain ⟨i0, hi0, hz0, hz1, hz2⟩ := info_parts infoB; have HT := hide hT; have HB0 := hide hb0; have HO0 := hide hown; have HZ := hide hz; have HI := hide hi; have hlen := textL_len hi; have HLEN := hide hlen; clear hT hb0 hown hz hi hlen
 go_enter Tryd.func97, Tryd.ntmps97
 go_wp2
 go_loopw [0, 6, 9] (fun u0 _ i wr => ∃ k : Nat, k ≤ zs.length ∧ i = .int .i64 k ∧ OwnK .u8 5 wr base u0 (l ++ textL (zs.take k)) ∧ Below base w wr) (fun _ _ i _ => zs.length - (intOf i).toNat)
 case atStart => exact ⟨0, Nat.zero_le _, rfl, by simpa [textL] using HO0.out, Below.refl _ _⟩
 case round =>
  obtain ⟨k, hk, rfl, ho, hb⟩ := hrel; have HO := hide ho; have HB := hide hb; have hsz := hb.size; clear ho hb
  by_cases hlt : k < zs.length
  ·obtain ⟨b, o, rfl, hbl, hc⟩ := (HZ.out wr HB.out).at_ (i := k) hlt; have c0 := hc k hlt; have hr := HI.out zs[k] (List.getElem_mem hlt); have HC := hide hc; have hll := textL_len (l := zs.take k) (fun z hz => HI.out z (List.mem_of_mem_take hz)); have hll2 : (textL (zs.take k)).length ≤ 22 * zs.length := Nat.le_trans hll (Nat.mul_le_mul_left _ (by rw [List.length_take]; omega)); have hnl := numL_len hr.1 hr.2; have HT2 := hide (HT.out.low ((HB0.out.trans (HB.out.mono hB0))) hB0); obtain ⟨z, hzk⟩ : ∃ z, z = zs[k] := ⟨_, rfl⟩; rw [← hzk] at c0 hr hnl; have HSN := hide (show l ++ textL (zs.take (k + 1)) = l ++ textL (zs.take k) ++ numL z ++ [32] by rw [textL_take hlt, ← hzk]; simp only [List.append_assoc]); clear hc hzk hll; have hr1 := hr.1; have hr2 := hr.2; clear hr
   go_wp2_with (first
    | (go_at_call 103; refine (Tryd.strconv_AppendInt_10 base _ z hr1 hr2 u0 _ _ HO.out (by omega) (by simp only [List.length_append]; omega) HT2.out).mono ?_; rintro e w2 ⟨v2, rfl, ho2, hb2, _⟩; have HO2 := hide ho2; have HB2 := hide (HB.out.trans hb2); have hs2 := hb2.size; clear ho2 hb2)
    | (at_builtin; refine wpList_append_rd _ rfl _ _ 102 rfl base 5 i0 _ 1 1 Tryd.underlying102 hi0 hz0 hz1 hz2 rfl (by decide) _ _ _ rfl (own_keep HO2.out (fun g hg => Below.heap_alloc _ _ g (own_lt HO2.out hg).2)) (some ⟨w2.heap.size, 0, none⟩) 1 1 [.int .u8 32] rfl rfl (Rd.new_row _ _ _) (by simp [Value.oneCell']) ?_ ?_ ?_ ?_))
   ·have hn2 : (Lib.itoa z).length ≤ 21 := by simpa [numL] using hnl
    simp only [maxLen, List.length_append]; omega
   ·have hn2 : (Lib.itoa z).length ≤ 21 := by simpa [numL] using hnl
    simp only [List.length_append]; omega
   ·simp; omega
   intro v' w6 hown' hgrow _; have b6 : Below base w w6 := (HB2.out.alloc (by omega) _).grown hgrow (by simp; omega) (fun g hg => (own_lt HO2.out hg).1); have hown2 : OwnK .u8 5 w6 base v' (l ++ textL (zs.take (k + 1))) := by
    rw [HSN.out]; refine OwnK.app (l := l ++ textL (zs.take k) ++ numL z) (l' := [32]) hown' ?_ ?_
    ·simp only [List.length_append, List.length_cons, List.length_nil, numL, List.length_map]
    ·rw [byteCells_num]; simp
   have HO6 := hide hown2; have HB6 := hide b6; clear hown' hgrow hown2 b6
   go_wp2
   go_roundw
   case rel => exact ⟨k + 1, by omega, by go_num, HO6.out, HB6.out⟩
   case measure => simp [intOf]; omega
  ·obtain rfl : k = zs.length := by omega
   have HO6 := hide (show OwnK .u8 5 wr base u0 (l ++ textL zs) by have := HO.out; rwa [List.take_length] at this); clear HO
   go_wp2
   go_ret
   exact ⟨u0, rfl, HO6.out, HB.out⟩
end Go.Proofs.YtmfjcachghboiaaDoor
namespace Go.Proofs.YtmfjcachghboiaaDoor
open Go.RowKit Go.Sort
def decL (u : Nat) : List Int := (Lib.decDigits u).map fun b => (b.toNat : Int)
theorem byteCells_dec (u : Nat) : Lib.byteCells (Lib.decDigits u) = (decL u).map (Value.int .u8) := by simp [Lib.byteCells, decL]
theorem dec_len {u : Nat} (hu : u < 18446744073709551616) : (Lib.decDigits u).length ≤ 20 := by
 rw [Lib.decDigits_length]; rcases Nat.eq_zero_or_pos u with h | h
 ·subst h; rw [Lib.nDigits_small (by omega)]; omega
 ·have := Lib.numDigits_eq u h hu; split at this <;> omega
theorem dec_pos (u : Nat) : 1 ≤ (Lib.decDigits u).length := by
 rcases Nat.lt_or_ge u 10 with h | h
 ·rw [Lib.decDigits_one h]; simp
 ·rw [dec_big (by omega)]; simp
theorem srcBytes {w : World} {A : Addr} {n c : Nat} {bs : List UInt8} (hn : bs.length = n) (h : ∀ j u, (Lib.byteCells bs)[j]? = some u → w.cell? (A.add j) = some u) : Src Tryd.prog 1 102 (.slice (some A) n c) n (Lib.byteCells bs) w :=
 Src.ofSlice _ Tryd.underlying102 A n c _ (by rw [Lib.byteCells_length, hn, Nat.mul_one]) h (fun u hu => by simp only [Lib.byteCells, List.mem_map] at hu; obtain ⟨b, _, rfl⟩ := hu; rfl)
set_option maxRecDepth 100000 in
set_option maxHeartbeats 4000000 in
theorem auS (u : Nat) (hu : u < 100) (A : Option Addr) (n : Nat) (l : List Int) (w : World) (hl : l.length = n) (hn : n ≤ 100000) (h : KS .u8 w A l) :
  Calls Tryd.prog 105 #[.slice A n n, .int .u64 u, .int .i64 10] w fun e w' => ∃ v, e = .returned v ∧ OwnK .u8 5 w' w.heap.size v (l ++ decL u) ∧ Below w.heap.size w w' := by
 obtain ⟨i0, hi, hz0, hz1, hz2⟩ := info_parts infoB; have hlen := dec_len (u := u) (by omega); have hpos := dec_pos u; have hsz : (⟨(Lib.decDigits u).toArray⟩ : ByteArray).size = (Lib.decDigits u).length := by simp [ByteArray.size]
 have hbc : byteCells ⟨(Lib.decDigits u).toArray⟩ = (decL u).map (Value.int .u8) := by simp [byteCells, decL]
 have q1 : decide ((u : Int) < 100) = true := decide_eq_true (by omega); have hw1 : IntKind.i64.wrap (u : Int) = u := IntWalk.i64_in _ (by omega); have HS := hide hsz; have HB := hide hbc; have HL := hide hlen; have HP := hide hpos; clear hsz hbc hlen hpos
 go_enter Tryd.func105, Tryd.ntmps105
 go_wp2_with (first
  | (go_at_call 106; refine (Tryd.internal_strconv_small u hu _).mono ?_; rintro e w2 ⟨rfl, rfl⟩)
  | (at_builtin; refine wpList_append_src_grows _ rfl _ _ 102 9 rfl 5 i0 _ 1 1 Tryd.underlying102 hi hz0 hz1 hz2 rfl A n n rfl (l.map (Value.int .u8)) (by simp [hl]) h (.string ⟨(Lib.decDigits u).toArray⟩) _ _ rfl (Src.ofString _ Tryd.underlying9 ⟨(Lib.decDigits u).toArray⟩) (by have := HS.out; have := HP.out; omega) ?_ ?_ ?_))
 ·have := HS.out; have := HL.out; simp only [maxLen]; omega
 ·have := HS.out; have := HL.out; omega
 intro v' w' hown hgrow
 go_wp2
 go_ret
 refine ⟨v', rfl, ?_, Below.of_grown hgrow⟩; refine OwnK.app hown (by have := HS.out; simp only [List.length_append, decL, List.length_map]; omega) ?_; rw [HB.out]
set_option maxRecDepth 100000 in
set_option maxHeartbeats 12800000 in
theorem auB (u : Nat) (hu : 100 ≤ u) (hu64 : u < 18446744073709551616) (A : Option Addr) (n : Nat) (l : List Int) (w : World) (hl : l.length = n) (hn : n ≤ 100000) (h : KS .u8 w A l)
  (htab : Lib.TabIs Tryd.prog w "internal/strconv.uint64pow10" .u64 Lib.pow10Tab) :
  Calls Tryd.prog 105 #[.slice A n n, .int .u64 u, .int .i64 10] w fun e w' => ∃ v, e = .returned v ∧ OwnK .u8 5 w' w.heap.size v (l ++ decL u) ∧ Below w.heap.size w w' := by
 obtain ⟨i0, hi, hz0, hz1, hz2⟩ := info_parts infoB; have hu1 : 1 ≤ u := by omega
 have hnd20 : Lib.nDigits u ≤ 20 := by have := Lib.numDigits_eq u hu1 hu64; split at this <;> omega
 have hpos := dec_pos u; have hal : Tryd.prog.arrayLen 127 = 24 := by kernel_rfl
 have hsl : ∀ W, (Instr.sliceAt 127 (.pointer (some ⟨w.heap.size, 0, none⟩)) none (some (.int .i64 (Lib.nDigits u : Int))) none).run Tryd.prog W = .ok (.slice (some ⟨w.heap.size, 0, none⟩) (Lib.nDigits u) 24) W := fun W => by
  rw [run_sliceAt_array_h W 127 ⟨w.heap.size, 0, none⟩ (by simp [Program.arrayLen, Program.elem, Tryd.underlying127]) .i64 (Lib.nDigits u : Int) (by omega) (by rw [hal]; omega)]; have hz : ∀ W, (sizeOf (Tryd.prog.elem 127)).run Tryd.prog W = .ok 1 W := fun W => by kernel_rfl
  go_simp
 have hH0 := Lib.holds_zero0 w 127 (Lib.nDigits u) (by omega); have hfmt := Tryd.internal_strconv_formatBase10 w.heap.size 0 24 u (Array.replicate (Lib.nDigits u) 0) (w.alloc (.cells Lib.zeros24 127)) hH0 (by rw [Array.size_replicate]; exact Lib.lt_pow_nDigits u) hu64 (by rw [Array.size_replicate]; omega); rw [Array.size_replicate] at hfmt; have HH0 := Lib.hid hH0; have iu : (100 : Int) ≤ (u : Int) := by omega
 have HK := hide h; have HP := hide hpos; clear hH0 hal h hpos
 go_enter Tryd.func105, Tryd.ntmps105
 go_wp2_with (first
  | (go_at_call 107; refine (Tryd.internal_strconv_numDigits u hu1 hu64 _ (Lib.tabIs_alloc htab _)).mono ?_; rintro e w' ⟨rfl, rfl⟩))
 go_at_call 108
 refine hfmt.mono ?_; rintro e w' ⟨rfl, k, v', dk, rfl, hF⟩; have hcells : ∀ j u', (Lib.byteCells (Lib.decDigits u))[j]? = some u' → ((putRow (fun (b : UInt8) => Value.int .u8 (b.toNat : Int)) (w.alloc (.cells Lib.zeros24 127)) w.heap.size 0 dk).drewN k).cell? ((⟨w.heap.size, 0, none⟩ : Addr).add j) = some u' := by
  intro j u' hj; have hjl : j < (Lib.decDigits u).length := by
   have h5 := (List.getElem?_eq_some_iff.1 hj).1
   rwa [Lib.byteCells_length] at h5
  have e5 : (Lib.byteCells (Lib.decDigits u))[j]? = some (Value.int .u8 ((Lib.decDigits u)[j].toNat : Int)) := by simp [Lib.byteCells, hjl]
  rw [e5] at hj; cases hj; rw [Lib.row_is_numeral hF j hjl, Lib.add_plain, World.cell?_drewN]; exact cell?_putRow (fun (b : UInt8) => Value.int .u8 (b.toNat : Int)) _ w.heap.size 0 _ dk HH0.out (by rw [hF.size, Array.size_replicate]) j (by rw [hF.size]; rw [Lib.decDigits_length] at hjl; exact hjl)
 obtain ⟨os, eo⟩ := Lib.fin_at w (.cells Lib.zeros24 127) dk k 0; have hnx2 : Below w.heap.size w ((putRow (fun (b : UInt8) => Value.int .u8 (b.toNat : Int)) (w.alloc (.cells Lib.zeros24 127)) w.heap.size 0 dk).drewN k) := by rw [eo]; exact Lib.below_grow w.heap.size w (Nat.le_refl _) k os
 have hsz2 := hnx2.size; generalize (putRow (fun (b : UInt8) => Value.int .u8 (b.toNat : Int)) (w.alloc (.cells Lib.zeros24 127)) w.heap.size 0 dk).drewN k = W2 at hcells hnx2 hsz2 ⊢; clear eo HH0 hfmt; have hk2 : KS .u8 W2 A l := HK.out.then_ hnx2; have hdl : (Lib.decDigits u).length = Lib.nDigits u := Lib.decDigits_length u; have HD := hide hdl; have HC := hide hcells; have HN := hide hnx2; have HK2 := hide hk2; clear hcells hnx2 hk2 hdl HK
 go_wp2_with (at_builtin; refine wpList_append_src_grows _ rfl _ _ 102 102 rfl 5 i0 _ 1 1 Tryd.underlying102 hi hz0 hz1 hz2 rfl A n n rfl (l.map (Value.int .u8)) (by simp [hl]) HK2.out (.slice (some ⟨w.heap.size, 0, none⟩) (Lib.nDigits u) 24) _ _ rfl (srcBytes HD.out HC.out) (by have := HD.out; have := HP.out; omega) ?_ ?_ ?_)
 ·simp only [maxLen]; omega
 ·omega
 intro v2 w3 hown' hgrow
 go_wp2
 go_ret
 refine ⟨v2, rfl, ?_, HN.out.trans ((Below.of_grown hgrow).mono HN.out.size)⟩; have hown2 : OwnK .u8 5 w3 W2.heap.size v2 (l ++ decL u) := OwnK.app hown' (by have := HD.out; simp only [List.length_append, decL, List.length_map]; omega) (by rw [byteCells_dec]); refine ⟨hown2.1, ?_⟩; rcases hown2.2 with h1 | ⟨g, cap, cur, h1, h2, h3⟩
 ·exact .inl h1
 ·exact .inr ⟨g, cap, cur, h1, by omega, h3⟩
theorem au (u : Nat) (hu64 : u < 18446744073709551616) (A : Option Addr) (n : Nat) (l : List Int) (w : World) (hl : l.length = n) (hn : n ≤ 100000) (h : KS .u8 w A l)
  (htab : Lib.TabIs Tryd.prog w "internal/strconv.uint64pow10" .u64 Lib.pow10Tab) :
  Calls Tryd.prog 105 #[.slice A n n, .int .u64 u, .int .i64 10] w fun e w' => ∃ v, e = .returned v ∧ OwnK .u8 5 w' w.heap.size v (l ++ decL u) ∧ Below w.heap.size w w' := by
 rcases Nat.lt_or_ge u 100 with hu | hu
 ·exact auS u hu A n l w hl hn h
 ·exact auB u hu hu64 A n l w hl hn h htab
theorem numL_pos {z : Int} (h : 0 ≤ z) : numL z = decL z.toNat := by unfold numL decL Lib.itoa; rw [if_neg (by omega)]
theorem numL_neg {z : Int} (h : z < 0) : numL z = [45] ++ decL z.natAbs := by unfold numL decL Lib.itoa; rw [if_pos h]; rfl
set_option maxRecDepth 100000 in
set_option maxHeartbeats 4000000 in
theorem aiF (z : Int) (h0 : -9223372036854775808 ≤ z) (h1 : z ≤ 9223372036854775807) (A : Option Addr) (n : Nat) (l : List Int) (w : World) (hl : l.length = n) (hn : n ≤ 100000) (h : KS .u8 w A l) (htab : Lib.TabBelow Tryd.prog w.heap.size w "internal/strconv.uint64pow10" .u64 Lib.pow10Tab) :
  Calls Tryd.prog 104 #[.slice A n n, .int .i64 z, .int .i64 10] w fun e w' => ∃ v, e = .returned v ∧ OwnK .u8 5 w' w.heap.size v (l ++ numL z) ∧ Below w.heap.size w w' := by
 obtain ⟨i0, hi, hz0, hz1, hz2⟩ := info_parts infoB; rcases Int.lt_or_le z 0 with hs | hs
 ·have q1 : decide (z < 0) = true := decide_eq_true hs; have hw1 : IntKind.u64.wrap (-IntKind.u64.wrap z) = ((z.natAbs : Nat) : Int) := by simp only [IntKind.wrap_u64]; omega
  have hw2 : IntKind.u64.wrap (0 - IntKind.u64.wrap z) = ((z.natAbs : Nat) : Int) := by simp only [IntKind.wrap_u64]; omega
  have HN := hide (numL_neg hs); have HT := hide htab; have hu : z.natAbs < 18446744073709551616 := by omega
  have hd := dec_len hu; have HD := hide hd; clear hs htab hd
  go_enter Tryd.func104, Tryd.ntmps104
  go_wp2_with (first
   | (at_builtin; refine wpList_append_src_grows _ rfl _ _ 102 102 rfl 5 i0 _ 1 1 Tryd.underlying102 hi hz0 hz1 hz2 rfl A n n rfl (l.map (Value.int .u8)) (by simp [hl]) (KS.alloc h _) (.slice (some ⟨w.heap.size, 0, none⟩) 1 1) 1 [.int .u8 45] rfl (Src.ofSlice _ Tryd.underlying102 ⟨w.heap.size, 0, none⟩ 1 1 _ rfl (fun j u hj => by match j, hj with | 0, hj => simp at hj; subst hj; exact (Blk.new w 5 #[.int .u8 45]).cell 0) (by simp [Value.oneCell'])) (by omega) ?_ ?_ ?_))
  ·simp only [maxLen]; omega
  ·omega
  intro v' w2 hown hgrow; have hsz : w.heap.size + 1 ≤ w2.heap.size := by have := hgrow.size; simpa using this
  have hb2 : Below w.heap.size w w2 := ((Below.refl w.heap.size w).alloc (Nat.le_refl _) _).trans ((Below.of_grown hgrow).mono (by simp)); have hown' : w2.ownsRow w.heap.size 5 1 v' (l ++ [45]).length ((l ++ [45]).map (Value.int .u8)) := by
   have h2 : OwnK .u8 5 w2 (w.heap.size + 1) v' (l ++ [45]) := OwnK.app (by simpa using hown) (by simp [hl]) rfl; refine ⟨h2.1, ?_⟩; rcases h2.2 with h3 | ⟨g, cap, cur, h3, h4, h5⟩
   ·exact .inl h3
   ·exact .inr ⟨g, cap, cur, h3, by omega, h5⟩
  have HO := hide hown'; have HB := hide hb2; clear hown hgrow hown' hb2
  go_wp2_with (go_at_call 105; refine (Tryd.internal_strconv_AppendUint_10 w.heap.size _ z.natAbs hu v' _ _ HO.out (by omega) (by simp only [List.length_append, List.length_cons, List.length_nil]; omega) (HT.out.on HB.out).here).mono ?_; rintro e w3 ⟨v3, rfl, ho3, hb3, _⟩; have HO3 := hide ho3; have HB3 := hide (HB.out.trans hb3); clear ho3 hb3)
  go_ret
  refine ⟨v3, rfl, ?_, HB3.out⟩; rw [HN.out, ← List.append_assoc]; exact OwnK.app HO3.out (by have := HD.out; simp only [List.length_append, decL, List.length_map]) (by rw [byteCells_dec])
 ·have q1 : decide (z < 0) = false := decide_eq_false (by omega); obtain ⟨u, rfl⟩ : ∃ u : Nat, z = u := ⟨z.toNat, by omega⟩; have hw1 : IntKind.u64.wrap (u : Int) = u := by simp only [IntKind.wrap_u64]; omega
  have HN := hide (numL_pos hs); have R := hide (au u (by omega) A n l w hl hn h htab.here); clear hs htab h
  go_enter Tryd.func104, Tryd.ntmps104
  go_wp2_with (go_at_call 105; refine R.out.mono ?_; rintro e w3 ⟨v3, rfl, ho3, hb3⟩; have HO3 := hide ho3; have HB3 := hide hb3; clear ho3 hb3)
  go_ret
  refine ⟨v3, rfl, ?_, HB3.out⟩; rw [HN.out]; exact HO3.out
theorem aiP (z : Int) (h0 : -9223372036854775808 ≤ z) (h1 : z ≤ 9223372036854775807) (A : Option Addr) (n : Nat) (l : List Int) (w : World) (hl : l.length = n) (hn : n ≤ 100000) (h : KS .u8 w A l) (htab : Lib.TabBelow Tryd.prog w.heap.size w "internal/strconv.uint64pow10" .u64 Lib.pow10Tab) :
  Calls Tryd.prog 103 #[.slice A n n, .int .i64 z, .int .i64 10] w fun e w' => ∃ v, e = .returned v ∧ OwnK .u8 5 w' w.heap.size v (l ++ numL z) ∧ Below w.heap.size w w' := by
 have R := hide (aiF z h0 h1 A n l w hl hn h htab); clear h htab
 go_enter Tryd.func103, Tryd.ntmps103
 go_wp2_with (go_at_call 104; refine R.out.mono ?_; rintro e w3 ⟨v3, rfl, ho3, hb3⟩; have HO3 := hide ho3; have HB3 := hide hb3; clear ho3 hb3)
 go_ret
 exact ⟨v3, rfl, HO3.out, HB3.out⟩
set_option maxRecDepth 100000 in
set_option maxHeartbeats 4000000 in
theorem text_f (A : Option Addr) (n : Nat) (l zs : List Int) (B : Option Addr) (d : Nat) (w0 w : World) (hT : Tb w0) (hb0 : Below w0.heap.size w0 w) (hl : l.length = n) (hn : n ≤ 10000) (h : KS .u8 w A l)
  (hz : ∀ W, Below w.heap.size w W → KS .i64 W B zs) (hi : inI zs) (hzl : zs.length ≤ 10000) (hz1 : 1 ≤ zs.length) :
  Calls Tryd.prog 97 #[.slice A n n, .slice B zs.length d] w fun e w' => ∃ v', e = .returned v' ∧ OwnK .u8 5 w' w.heap.size v' (l ++ textL zs) ∧ Below w.heap.size w w' := by
 obtain ⟨i0, hi0, hz0, hz1', hz2⟩ := info_parts infoB; have HT := hide hT; have HB0 := hide hb0; have HK := hide h; have HZ := hide hz; have HI := hide hi; have hlen := textL_len hi; have HLEN := hide hlen; have hsz0 := hb0.size; clear hT hb0 h hz hi hlen
 go_enter Tryd.func97, Tryd.ntmps97
 go_wp2
 go_loopw [0, 6, 9] (fun u0 _ i wr => ∃ k : Nat, k ≤ zs.length ∧ i = .int .i64 k ∧ ((k = 0 ∧ u0 = .slice A n n ∧ wr = w) ∨ (1 ≤ k ∧ OwnK .u8 5 wr w.heap.size u0 (l ++ textL (zs.take k)) ∧ Below w.heap.size w wr))) (fun _ _ i _ => zs.length - (intOf i).toNat)
 case atStart => exact ⟨0, Nat.zero_le _, rfl, .inl ⟨rfl, rfl, rfl⟩⟩
 case round =>
  obtain ⟨k, hk, rfl, hrel⟩ := hrel
  by_cases hlt : k < zs.length
  ·have hbw : Below w.heap.size w wr := by rcases hrel with ⟨_, _, rfl⟩ | ⟨_, _, hb⟩; exact Below.refl _ _; exact hb
   obtain ⟨b, o, rfl, hbl, hc⟩ := (HZ.out wr hbw).at_ (i := k) hlt; have c0 := hc k hlt; have hr := HI.out zs[k] (List.getElem_mem hlt); have HC := hide hc; have hll := textL_len (l := zs.take k) (fun z hz => HI.out z (List.mem_of_mem_take hz)); have hll2 : (textL (zs.take k)).length ≤ 22 * zs.length := Nat.le_trans hll (Nat.mul_le_mul_left _ (by rw [List.length_take]; omega)); have hnl := numL_len hr.1 hr.2; have HB := hide hbw; have hsz := hbw.size; have HT2 := hide (HT.out.low ((HB0.out.trans (HB.out.mono hsz0))) hsz0); obtain ⟨z, hzk⟩ : ∃ z, z = zs[k] := ⟨_, rfl⟩; rw [← hzk] at c0 hr hnl; have HSN := hide (show l ++ textL (zs.take (k + 1)) = l ++ textL (zs.take k) ++ numL z ++ [32] by rw [textL_take hlt, ← hzk]; simp only [List.append_assoc]); have hr1 := hr.1; have hr2 := hr.2; have AI : Hid (Calls Tryd.prog 103 #[u0, .int .i64 z, .int .i64 10] wr fun e w' => ∃ v, e = .returned v ∧ OwnK .u8 5 w' w.heap.size v (l ++ textL (zs.take k) ++ numL z) ∧ Below w.heap.size wr w') := by
    rcases hrel with ⟨rfl, rfl, rfl⟩ | ⟨_, ho, _⟩
    ·have := aiP z hr1 hr2 A n l wr hl (by omega) HK.out HT2.out; exact hide (by simpa [textL] using this)
    ·refine hide ((Tryd.strconv_AppendInt_10 w.heap.size _ z hr1 hr2 u0 _ _ ho (by omega) (by simp only [List.length_append]; omega) HT2.out).mono ?_); rintro e w2 ⟨v2, rfl, ho2, hb2, _⟩; refine ⟨v2, rfl, OwnK.app ho2 ?_ ?_, hb2⟩
     ·simp only [List.length_append, numL, List.length_map]
     ·rw [byteCells_num]
   clear hc hzk hll hrel hr hbw
   go_wp2_with (first
    | (go_at_call 103; refine AI.out.mono ?_; rintro e w2 ⟨v2, rfl, ho2, hb2⟩; have HO2 := hide ho2; have HB2 := hide (HB.out.trans hb2); have hs2 := hb2.size; clear ho2 hb2)
    | (at_builtin; refine wpList_append_rd _ rfl _ _ 102 rfl w.heap.size 5 i0 _ 1 1 Tryd.underlying102 hi0 hz0 hz1' hz2 rfl (by decide) _ _ _ rfl (own_keep HO2.out (fun g hg => Below.heap_alloc _ _ g (own_lt HO2.out hg).2)) (some ⟨w2.heap.size, 0, none⟩) 1 1 [.int .u8 32] rfl rfl (Rd.new_row _ _ _) (by simp [Value.oneCell']) ?_ ?_ ?_ ?_))
   ·simp only [maxLen, List.length_append]; omega
   ·simp only [List.length_append]; omega
   ·simp; omega
   intro v' w6 hown' hgrow _; have b6 : Below w.heap.size w w6 := (HB2.out.alloc (by omega) _).grown hgrow (by simp; omega) (fun g hg => (own_lt HO2.out hg).1); have hown2 : OwnK .u8 5 w6 w.heap.size v' (l ++ textL (zs.take (k + 1))) := by
    rw [HSN.out]; exact OwnK.app (l' := [32]) hown' (by simp only [List.length_append, List.length_cons, List.length_nil]; omega) (by simp)
   have HO6 := hide hown2; have HB6 := hide b6; clear hown' hgrow hown2 b6
   go_wp2
   go_roundw
   case rel => exact ⟨k + 1, by omega, by go_num, .inr ⟨by omega, HO6.out, HB6.out⟩⟩
   case measure => simp [intOf]; omega
  ·obtain rfl : k = zs.length := by omega
   obtain ⟨ho, hb⟩ : OwnK .u8 5 wr w.heap.size u0 (l ++ textL zs) ∧ Below w.heap.size w wr := by
    rcases hrel with ⟨h0, _⟩ | ⟨_, ho, hb⟩
    ·omega
    ·rw [List.take_length] at ho; exact ⟨ho, hb⟩
   have HO6 := hide ho; have HB := hide hb; clear hrel ho hb
   go_wp2
   go_ret
   exact ⟨u0, rfl, HO6.out, HB.out⟩
end Go.Proofs.YtmfjcachghboiaaDoor
namespace Go.Proofs.YtmfjcachghboiaaDoor
open Go.RowKit
theorem blk_row {w w' : World} {g r : Nat} {t : TypeId} {cs : Array Value} (h : Blk w g t cs) (hg : w.grownBy w' (some r)) (hne : g ≠ r) : Blk w' g t cs := (hg.block g h.lt (fun e => hne (by injection e))).trans h
abbrev pairC0 : Array Value := #[.int .u8 1, .int .u8 0, .int .u8 0, .int .u8 0, .int .u8 0, .int .u8 0, .int .u8 0, .int .u8 0, .int .u8 0, .int .u8 0, .int .u8 0, .int .u8 0, .int .u8 0, .int .u8 0, .int .u8 0, .int .u8 0, .int .u8 0]
abbrev octA (n : Int) : Array Value := #[.int .u8 (oct n 0), .int .u8 (oct n 1), .int .u8 (oct n 2), .int .u8 (oct n 3), .int .u8 (oct n 4), .int .u8 (oct n 5), .int .u8 (oct n 6), .int .u8 (oct n 7)]
theorem octets_lit (n : Int) (w : World) : Calls Tryd.prog 94 #[.int .u64 n] w fun e w' => e = .returned (.agg (octA n)) ∧ Below w.heap.size w w' := octets_any n w
set_option maxHeartbeats 2000000 in
theorem pair_any (a b : Int) (w : World) : Calls Tryd.prog 71 #[.int .u64 a, .int .u64 b] w fun e w' => e = .returned (.int .u64 (pairF a b)) ∧ Below w.heap.size w w' := by
 have B1 := hide ((Below.refl w.heap.size w).alloc (Nat.le_refl _) (.cells pairC0 116)); have Q5 := hide (Blk.new w 116 pairC0); have HS := hide fun A c l W hn s => sum_any A c l W hn s
 obtain ⟨i0, hi, hz0, hz1, hz2⟩ := info_parts infoB; have hsz : (Tryd.prog.info? 5).map (·.size) = some 1 := by rw [hi]; simp [hz1]
 go_enter Tryd.func71, Tryd.ntmps71
 go_upto_region 3 with (first
  | (go_at_call 94; with_reducible refine (octets_lit a _).mono ?_; rintro e w2 ⟨rfl, hb2⟩; have B2 := hide (B1.out.trans (hb2.mono B1.out.size)); have Q5 := hide (Q5.out.below hb2 Q5.out.lt); clear hb2 B1)
  | (go_at_call 94; with_reducible refine (octets_lit b _).mono ?_; rintro e w3 ⟨rfl, hb3⟩; have B3 := hide (B2.out.trans (hb3.mono B2.out.size)); have Q5 := hide (Q5.out.below hb3 Q5.out.lt); clear hb3 B2))
 have hlt := Q5.out.lt; have P5 := hide ((Q5.out.alloc (.cells (octA a) 117)).alloc (.cells (octA b) 117)); have P6 := hide ((Blk.new w3 117 (octA a)).alloc (.cells (octA b) 117)); have P7 := hide (Blk.new (w3.alloc (.cells (octA a) 117)) 117 (octA b)); rw [World.size_alloc] at P7; have hs3 := B3.out.size; have BW := hide ((B3.out.alloc hs3 (.cells (octA a) 117)).alloc (by simp; omega) (.cells (octA b) 117)); obtain ⟨W, hW⟩ : ∃ W, (w3.alloc (.cells (octA a) 117)).alloc (.cells (octA b) 117) = W := ⟨_, rfl⟩; rw [hW] at P5 P6 P7 BW ⊢; clear hW; have hone : ∀ (n : Int), ∀ v ∈ (octA n).toList, v.oneCell' = true := fun n v hv => by simp at hv; rcases hv with rfl | rfl | rfl | rfl | rfl | rfl | rfl | rfl <;> rfl
 have HN := hide hone; clear hone
 go_region_law ((refine step_copyN rfl _ _ 102 102 rfl 5 1 Tryd.underlying102 hsz (some ⟨w.heap.size, 1, none⟩) (some ⟨w3.heap.size, 0, none⟩) 16 16 8 8 (by rfl) (by rfl) w.heap.size 1 pairC0 116 P5.out.drew (octA a).toList rfl (fun _ => rfl) (Rd.of_blk P6.out.drew) (by simp) (HN.out a) ?_; intro w4 hb4 hg4 hs4))
 have P7 := hide (blk_row P7.out.drew hg4 (by omega)); have P5 := hide hb4; have BW := hide (BW.out.drew.grown hg4 (by have := BW.out.size; exact this) (fun k e => by injection e with e; omega)); clear hb4 hg4
 go_upto_region 4 with fail
 go_region_law ((refine step_copyN rfl _ _ 102 102 rfl 5 1 Tryd.underlying102 hsz (some ⟨w.heap.size, 9, none⟩) (some ⟨w3.heap.size + 1, 0, none⟩) 8 8 8 8 (by rfl) (by rfl) w.heap.size 9 _ 116 P5.out.drew (octA b).toList rfl (fun _ => rfl) (Rd.of_blk P7.out.drew) (by simp [splice]) (HN.out b) ?_; intro w5 hb5 hg5 hs5))
 have K5 := hide (show KS .u8 w5 (some ⟨w.heap.size, 0, none⟩) ([1] ++ octL a ++ octL b) from Rd.of_blk hb5); have BW := hide (BW.out.drew.grown hg5 (by have := BW.out.size; exact this) (fun k e => by injection e with e; omega)); clear hb5 hg5
 go_wp2_with (go_at_call 95; refine (HS.out (some ⟨w.heap.size, 0, none⟩) 17 ([1] ++ octL a ++ octL b) _ (by simp [octL]) K5.out).mono ?_; rintro e w6 ⟨rfl, rfl⟩)
 go_ret
 exact ⟨rfl, BW.out⟩
end Go.Proofs.YtmfjcachghboiaaDoor
