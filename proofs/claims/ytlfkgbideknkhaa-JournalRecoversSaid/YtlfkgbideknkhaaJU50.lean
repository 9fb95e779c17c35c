/-
  Texts joined: Base, Vc, Fn, Vx, Tb, Vz, Vy, Vw, Vq, Vu, Vm, Vk.
-/
import Derived.WalkKit
import Derived.WalkSpells
import Derived.WalkLawsBesides
import Derived.Deep.QuietTactic
import Derived.BigQuiet
import Derived.Deep.RegionHeld3
import Derived.Deep.DeepCutAuto
import Derived.Maps.AppendAt
import Derived.RegionTactic
import Derived.OwnWalk
import Derived.Laws.Concat
import Derived.Test.YtlfkgbideknkhaaProg
import Derived.Sort.OwnSortedInts
import Derived.Shelf.Slices.CompactI
import Derived.Maps.Keyed
import Derived.Scope
set_option linter.unusedSimpArgs false
set_option linter.unusedVariables false
namespace Go.Proofs.Ytlfkgbideknkhaa
open Go.RowKit
theorem hide {p : Prop} (h : p) : Hid p := h
structure Fut (B : Nat) (w : World) where
 v : World
 h : Below B w v
instance (B : Nat) (w : World) : Inhabited (Fut B w) := ⟨⟨w, Below.refl B w⟩⟩
theorem wp_region_fut {P : Program} {id : Nat} {Q : Exit → Act → World → Prop} {a : Act} {w : World} {l : List Oper} (B : Nat) (hm : P.follows .mixedOrders = true) (hB : Region.lexB .any l.toArray = true)
  (h : wpQuiet P l.toArray (fun w' => ∃ x : Fut B w, w' = x.v) (fun a' => ∀ w', (∃ x : Fut B w, w' = x.v) → Q .normal a' w') l a) : (Code.region id l.toArray true).wp P Q a w :=
 wp_region_quiet (C := fun w' => ∃ x : Fut B w, w' = x.v) hm hB ⟨⟨_, (Below.refl B w).drew⟩, rfl⟩ (by simpa using h)
theorem Fut.call {P : Program} {f : FuncId} {args : Array Value} {B : Nat} {w : World} {x : Fut B w} {v : Value} (hB : B ≤ w.heap.size)
  (h : Calls P f args x.v fun e w' => e = .returned v ∧ Below x.v.heap.size x.v w') : Calls P f args x.v fun e w' => e = .returned v ∧ ∃ y : Fut B w, w' = y.v :=
 h.mono fun _ w' ⟨he, hb⟩ => ⟨he, ⟨w', x.h.trans (hb.mono (Nat.le_trans hB x.h.size))⟩, rfl⟩
theorem Fut.same {P : Program} {f : FuncId} {args : Array Value} {B : Nat} {w : World} {x : Fut B w} {v : Value}
  (h : Calls P f args x.v fun e w' => e = .returned v ∧ x.v = w') : Calls P f args x.v fun e w' => e = .returned v ∧ ∃ y : Fut B w, w' = y.v :=
 h.mono fun _ _ ⟨he, hb⟩ => ⟨he, x, hb.symm⟩
theorem Fut.cell {B : Nat} {w : World} (x : Fut B w) (b o : Nat) (h : b < B) : x.v.cell? ⟨b, o, none⟩ = w.cell? ⟨b, o, none⟩ := x.h.cell (p := ⟨b, o, none⟩) h
theorem cell_at (w : World) (cs : Array Value) (t : TypeId) (r i : Nat) (h : r = w.heap.size) : (w.alloc (.cells cs t)).cell? ⟨r, i, none⟩ = cs[i]? := by
 subst h; exact cell_of_row _ _ _ cs t (0, 0) (heap_alloc_new w _)
theorem cell_drew (w : World) (a : Addr) : w.drew.cell? a = w.cell? a := rfl
theorem Fut.of {B : Nat} {w w' : World} (h : ∃ x : Fut B w, w' = x.v) : Below B w w' := by
 obtain ⟨x, rfl⟩ := h; exact x.h
def Blk (w : World) (g : Nat) (t : TypeId) (cs : Array Value) : Prop := w.heap[g]? = some (.cells cs t (0, 0))
section
variable {w w' : World} {g : Nat} {t : TypeId} {cs : Array Value}
theorem Blk.lt (h : Blk w g t cs) : g < w.heap.size := by
 rcases Nat.lt_or_ge g w.heap.size with hlt | hge
 ·exact hlt
 ·unfold Blk at h; rw [Array.getElem?_eq_none hge] at h; cases h
theorem Blk.cell (h : Blk w g t cs) (i : Nat) : w.cell? ⟨g, i, none⟩ = cs[i]? := cell_of_row w g i cs t (0, 0) h
theorem Blk.frozen (h : Blk w g t cs) (i : Nat) : w.frozen? ⟨g, i, none⟩ = false := by
 unfold Blk at h
 simp [World.frozen?, h]
theorem Blk.new (w : World) (t : TypeId) (cs : Array Value) : Blk (w.alloc (.cells cs t)) w.heap.size t cs := heap_alloc_new w _
theorem Blk.drew (h : Blk w g t cs) : Blk w.drew g t cs := h
theorem Blk.alloc (h : Blk w g t cs) (o : Obj) : Blk (w.alloc o) g t cs := (Below.heap_alloc w o g h.lt).trans h
theorem Blk.set_ (h : Blk w g t cs) (i : Nat) (u : Value) : Blk (w.setCell ⟨g, i, none⟩ u) g t (cs.setIfInBounds i u) := by
 unfold Blk at h ⊢
 simp [World.setCell, Array.getElem?_modify, h]
theorem Blk.below {B : Nat} (h : Blk w g t cs) (hb : Below B w w') (hg : g < B) : Blk w' g t cs := (hb.block g hg).trans h
end
section
variable {P : Program} {fn : Func} {p u v : Tmp} {ty : TypeId}
end
def Rd (w : World) (A : Option Addr) (cs : List Value) : Prop :=
 cs ≠ [] → ∃ b o, A = some ⟨b, o, none⟩ ∧ b < w.heap.size ∧ ∀ j u, cs[j]? = some u → w.cell? ⟨b, o + j, none⟩ = some u
theorem Rd.nil (w : World) (A : Option Addr) : Rd w A [] := fun h => absurd rfl h
theorem Rd.below {w w' : World} {A : Option Addr} {cs : List Value} {B : Nat} (h : Rd w A cs) (hb : Below B w w') (hB : w.heap.size ≤ B) : Rd w' A cs := fun hn => by
 obtain ⟨b, o, rfl, hlt, hc⟩ := h hn; exact ⟨b, o, rfl, Nat.lt_of_lt_of_le hlt hb.size, fun j u hu => (hb.cell (p := ⟨b, o + j, none⟩) (by show b < B; omega)).trans (hc j u hu)⟩
theorem Rd.two {w : World} {b o : Nat} {x y : Value} (hb : b < w.heap.size) (h0 : w.cell? ⟨b, o, none⟩ = some x) (h1 : w.cell? ⟨b, o + 1, none⟩ = some y) : Rd w (some ⟨b, o, none⟩) [x, y] := fun _ =>
 ⟨b, o, rfl, hb, fun j u hu => by
  match j, hu with
  | 0, hu => simp at hu; subst hu; exact h0
  | 1, hu => simp at hu; subst hu; exact h1⟩
section
variable {P : Program} (w : World)
theorem run_append_nil2 (base : Nat) (t ty e : TypeId) (i : TypeInfo) (size : Nat) (ht : P.underlying t = some (.slice e)) (hi : P.info? e = some i)
  (v : Value) (n : Nat) (xs : List Value) (hown : w.ownsRow base e size v n xs) (A : Option Addr) (c : Nat) : (Builtin.append_ #[t, t] ty #[v, .slice A 0 c]).run P w = .ok v w := by
 rcases hown.2 with ⟨rfl, rfl⟩ | ⟨g, cap, cur, rfl, _, _, hnc, _⟩
 ·cases A <;> simp [Builtin.append_, run_underlying ht, sizeOf, typeInfo, hi, Builtin.lenOf, Builtin.firstCells, loadCells, loadCellsFrom]
 ·cases A <;> simp [Builtin.append_, run_underlying ht, sizeOf, typeInfo, hi, Builtin.lenOf, Builtin.firstCells, hnc, storeCells, loadCells, loadCellsFrom]
theorem run_append_rd (base : Nat) (t ty e : TypeId) (i : TypeInfo) (z : Value) (size bytes : Nat) (ht : P.underlying t = some (.slice e)) (hi : P.info? e = some i) (hz : i.zero = some z)
  (hsize : i.size = size) (hby : i.bytes = bytes) (hzs : z.cells.size = size) (hsz : 0 < size)
  (v : Value) (n : Nat) (xs : List Value) (hown : w.ownsRow base e size v n xs)
  (A : Option Addr) (m c : Nat) (news : List Value) (hl : news.length = m * size) (hr : Rd w A news) (h1 : ∀ u ∈ news, u.oneCell' = true)
  (h63 : n + m ≤ maxLen) (hbytes : (n + m) * bytes ≤ 140737488355328) (hbase : base ≤ w.heap.size) :
  ∃ v' w', (Builtin.append_ #[t, t] ty #[v, .slice A m c]).run P w = .ok v' w' ∧ w'.ownsRow base e size v' (n + m) (xs ++ news) ∧ w.grownBy w' v.ownBlock ∧
   (v'.ownBlock = v.ownBlock ∨ v'.ownBlock = some w.heap.size) := by
 rcases Nat.eq_zero_or_pos m with h0 | h0
 ·subst h0; have hn : news = [] := List.eq_nil_of_length_eq_zero (by simpa using hl); subst hn; exact ⟨v, w, run_append_nil2 w base t ty e i size ht hi v n xs hown A c, by simpa using hown, World.grownBy.refl w _, .inl rfl⟩
 ·have hne : news ≠ [] := by
   intro h; rw [h] at hl; have := Nat.mul_pos h0 hsz; simp only [List.length_nil] at hl; omega
  obtain ⟨b, o, rfl, _, hc⟩ := hr hne; have hcells : ∀ j u, news[j]? = some u → w.cell? ((⟨b, o, none⟩ : Addr).add j) = some u := fun j u hu => by
   have : (⟨b, o, none⟩ : Addr).add j = ⟨b, o + j, none⟩ := by unfold Addr.add; split <;> simp_all
   rw [this]; exact hc j u hu
  obtain ⟨v', w', hrun, h2, h3, _, h5⟩ := run_append_own_at (P := P) w base t ty e i z size bytes ht hi hz hsize hby hzs hsz v n xs hown ⟨b, o, none⟩ m c news hl hcells h1 h63 hbytes hbase; exact ⟨v', w', hrun, h2, h3, h5⟩
theorem wp_append_rd {o : Oper} {a : Act} {K : Act → World → Prop} {Q : Exit → Act → World → Prop} (s x : Operand) (t : TypeId)
  (ho : o.op = .call { callee := .builtin .append, args := #[s, x], argTypes := #[t, t] })
  (base : Nat) (e : TypeId) (i : TypeInfo) (z : Value) (size bytes : Nat) (ht : P.underlying t = some (.slice e)) (hi : P.info? e = some i) (hz : i.zero = some z)
  (hsize : i.size = size) (hby : i.bytes = bytes) (hzs : z.cells.size = size) (hsz : 0 < size)
  (v : Value) (n : Nat) (xs : List Value) (hs : a.eval s = v) (hown : w.ownsRow base e size v n xs)
  (A : Option Addr) (m c : Nat) (news : List Value) (hx : a.eval x = .slice A m c) (hl : news.length = m * size) (hr : Rd w A news) (h1 : ∀ u ∈ news, u.oneCell' = true)
  (h63 : n + m ≤ maxLen) (hbytes : (n + m) * bytes ≤ 140737488355328) (hbase : base ≤ w.heap.size)
  (h : ∀ v' w', w'.ownsRow base e size v' (n + m) (xs ++ news) → w.grownBy w' v.ownBlock → (v'.ownBlock = v.ownBlock ∨ v'.ownBlock = some w.heap.size) → K (a.put o.dst v') w') : o.wp P a w K Q := by
 obtain ⟨v', w', hrun, h2, h3, h4⟩ := run_append_rd (P := P) w base t o.type e i z size bytes ht hi hz hsize hby hzs hsz v n xs hown A m c news hl hr h1 h63 hbytes hbase; unfold Oper.wp execOp; simp only [ho, resolve, invoke, builtin, Sem.run_bind, Sem.run_pure, Result.andThen_ok, List.map_toArray, List.map_cons, List.map_nil, hs, hx, hrun]; exact h v' w' h2 h3 h4
theorem wpList_append_rd {ops : Array Oper} {rest : List Oper} {o : Oper} {a : Act} {Q : Exit → Act → World → Prop} (hgd : o.guard = none) (s x : Operand) (t : TypeId)
  (ho : o.op = .call { callee := .builtin .append, args := #[s, x], argTypes := #[t, t] })
  (base : Nat) (e : TypeId) (i : TypeInfo) (z : Value) (size bytes : Nat) (ht : P.underlying t = some (.slice e)) (hi : P.info? e = some i) (hz : i.zero = some z)
  (hsize : i.size = size) (hby : i.bytes = bytes) (hzs : z.cells.size = size) (hsz : 0 < size)
  (v : Value) (n : Nat) (xs : List Value) (hs : a.eval s = v) (hown : w.ownsRow base e size v n xs)
  (A : Option Addr) (m c : Nat) (news : List Value) (hx : a.eval x = .slice A m c) (hl : news.length = m * size) (hr : Rd w A news) (h1 : ∀ u ∈ news, u.oneCell' = true)
  (h63 : n + m ≤ maxLen) (hbytes : (n + m) * bytes ≤ 140737488355328) (hbase : base ≤ w.heap.size)
  (h : ∀ v' w', w'.ownsRow base e size v' (n + m) (xs ++ news) → w.grownBy w' v.ownBlock → (v'.ownBlock = v.ownBlock ∨ v'.ownBlock = some w.heap.size) → wpList P ops Q rest (a.put o.dst v') w') : wpList P ops Q (o :: rest) a w :=
 wpList_plain hgd fun _ hK => wp_append_rd w s x t ho base e i z size bytes ht hi hz hsize hby hzs hsz v n xs hs hown A m c news hx hl hr h1 h63 hbytes hbase fun v' w' h2 h3 h4 => hK _ _ (h v' w' h2 h3 h4)
end
theorem Rd.of_own {w : World} {base : Nat} {e : TypeId} {size n c : Nat} {A : Option Addr} {xs : List Value} (h : w.ownsRow base e size (.slice A n c) n xs) : Rd w A xs := fun hne => by
 rcases h.2 with ⟨hv, h0⟩ | ⟨g, cap, cur, hv, _, hh, _⟩
 ·exact absurd (List.eq_nil_of_length_eq_zero (by rw [h.1, h0, Nat.zero_mul])) hne
 ·injection hv with hA _ _
  subst hA; refine ⟨g, 0, rfl, (Array.getElem?_eq_some_iff.1 hh).1, fun j u hu => ?_⟩; have := h.cells (g := g) rfl j u hu; have e : (⟨g, 0, none⟩ : Addr).add j = ⟨g, 0 + j, none⟩ := by unfold Addr.add; split <;> simp_all
  rw [e] at this; exact this
theorem Rd.pre {w : World} {A : Option Addr} {xs ys : List Value} (h : Rd w A (xs ++ ys)) : Rd w A xs := fun hne => by
 obtain ⟨b, o, rfl, hb, hc⟩ := h (by simp [hne]); exact ⟨b, o, rfl, hb, fun j u hu => hc j u (by rw [List.getElem?_append_left (List.getElem?_eq_some_iff.1 hu).1]; exact hu)⟩
theorem Rd.take {w : World} {A : Option Addr} {xs ys : List Value} (h : Rd w A ys) (hx : ∃ zs, ys = xs ++ zs) : Rd w A xs := by
 obtain ⟨zs, rfl⟩ := hx; exact h.pre
theorem Rd.shift {w : World} {b o : Nat} {xs ys : List Value} (h : Rd w (some ⟨b, o, none⟩) (xs ++ ys)) : Rd w (some ⟨b, o + xs.length, none⟩) ys := fun hne => by
 obtain ⟨b', o', e, hb, hc⟩ := h (by simp [hne])
 injection e with e; injection e with e1 e2; subst e1; subst e2
 refine ⟨b, o + xs.length, rfl, hb, fun j u hu => ?_⟩; have := hc (xs.length + j) u (by rw [List.getElem?_append_right (by omega), Nat.add_sub_cancel_left]; exact hu); rw [Nat.add_assoc]; exact this
theorem take_flat {α : Type} (f : α → List Value) (l : List α) (i : Nat) : ∃ zs, l.flatMap f = (l.take i).flatMap f ++ zs := ⟨(l.drop i).flatMap f, by rw [← List.flatMap_append, List.take_append_drop]⟩
theorem Below.of_grown {w w' : World} {row : Option Nat} (hg : w.grownBy w' row) (hr : ∀ k, row = some k → w.heap.size ≤ k := by intro k hk; cases hk) : Below w.heap.size w w' := (Below.refl _ _).grown hg (Nat.le_refl _) hr
theorem own_form {w : World} {base : Nat} {e : TypeId} {size n : Nat} {v : Value} {xs : List Value} (h : w.ownsRow base e size v n xs) : ∃ A c, v = .slice A n c ∧ n ≤ c ∧ c ≤ maxLen ∧ Rd w A xs := by
 rcases h.2 with ⟨hv, h0⟩ | ⟨g, cap, cur, hv, _, _, hnc, hcm, _⟩
 ·subst h0; subst hv; exact ⟨none, 0, rfl, Nat.le_refl _, by simp [maxLen], Rd.of_own h⟩
 ·subst hv; exact ⟨_, cap, rfl, hnc, hcm, Rd.of_own h⟩
theorem Rd.of_blk {w : World} {g : Nat} {t : TypeId} {cs : Array Value} (h : Blk w g t cs) : Rd w (some ⟨g, 0, none⟩) cs.toList := fun _ =>
 ⟨g, 0, rfl, h.lt, fun j u hu => by rw [h.cell]; simpa using hu⟩
end Go.Proofs.Ytlfkgbideknkhaa
namespace Go.Proofs.Ytlfkgbideknkhaa
open Go.RowKit
def sx {α : Type} (P : Program) : Sem α → List Value → Option (α × List (Addr × Value))
 | .pure a, [] => some (a, [])
 | .load _ a k, v :: vs => (sx P (k v) vs).map fun r => (r.1, (a, v) :: r.2)
 | .program k, vs => sx P (k P) vs
 | .mark _ k, vs => sx P k vs
 | _, _ => none
def Obs (w : World) : List (Addr × Value) → Prop
 | [] => True
 | p :: l => w.cell? p.1 = some p.2 ∧ Obs w l
theorem sx_run {α : Type} {P : Program} {w : World} : ∀ (s : Sem α) {vs : List Value} {r : α} {obs : List (Addr × Value)}, sx P s vs = some (r, obs) → Obs w obs → s.run P w = .ok r w := by
 intro s
 induction s with
 | pure a =>
  intro vs r obs h _; cases vs with
  | nil => simp only [sx, Option.some.injEq, Prod.mk.injEq] at h; simp [Sem.run, h.1]
  | cons _ _ => simp [sx] at h
 | load m a k ih =>
  intro vs r obs h ho; cases vs with
  | nil => simp [sx] at h
  | cons v vs =>
   simp only [sx, Option.map_eq_some_iff] at h; obtain ⟨⟨r', obs'⟩, h1, h2⟩ := h; simp only [Prod.mk.injEq] at h2; obtain ⟨rfl, rfl⟩ := h2; simp only [Sem.run, ho.1]; exact ih v h1 ho.2
 | program k ih =>
  intro vs r obs h ho; simp only [sx] at h; simp only [Sem.run]; exact ih P h ho
 | mark m k ih =>
  intro vs r obs h ho; simp only [sx] at h; simp only [Sem.run]; exact ih h ho
 | _ => intro vs r obs h _; cases vs <;> simp [sx] at h
def sn {α : Type} (P : Program) (g : Nat) : Sem α → Option (α × Obj)
 | .new o k => (sx P (k g) []).map fun r => (r.1, o)
 | .program k => sn P g (k P)
 | .mark _ k => sn P g k
 | _ => none
theorem sn_run {α : Type} {P : Program} {w : World} : ∀ (s : Sem α) {r : α} {o : Obj}, sn P w.heap.size s = some (r, o) → s.run P w = .ok r (w.alloc o) := by
 intro s
 induction s with
 | new o k =>
  intro r o' h; simp only [sn, Option.map_eq_some_iff] at h; obtain ⟨⟨r', obs⟩, h1, h2⟩ := h; simp only [Prod.mk.injEq] at h2; obtain ⟨rfl, rfl⟩ := h2; have e : obs = [] := by
   have : ∀ {β : Type} (s : Sem β) {r : β} {obs : List (Addr × Value)}, sx P s [] = some (r, obs) → obs = [] := by
    intro β s
    induction s with
    | pure a => intro r obs h; simp only [sx, Option.some.injEq, Prod.mk.injEq] at h; exact h.2.symm
    | program k ih => intro r obs h; simp only [sx] at h; exact ih P h
    | mark m k ih => intro r obs h; simp only [sx] at h; exact ih h
    | _ => intro r obs h; simp [sx] at h
   exact this _ h1
  subst e; simp only [Sem.run]; exact sx_run (w := w.alloc o) (k w.heap.size) h1 trivial
 | program k ih => intro r o h; simp only [sn] at h; simp only [Sem.run]; exact ih P h
 | mark m k ih => intro r o h; simp only [sn] at h; simp only [Sem.run]; exact ih h
 | _ => intro r o h; simp [sn] at h
def ss {α : Type} (P : Program) : Sem α → Option (α × List (Addr × Value))
 | .pure a => some (a, [])
 | .store _ a v k => match v.oneCell' with
  | true => (ss P k).map fun r => (r.1, (a, v) :: r.2)
  | false => none
 | .program k => ss P (k P)
 | .mark _ k => ss P k
 | _ => none
def stsW (w : World) (l : List (Addr × Value)) : World := l.foldl (fun w p => w.setCell p.1 p.2) w
theorem run_store1 {α : Type} {P : Program} {w : World} {m : Mode} {a : Addr} {v c : Value} {k : Sem α} (hv : v.oneCell' = true) (hc : w.cell? a = some c) (hf : w.frozen? a = false) : (Sem.store m a v k).run P w = k.run P (w.setCell a v) := by
 cases v <;> first | (simp [Value.oneCell'] at hv; done) | simp [Sem.run, hc, hf]
def sets (cs : Array Value) (l : List (Nat × Value)) : Array Value := l.foldl (fun cs p => cs.setIfInBounds p.1 p.2) cs
theorem ss_run {α : Type} {P : Program} {g : Nat} {t : TypeId} : ∀ (s : Sem α) {w : World} {cs : Array Value} {r : α} {l : List (Nat × Value)}, Blk w g t cs → ss P s = some (r, l.map fun p => (⟨g, p.1, none⟩, p.2)) → l.all (fun p => Nat.blt p.1 cs.size) = true →
  s.run P w = .ok r (stsW w (l.map fun p => (⟨g, p.1, none⟩, p.2))) ∧ Blk (stsW w (l.map fun p => (⟨g, p.1, none⟩, p.2))) g t (sets cs l) := by
 intro s
 induction s with
 | pure a =>
  intro w cs r l hb h _; simp only [ss, Option.some.injEq, Prod.mk.injEq] at h; obtain ⟨rfl, h2⟩ := h; have e : l = [] := by cases l with | nil => rfl | cons _ _ => simp at h2
  subst e; exact ⟨rfl, hb⟩
 | store m a v k ih =>
  intro w cs r l hb h hl; unfold ss at h; cases hv : v.oneCell' with
  | false => rw [hv] at h; simp at h
  | true =>
   rw [hv] at h; simp only [Option.map_eq_some_iff] at h; obtain ⟨⟨r', l'⟩, h1, h2⟩ := h; cases l with
   | nil => simp at h2
   | cons p l =>
    obtain ⟨i, u⟩ := p; simp only [List.map_cons, Prod.mk.injEq, List.cons.injEq] at h2; obtain ⟨rfl, ⟨rfl, rfl⟩, rfl⟩ := h2; simp only [List.all_cons, Bool.and_eq_true] at hl; have hi : i < cs.size := by have := hl.1; rwa [Nat.blt_eq] at this
    have hc : w.cell? ⟨g, i, none⟩ = some cs[i] := by rw [hb.cell, Array.getElem?_eq_getElem hi]
    have hb' : Blk (w.setCell ⟨g, i, none⟩ v) g t (cs.setIfInBounds i v) := hb.set_ i v; have := ih hb' h1 (by
     rw [List.all_eq_true] at hl ⊢; intro q hq; have := hl.2 q hq
     simpa using this)
    rw [run_store1 hv hc (hb.frozen i)]; exact this
 | program k ih => intro w cs r l hb h hl; simp only [ss] at h; simp only [Sem.run]; exact ih P hb h hl
 | mark m k ih => intro w cs r l hb h hl; simp only [ss] at h; simp only [Sem.run]; exact ih hb h hl
 | _ => intro w cs r l _ h _; simp [ss] at h
theorem stsW_other {g : Nat} : ∀ (l : List (Nat × Value)) {w : World}, (stsW w (l.map fun p => (⟨g, p.1, none⟩, p.2))).heap.size = w.heap.size ∧ (∀ k, k ≠ g → (stsW w (l.map fun p => (⟨g, p.1, none⟩, p.2))).heap[k]? = w.heap[k]?) ∧ Below g w (stsW w (l.map fun p => (⟨g, p.1, none⟩, p.2)))
 | [], w => ⟨rfl, fun _ _ => rfl, Below.refl _ _⟩
 | p :: l, w' => by
  have h := stsW_other (g := g) l (w := w'.setCell ⟨g, p.1, none⟩ p.2); refine ⟨h.1.trans (by simp [World.setCell]), fun k hk => (h.2.1 k hk).trans (Below.heap_setCell _ _ _ _ hk), ((Below.refl _ _).setCell (p := ⟨g, p.1, none⟩) (Nat.le_refl _) _).trans h.2.2⟩
def look : List (Nat × Value) → Nat → Option Value
 | [], _ => none
 | p :: l, j => match Nat.beq p.1 j with
  | true => some p.2
  | false => look l j
def rho (K : List (Nat × Value)) (J : Nat → Value) : Operand → Value
 | .tmp t => match look K t with
  | some v => v
  | none => J t
 | .const v => v
 | .global g => .pointer (some ⟨g, 0, none⟩)
 | .func f => .func (.func f) #[] #[]
class DSc where
 ds : List Deferred
instance DS0 : DSc := ⟨[]⟩
structure Kn [DSc] (n : Nat) (K : List (Nat × Value)) (a : Act) : Prop where
 d : a.defers = DSc.ds
 s : a.tmps.size = n
 k : ∀ i v, look K i = some v → a.tmps[i]? = some v
section
variable {n : Nat} {K K' : List (Nat × Value)} {a : Act} {P : Program} {w w0 : World} {ops : Array Oper} {Q : Exit → Act → World → Prop} {o : Oper} {rest : List Oper} {d : Nat} {v v' : Value}
theorem Kn.slot [DSc] (h : Kn n K a) : (fun t => a.tmps.getD t undef) = fun t => rho K (fun t => a.tmps.getD t undef) (.tmp t) := by
 funext t
 show _ = match look K t with
  | some v => v
  | none => a.tmps.getD t undef
 cases hl : look K t with
 | none => rfl
 | some v => have := h.k t v hl; simp [Array.getD_eq_getD_getElem?, this]
theorem Kn.eval [DSc] (h : Kn n K a) : a.eval = rho K (fun t => a.tmps.getD t undef) := by
 funext x
 cases x with
 | tmp t => exact congrFun h.slot t
 | _ => rfl
theorem Kn.put [DSc] (h : Kn n K a) (hd : Nat.blt d n = true) (v : Value) : Kn n ((d, v) :: K) (a.put (some d) v) := by
 have hd' : d < n := by rwa [Nat.blt_eq] at hd
 refine ⟨h.d, by simpa [Act.put] using h.s, fun i u hu => ?_⟩; unfold look at hu; simp only [Act.put]; cases hb : Nat.beq d i with
 | true =>
  rw [hb] at hu; have e : d = i := Nat.eq_of_beq_eq_true hb; subst e; simp only [Option.some.injEq] at hu; subst hu; rw [Array.getElem?_setIfInBounds_self_of_lt (by rw [h.s]; exact hd')]
 | false =>
  rw [hb] at hu; have e : d ≠ i := Nat.ne_of_beq_eq_false hb; rw [Array.getElem?_setIfInBounds_ne e]; exact h.k i u hu
theorem Kn.sub [DSc] (h : Kn n K a) (hl : look K d = some v) (hv : v = v') : Kn n ((d, v') :: K) a := by
 refine ⟨h.d, h.s, fun i u hu => ?_⟩; unfold look at hu; cases hb : Nat.beq d i with
 | true =>
  rw [hb] at hu; have e : d = i := Nat.eq_of_beq_eq_true hb; simp only [Option.some.injEq] at hu; subst e; rw [← hu, ← hv]; exact h.k _ _ hl
 | false => rw [hb] at hu; exact h.k i u hu
def gd (ops : Array Oper) (K : List (Nat × Value)) (o : Oper) : Option Bool :=
 match o.guard with
 | none => some true
 | some (j, want) => match (ops[j]?).bind (·.dst) with
  | none => none
  | some d => match look K d with
   | some (.bool c) => some (c == want)
   | some _ => some false
   | none => none
theorem Kn.wanted [DSc] (h : Kn n K a) {b : Bool} (hg : gd ops K o = some b) : Region.wanted o (yielded ops a.tmps) = b := by
 unfold gd at hg; unfold Region.wanted
 split at hg
 ·next hgd => rw [hgd]; simpa using hg
 ·next j want hgd =>
  rw [hgd]
  split at hg
  ·simp at hg
  ·next d hd =>
   split at hg
   ·next c hc =>
    have := h.k _ _ hc; simp only [yielded, hd, Option.bind_some, this, Option.some.injEq] at hg ⊢; rw [← hg]; rfl
   ·next u hnb hc =>
    have := h.k _ _ hc; simp only [Option.some.injEq] at hg; subst hg; simp only [yielded, hd, Option.bind_some, this]; cases u <;> first | rfl | exact absurd rfl (hnb _)
   ·simp at hg
inductive It where
 | blk (g : Nat) (t : TypeId) (cs : Array Value)
 | own (e : TypeId) (m : Nat) (v : Value) (k : Nat) (xs : List Value)
 | dat (p : World → Prop)
def apart (x : Option Nat) : List It → Prop
 | [] => True
 | .own _ _ v _ _ :: l => (∀ k, x = some k → v.ownBlock ≠ some k) ∧ apart x l
 | _ :: l => apart x l
def Dt (p : World → Prop) (m : Nat) (w : World) : Prop := ∀ W, Below m w W → p W
def Ok (B : Nat) (w : World) : Nat → List It → Prop
 | n, [] => B ≤ n
 | n, .blk g t cs :: l => g < n ∧ Blk w g t cs ∧ apart (some g) l ∧ Ok B w g l
 | n, .own e m v k xs :: l => ∃ b, b ≤ n ∧ w.ownsRow b e m v k xs ∧ apart v.ownBlock l ∧ Ok B w b l
 | n, .dat p :: l => ∃ m, m ≤ n ∧ Dt p m w ∧ Ok B w m l
structure Ev (w0 w : World) (l : List It) : Prop where
 b : Below w0.heap.size w0 w
 k : Ok w0.heap.size w w.heap.size l
theorem Ok.le {B : Nat} {w : World} : ∀ {l : List It} {n : Nat}, Ok B w n l → B ≤ n
 | [], _, h => h
 | .blk g _ _ :: l, n, h => Nat.le_trans (Ok.le h.2.2.2) (Nat.le_of_lt h.1)
 | .own _ _ _ _ _ :: l, n, h => by obtain ⟨b, h1, _, _, h4⟩ := h; exact Nat.le_trans (Ok.le h4) h1
 | .dat _ :: l, n, h => by obtain ⟨m, h1, _, h3⟩ := h; exact Nat.le_trans (Ok.le h3) h1
theorem Ok.mono {B : Nat} {w : World} : ∀ {l : List It} {n n' : Nat}, Ok B w n l → n ≤ n' → Ok B w n' l
 | [], _, _, h, hn => Nat.le_trans h hn
 | .blk g _ _ :: l, n, n', h, hn => ⟨Nat.lt_of_lt_of_le h.1 hn, h.2⟩
 | .own _ _ _ _ _ :: l, n, n', h, hn => by obtain ⟨b, h1, h2⟩ := h; exact ⟨b, Nat.le_trans h1 hn, h2⟩
 | .dat _ :: l, n, n', h, hn => by obtain ⟨m, h1, h2⟩ := h; exact ⟨m, Nat.le_trans h1 hn, h2⟩
theorem own_keep {w w' : World} {b : Nat} {e : TypeId} {m n : Nat} {v : Value} {xs : List Value} (h : w.ownsRow b e m v n xs) (hk : ∀ k, v.ownBlock = some k → w'.heap[k]? = w.heap[k]?) : w'.ownsRow b e m v n xs := by
 obtain ⟨h1, h2⟩ := h; refine ⟨h1, ?_⟩; rcases h2 with h2 | ⟨g, cap, cur, hv, hg, hh, r⟩
 ·exact Or.inl h2
 ·exact Or.inr ⟨g, cap, cur, hv, hg, by rw [hk g (by rw [hv]; rfl)]; exact hh, r⟩
theorem own_lt {w : World} {b : Nat} {e : TypeId} {m n : Nat} {v : Value} {xs : List Value} (h : w.ownsRow b e m v n xs) {k : Nat} (hk : v.ownBlock = some k) : b ≤ k ∧ k < w.heap.size := by
 rcases h.2 with ⟨rfl, _⟩ | ⟨g, cap, cur, rfl, hg, hh, _⟩
 ·cases hk
 ·injection hk with hk
  subst hk; exact ⟨hg, (Array.getElem?_eq_some_iff.1 hh).1⟩
theorem Ok.keep {B : Nat} {w w' : World} (hb : Below w.heap.size w w') : ∀ {l : List It} {n : Nat}, n ≤ w.heap.size → Ok B w n l → Ok B w' n l
 | [], _, _, h => h
 | .blk g _ _ :: l, n, hn, h => ⟨h.1, h.2.1.below hb (Nat.lt_of_lt_of_le h.1 hn), h.2.2.1, Ok.keep hb (by have := h.1; omega) h.2.2.2⟩
 | .own _ _ v _ _ :: l, n, hn, h => by
  obtain ⟨b, h1, h2, h3, h4⟩ := h; exact ⟨b, h1, own_keep h2 (fun k hk => hb.block k (own_lt h2 hk).2), h3, Ok.keep hb (by omega) h4⟩
 | .dat p :: l, n, hn, h => by
  obtain ⟨m, h1, h2, h3⟩ := h; exact ⟨m, h1, fun W hW => h2 W ((hb.mono (by omega)).trans hW), Ok.keep hb (by omega) h3⟩
variable {l l' : List It}
theorem Ev.start (w : World) : Ev w w [] := ⟨Below.refl _ _, Nat.le_refl _⟩
theorem Ev.call (h : Ev w0 w l) {w' : World} (hb : Below w.heap.size w w') : Ev w0 w' l := ⟨h.b.trans (hb.mono (h.b.size)), (Ok.keep hb (Nat.le_refl _) h.k).mono hb.size⟩
theorem Ev.dat (h : Ev w0 w l) {p : World → Prop} (hp : ∀ W, Below w.heap.size w W → p W) : Ev w0 w (.dat p :: l) := ⟨h.b, w.heap.size, Nat.le_refl _, hp, h.k⟩
theorem Ev.own0 (h : Ev w0 w l) (e : TypeId) (m : Nat) : Ev w0 w (.own e m (.slice none 0 0) 0 [] :: l) := ⟨h.b, w.heap.size, Nat.le_refl _, ⟨by simp, .inl ⟨rfl, rfl⟩⟩, by
 have : ∀ l : List It, apart (Value.slice none 0 0).ownBlock l := by
  intro l
  induction l with
  | nil => trivial
  | cons x l ih => cases x with
   | own _ _ _ _ _ => exact ⟨fun k hk => (by cases hk), ih⟩
   | _ => exact ih
 exact this l, h.k⟩
theorem Ok.apart_new {B : Nat} {w : World} {g : Nat} (hg : w.heap.size ≤ g) : ∀ {l : List It} {n : Nat}, Ok B w n l → apart (some g) l
 | [], _, _ => trivial
 | .blk _ _ _ :: l, n, h => Ok.apart_new (l := l) hg h.2.2.2
 | .dat _ :: l, n, h => by obtain ⟨m, _, _, h3⟩ := h; exact Ok.apart_new (l := l) hg h3
 | .own _ _ v _ _ :: l, n, h => by
  obtain ⟨b, h1, h2, h3, h4⟩ := h; refine ⟨fun k hk hv => ?_, Ok.apart_new (l := l) hg h4⟩
  injection hk with hk
  have := (own_lt h2 hv).2; omega
theorem Ev.alloc (h : Ev w0 w l) (cs : Array Value) (t : TypeId) : Ev w0 (w.alloc (.cells cs t)) (.blk w.heap.size t cs :: l) := by
 have hb : Below w.heap.size w (w.alloc (.cells cs t)) := (Below.refl _ _).alloc (Nat.le_refl _) _; refine ⟨h.b.trans (hb.mono h.b.size), by simp, Blk.new _ _ _, ?_, Ok.keep hb (Nat.le_refl _) h.k⟩; exact Ok.apart_new (Nat.le_refl _) h.k
theorem Ok.get {B : Nat} {w : World} : ∀ {l : List It} {n : Nat} (i : Nat) {x : It}, Ok B w n l → l[i]? = some x → match x with
  | .blk g t cs => Blk w g t cs ∧ B ≤ g
  | .own e m v k xs => ∃ b, B ≤ b ∧ w.ownsRow b e m v k xs
  | .dat p => p w
 | [], _, i, x, _, hx => by simp at hx
 | y :: l, n, 0, x, h, hx => by
  simp only [List.getElem?_cons_zero, Option.some.injEq] at hx; subst hx; cases y with
  | blk g t cs => exact ⟨h.2.1, h.2.2.2.le⟩
  | own e m v k xs => obtain ⟨b, _, h2, _, h4⟩ := h; exact ⟨b, h4.le, h2⟩
  | dat p => obtain ⟨m, _, h2, _⟩ := h; exact h2 w (Below.refl _ _)
 | y :: l, n, i + 1, x, h, hx => by
  simp only [List.getElem?_cons_succ] at hx; cases y with
  | blk g t cs => exact Ok.get i h.2.2.2 hx
  | own e m v k xs => obtain ⟨b, _, _, _, h4⟩ := h; exact Ok.get i h4 hx
  | dat p => obtain ⟨m, _, _, h3⟩ := h; exact Ok.get i h3 hx
theorem Ev.blk (h : Ev w0 w l) (i : Nat) {g : Nat} {t : TypeId} {cs : Array Value} (hi : l[i]? = some (.blk g t cs)) : Blk w g t cs := (Ok.get i h.k hi).1
theorem Ev.get (h : Ev w0 w l) (i : Nat) {p : World → Prop} (hi : l[i]? = some (.dat p)) : p w := Ok.get i h.k hi
theorem Ev.row (h : Ev w0 w l) (i : Nat) {e : TypeId} {m k : Nat} {v : Value} {xs : List Value} (hi : l[i]? = some (.own e m v k xs)) : ∃ b, w0.heap.size ≤ b ∧ w.ownsRow b e m v k xs := Ok.get i h.k hi
def setAt (cs : Array Value) : Nat → List It → Option (List It)
 | 0, .blk g t _ :: l => some (.blk g t cs :: l)
 | i + 1, .blk g t c :: l => (setAt cs i l).map fun l' => .blk g t c :: l'
 | i + 1, .own e m v k xs :: l => (setAt cs i l).map fun l' => .own e m v k xs :: l'
 | _, _ => none
theorem apart_set {cs : Array Value} : ∀ {i : Nat} {l l' : List It}, setAt cs i l = some l' → ∀ x, apart x l → apart x l'
 | 0, .blk g t c :: l, l', h, x, ha => by simp only [setAt, Option.some.injEq] at h; subst h; exact ha
 | i + 1, .blk g t c :: l, l', h, x, ha => by
  simp only [setAt, Option.map_eq_some_iff] at h; obtain ⟨m, h1, rfl⟩ := h; exact apart_set h1 x ha
 | i + 1, .own e m v k xs :: l, l', h, x, ha => by
  simp only [setAt, Option.map_eq_some_iff] at h; obtain ⟨m, h1, rfl⟩ := h; exact ⟨ha.1, apart_set h1 x ha.2⟩
theorem apart_of : ∀ {l : List It} {x : Nat} {i : Nat} {e : TypeId} {m k : Nat} {v : Value} {xs : List Value}, apart (some x) l → l[i]? = some (.own e m v k xs) → v.ownBlock ≠ some x
 | .own _ _ _ _ _ :: l, x, 0, e, m, k, v, xs, h, hi => by
  simp only [List.getElem?_cons_zero, Option.some.injEq, It.own.injEq] at hi; obtain ⟨_, _, rfl, _, _⟩ := hi; exact h.1 x rfl
 | .own _ _ _ _ _ :: l, x, i + 1, e, m, k, v, xs, h, hi => apart_of (l := l) h.2 (by simpa using hi)
 | .blk _ _ _ :: l, x, 0, e, m, k, v, xs, h, hi => by simp at hi
 | .dat _ :: l, x, 0, e, m, k, v, xs, h, hi => by simp at hi
 | .blk _ _ _ :: l, x, i + 1, e, m, k, v, xs, h, hi => apart_of (l := l) h (by simpa using hi)
 | .dat _ :: l, x, i + 1, e, m, k, v, xs, h, hi => apart_of (l := l) h (by simpa using hi)
theorem Ok.low {B : Nat} {w w' : World} {g : Nat} (hk : ∀ k, k ≠ g → w'.heap[k]? = w.heap[k]?) (hbg : Below g w w') : ∀ {l : List It} {n : Nat}, n ≤ g → apart (some g) l → Ok B w n l → Ok B w' n l
 | [], _, _, _, h => h
 | .blk _ _ _ :: l, n, hn, ha, h => ⟨h.1, h.2.1.below hbg (by have := h.1; omega), h.2.2.1, Ok.low hk hbg (by have := h.1; omega) ha h.2.2.2⟩
 | .own _ _ v _ _ :: l, n, hn, ha, h => by
  obtain ⟨b, h1, h2, h3, h4⟩ := h; exact ⟨b, h1, own_keep h2 (fun k hk' => hk k (fun e => ha.1 g rfl (e ▸ hk'))), h3, Ok.low hk hbg (by omega) ha.2 h4⟩
 | .dat _ :: l, n, hn, ha, h => by
  obtain ⟨m, h1, h2, h3⟩ := h; exact ⟨m, h1, fun W hW => h2 W ((hbg.mono (by omega)).trans hW), Ok.low hk hbg (by omega) ha h3⟩
theorem Ok.lt_of {B : Nat} {w : World} : ∀ {l : List It} {n i : Nat} {g : Nat} {t : TypeId} {cs : Array Value}, Ok B w n l → l[i]? = some (.blk g t cs) → g < n
 | [], _, i, _, _, _, _, hi => by simp at hi
 | .blk _ _ _ :: l, n, 0, g, t, cs, h, hi => by
  simp only [List.getElem?_cons_zero, Option.some.injEq, It.blk.injEq] at hi; obtain ⟨rfl, _, _⟩ := hi; exact h.1
 | .own _ _ _ _ _ :: l, n, 0, g, t, cs, h, hi => by simp at hi
 | .dat _ :: l, n, 0, g, t, cs, h, hi => by simp at hi
 | .blk _ _ _ :: l, n, i + 1, g, t, cs, h, hi => Nat.lt_trans (Ok.lt_of h.2.2.2 (by simpa using hi)) h.1
 | .own _ _ _ _ _ :: l, n, i + 1, g, t, cs, h, hi => by obtain ⟨b, h1, _, _, h4⟩ := h; exact Nat.lt_of_lt_of_le (Ok.lt_of h4 (by simpa using hi)) h1
 | .dat _ :: l, n, i + 1, g, t, cs, h, hi => by obtain ⟨b, h1, _, h4⟩ := h; exact Nat.lt_of_lt_of_le (Ok.lt_of h4 (by simpa using hi)) h1
theorem Ok.set {B : Nat} {w w' : World} {g : Nat} {t : TypeId} {cs0 cs : Array Value} (hk : ∀ k, k ≠ g → w'.heap[k]? = w.heap[k]?) (hbg : Below g w w') (hn : Blk w' g t cs) :
  ∀ {l l' : List It} {n i : Nat}, Ok B w n l → l[i]? = some (.blk g t cs0) → setAt cs i l = some l' → Ok B w' n l'
 | [], _, _, i, _, hi, _ => by simp at hi
 | .dat _ :: l, l', n, i, h, hi, hs => by cases i <;> simp [setAt] at hs
 | .own _ _ _ _ _ :: l, l', n, 0, h, hi, hs => by simp [setAt] at hs
 | .blk g' t' c' :: l, l', n, 0, h, hi, hs => by
  simp only [List.getElem?_cons_zero, Option.some.injEq, It.blk.injEq] at hi; obtain ⟨rfl, rfl, _⟩ := hi; simp only [setAt, Option.some.injEq] at hs; subst hs; exact ⟨h.1, hn, h.2.2.1, Ok.low hk hbg (Nat.le_refl _) h.2.2.1 h.2.2.2⟩
 | .blk g' t' c' :: l, l', n, i + 1, h, hi, hs => by
  simp only [setAt, Option.map_eq_some_iff] at hs; obtain ⟨m, h1, rfl⟩ := hs; have hi' : l[i]? = some (.blk g t cs0) := by simpa using hi
  have hlt := Ok.lt_of h.2.2.2 hi'; exact ⟨h.1, (hk g' (by omega)).trans h.2.1, apart_set h1 _ h.2.2.1, Ok.set hk hbg hn h.2.2.2 hi' h1⟩
 | .own e m v k xs :: l, l', n, i + 1, h, hi, hs => by
  simp only [setAt, Option.map_eq_some_iff] at hs; obtain ⟨m', h1, rfl⟩ := hs; have hi' : l[i]? = some (.blk g t cs0) := by simpa using hi
  obtain ⟨b, h2, h3, h4, h5⟩ := h; have hlt := Ok.lt_of h5 hi'; exact ⟨b, h2, own_keep h3 (fun j hj => hk j (by have := (own_lt h3 hj).1; omega)), apart_set h1 _ h4, Ok.set hk hbg hn h5 hi' h1⟩
theorem Ev.set (h : Ev w0 w l) {g : Nat} {t : TypeId} {cs : Array Value} (i : Nat) (hi : l[i]? = some (.blk g t cs)) (ivs : List (Nat × Value)) (hl : setAt (sets cs ivs) i l = some l')
  (hb : Blk (stsW w (ivs.map fun p => (⟨g, p.1, none⟩, p.2))) g t (sets cs ivs)) : Ev w0 (stsW w (ivs.map fun p => (⟨g, p.1, none⟩, p.2))) l' := by
 have ho := stsW_other (g := g) ivs (w := w); have hg := (Ok.get i h.k hi).2; refine ⟨h.b.trans (ho.2.2.mono hg), ?_⟩; rw [ho.1]; exact Ok.set ho.2.1 ho.2.2 hb h.k hi hl
theorem Ok.drop {B : Nat} {w : World} : ∀ {l l' : List It} {n : Nat}, List.Sublist l' l → Ok B w n l → Ok B w n l' := by
 have ap : ∀ {l l' : List It}, List.Sublist l' l → ∀ x, apart x l → apart x l' := by
  intro l l' hs
  induction hs with
  | slnil => intro _ h; exact h
  | cons y _ ih => intro x h; cases y with
   | own _ _ _ _ _ => exact ih x h.2
   | _ => exact ih x h
  | cons_cons y _ ih => intro x h; cases y with
   | own _ _ _ _ _ => exact ⟨h.1, ih x h.2⟩
   | _ => exact ih x h
 intro l l' n hs
 induction hs generalizing n with
 | slnil => intro h; exact h
 | cons y _ ih => intro h; cases y with
  | blk g t cs => exact (ih h.2.2.2).mono (Nat.le_of_lt h.1)
  | own e m v k xs => obtain ⟨b, h1, _, _, h4⟩ := h; exact (ih h4).mono h1
  | dat p => obtain ⟨b, h1, _, h4⟩ := h; exact (ih h4).mono h1
 | cons_cons y hs ih => intro h; cases y with
  | blk g t cs => exact ⟨h.1, h.2.1, ap hs _ h.2.2.1, ih h.2.2.2⟩
  | own e m v k xs => obtain ⟨b, h1, h2, h3, h4⟩ := h; exact ⟨b, h1, h2, ap hs _ h3, ih h4⟩
  | dat p => obtain ⟨b, h1, h2, h4⟩ := h; exact ⟨b, h1, h2, ih h4⟩
theorem Ev.drop (h : Ev w0 w l) (hs : List.Sublist l' l) : Ev w0 w l' := ⟨h.b, Ok.drop hs h.k⟩
theorem st_of [DSc] (hK : Kn n K a) {b : Bool} (hg : gd ops K o = some b) (h : if b = true then o.wp P a w (wpList P ops Q rest) Q else wpList P ops Q rest (a.put o.dst undef) w) : wpList P ops Q (o :: rest) a w := by
 refine wpList_step fun Kx hx => ?_
 rw [hK.wanted hg]; cases b with
 | true =>
  simp only [if_true] at h ⊢; unfold Oper.wp Oper.upon at h ⊢
  revert h
  split <;> first | exact hx _ _ | exact id | (intro h; refine h.mono fun e w' hr => ?_; cases e <;> first | exact hx _ _ hr | exact hr) | (intro h; exact Rows.mono h fun v w' hr => hx _ _ hr) | (intro h; exact h)
 | false => simpa using hx _ _ (by simpa using h)
theorem st_op [DSc] {vs : List Value} {obs : List (Addr × Value)} (hK : Kn n K a) (hg : gd ops K o = some true) (he : ∀ J, sx P (execOp (rho K J) o) vs = some (.value v', obs)) (ho : Obs w obs) (hv : v' = v) (hd : o.dst = some d) (hn : Nat.blt d n = true)
  (h : ∀ a', Kn n ((d, v) :: K) a' → wpList P ops Q rest a' w) : wpList P ops Q (o :: rest) a w := by
 refine st_of hK hg ?_; rw [if_pos rfl]; unfold Oper.wp Oper.upon; rw [hK.eval, sx_run _ (he _) ho, hd, hv]; exact h _ (hK.put hn v)
theorem o0 (d : Nat) (v' : Value) (hK : Kn n K a) (hg : gd ops K o = some true) (he : ∀ J, sx P (execOp (rho K J) o) [] = some (.value v', [])) (hv : v' = v) (hd : o.dst = some d) (hn : Nat.blt d n = true) (h : ∀ a', Kn n ((d, v) :: K) a' → wpList P ops Q rest a' w) : wpList P ops Q (o :: rest) a w := st_op hK hg he trivial hv hd hn h
theorem st_skip [DSc] (hK : Kn n K a) (hg : gd ops K o = some false) (hd : o.dst = some d) (hn : Nat.blt d n = true) (h : ∀ a', Kn n ((d, undef) :: K) a' → wpList P ops Q rest a' w) : wpList P ops Q (o :: rest) a w := by
 refine st_of hK hg ?_; rw [if_neg (by simp), hd]; exact h _ (hK.put hn undef)
def bat (P : Program) (n : Nat) (ops : Array Oper) (J : Nat → Value) : Nat → List (Nat × Value) → List Oper → Option (List (Nat × Value))
  | 0, K, _ => some K
  | _ + 1, _, [] => none
  | k + 1, K, o :: L => match o.dst with
    | none => none
    | some d => match Nat.blt d n with
      | false => none
      | true => match gd ops K o with
        | none => none
        | some false => bat P n ops J k ((d, undef) :: K) L
        | some true => match sx P (execOp (rho K J) o) [] with
          | some (.value v, []) => bat P n ops J k ((d, v) :: K) L
          | _ => none
theorem bat_tail {P : Program} {n : Nat} {ops : Array Oper} {J : Nat → Value} : ∀ {k : Nat} {K K2 : List (Nat × Value)} {L : List Oper}, bat P n ops J k K L = some K2 → ∃ l, l.length = k ∧ K2 = l ++ K := by
  intro k
  induction k with
  | zero => intro K K2 L h; unfold bat at h; exact ⟨[], rfl, (Option.some.inj h).symm⟩
  | succ k ih =>
    intro K K2 L h
    have key : ∀ x, (∃ l, l.length = k ∧ K2 = l ++ x :: K) → ∃ l, l.length = k + 1 ∧ K2 = l ++ K := by
      rintro x ⟨l, h1, h2⟩
      exact ⟨l ++ [x], by simp [h1], by simp [h2]⟩
    cases L with
    | nil => unfold bat at h; cases h
    | cons o L =>
      unfold bat at h
      cases hd : o.dst with
      | none => simp only [hd] at h; cases h
      | some d =>
        cases hn : Nat.blt d n with
        | false => simp only [hd, hn] at h; cases h
        | true =>
          cases hg : gd ops K o with
          | none => simp only [hd, hn, hg] at h; cases h
          | some b =>
            cases b with
            | false => simp only [hd, hn, hg] at h; exact key _ (ih h)
            | true =>
              simp only [hd, hn, hg] at h
              split at h
              · exact key _ (ih h)
              · cases h
theorem st_bat (k : Nat) {L : List Oper} {K2 : List (Nat × Value)} (hK : Kn n K a) (he : ∀ J, bat P n ops J k K L = some K2) (h : ∀ a', Kn n K2 a' → wpList P ops Q (L.drop k) a' w) : wpList P ops Q L a w := by
  induction k generalizing K a L with
  | zero =>
    have := he (fun _ => undef)
    unfold bat at this
    obtain rfl := Option.some.inj this
    exact h a hK
  | succ k ih =>
    cases L with
    | nil => have := he (fun _ => undef); unfold bat at this; cases this
    | cons o L =>
      cases hd : o.dst with
      | none => have := he (fun _ => undef); unfold bat at this; rw [hd] at this; cases this
      | some d =>
        cases hn : Nat.blt d n with
        | false => have := he (fun _ => undef); unfold bat at this; simp only [hd, hn] at this; cases this
        | true =>
          cases hg : gd ops K o with
          | none => have := he (fun _ => undef); unfold bat at this; simp only [hd, hn, hg] at this; cases this
          | some b =>
            cases b with
            | false =>
              refine st_skip hK hg hd hn fun a' hK' => ih hK' (fun J => ?_) h
              have := he J
              unfold bat at this
              simp only [hd, hn, hg] at this
              exact this
            | true =>
              have h1 : ∀ J, ∃ v, sx P (execOp (rho K J) o) [] = some (.value v, []) ∧ bat P n ops J k ((d, v) :: K) L = some K2 := by
                intro J
                have := he J
                unfold bat at this
                simp only [hd, hn, hg] at this
                split at this
                · next v e => exact ⟨v, e, this⟩
                · cases this
              obtain ⟨v, e1, e2⟩ := h1 (fun _ => undef)
              have h2 : ∀ J, sx P (execOp (rho K J) o) [] = some (.value v, []) ∧ bat P n ops J k ((d, v) :: K) L = some K2 := by
                intro J
                obtain ⟨v', e1', e2'⟩ := h1 J
                obtain ⟨l, l1, l2⟩ := bat_tail e2
                obtain ⟨l', l1', l2'⟩ := bat_tail e2'
                have := List.append_inj (l2.symm.trans l2') (by omega)
                have hv : v = v' := by have := this.2; simp at this; exact this
                subst hv
                exact ⟨e1', e2'⟩
              exact st_op hK hg (fun J => (h2 J).1) trivial rfl hd hn fun a' hK' => ih hK' (fun J => (h2 J).2) h
theorem oN (k : Nat) {L : List Oper} (f : List (Nat × Value) → List (Nat × Value)) (hK : Kn n K a) (he : ∀ J, bat P n ops J k K L = some (f K)) (h : ∀ a', Kn n (f K) a' → wpList P ops Q (L.drop k) a' w) : wpList P ops Q L a w := st_bat k hK he h
theorem qs_call [DSc] {B : Nat} {Q : Act → Prop} {f : FuncId} {args : Array Value} (hK : Kn n K a) (hg : gd ops K o = some true) (he : ∀ J, sx P (execOp (rho K J) o) [] = some (.enter f args, [])) (hd : o.dst = some d) (hn : Nat.blt d n = true)
  (hc : ∀ x : Fut B w, Calls P f args x.v fun e w' => e = .returned v ∧ ∃ y : Fut B w, w' = y.v) (h : ∀ a', Kn n ((d, v) :: K) a' → wpQuiet P ops (fun w' => ∃ x : Fut B w, w' = x.v) Q rest a') : wpQuiet P ops (fun w' => ∃ x : Fut B w, w' = x.v) Q (o :: rest) a := by
 refine wpQuiet_step fun Kx hx => ?_
 rw [hK.wanted hg, if_pos rfl]; refine ⟨v, ?_, hx _ (by rw [hd]; exact h _ (hK.put hn v))⟩; rintro _ ⟨x, rfl⟩; unfold Oper.quietAt; rw [hK.eval, sx_run _ (he _) trivial]; exact ⟨rfl, (hc x).mono fun e w' h => h⟩
theorem xb_hit {id : Nat} {a : Act} {w : World} (h : Q .normal a w) : Exit.inBlock id Q (.exit id) a w := by
 simp only [Exit.inBlock, if_true]; exact h
theorem vc_cond [DSc] {c : Operand} {x y : Code} {t : Bool} (hK : Kn n K a) (hc : ∀ J, rho K J c = .bool t) (h : (if t = true then x else y).wp P Q a w) : (Code.cond c x y).wp P Q a w :=
 wp_cond (t := t) (by rw [hK.eval]; exact hc _) h
theorem vc_loop {γ : Type} {c : Code} (I : γ → Act → World → Prop) (μ : γ → Nat) (x0 : γ) (h0 : I x0 a w)
  (round : ∀ x a w, I x a w → c.wp P (Exit.then (fun a' w' => ∃ y, I y a' w' ∧ μ y < μ x) Q) a w) : (Code.loop c).wp P Q a w := by
 intro b k cs; have key : ∀ m x a w, μ x = m → I x a w → ∃ e a' w', Q e a' w' ∧ Arrives P (lone (b.at a (.code c :: .inLoop c :: k)) cs w) b k cs e a' w' := by
  intro m
  induction m using Nat.strongRecOn with
  | _ m ih =>
   intro x a w hx hI; obtain ⟨e, a₁, w₁, hq, harr⟩ := round x a w hI b (.inLoop c :: k) cs; cases e with
   | normal =>
    obtain ⟨y, hI₁, hlt⟩ := hq; obtain ⟨e₂, a₂, w₂, hq₂, harr₂⟩ := ih (μ y) (hx ▸ hlt) y a₁ w₁ rfl hI₁; exact ⟨e₂, a₂, w₂, hq₂, .of_steps (Steps.trans harr (.one step_inLoop)) harr₂⟩
   | exit id => exact ⟨_, a₁, w₁, hq, .pass (x := .inLoop c) rfl (fun _ _ => .inl (by simp)) harr⟩
   | goto l => exact ⟨_, a₁, w₁, hq, .pass (x := .inLoop c) rfl (fun _ _ => .inl (by simp)) harr⟩
   | ret => exact ⟨_, a₁, w₁, hq, .pass (x := .inLoop c) rfl (fun _ _ => .inl (by simp)) harr⟩
   | panic ch => exact ⟨_, a₁, w₁, hq, .pass (x := .inLoop c) rfl (fun _ _ => .inl (by simp)) harr⟩
   | outgrown => exact ⟨_, a₁, w₁, hq, .pass (x := .inLoop c) rfl (fun _ _ => .inl (by simp)) harr⟩
 obtain ⟨e, a', w', hq, harr⟩ := key _ x0 a w rfl h0; exact ⟨e, a', w', hq, .of_steps (.one step_loop) harr⟩
def argK : List Value → Nat → List (Nat × Value)
 | [], _ => []
 | v :: l, i => (i, v) :: argK l (i + 1)
theorem argK_look : ∀ (l : List Value) (i j : Nat) (v : Value), look (argK l i) j = some v → i ≤ j ∧ l[j - i]? = some v
 | [], _, _, _, h => by simp [argK, look] at h
 | u :: l, i, j, v, h => by
  unfold argK look at h; cases hb : Nat.beq i j with
  | true =>
   simp only [hb, Option.some.injEq] at h; have e : i = j := Nat.eq_of_beq_eq_true hb; subst e h
   simp
  | false =>
   simp only [hb] at h; obtain ⟨h1, h2⟩ := argK_look l (i + 1) j v h; refine ⟨by omega, ?_⟩; rw [show j - i = (j - (i + 1)) + 1 by omega]
   simpa using h2
theorem vc_enter {f : FuncId} {fn : Func} {c : Code} {args : List Value} {R : Ending → World → Prop} (hf : P.funcs[f]? = some fn) (hb : fn.body = some c) (hn : fn.ntmps = n) (hs : Nat.ble args.length n = true)
  (h : ∀ a, Kn n (argK args 0) a → c.wp P (bodyPost P fn R) a w) : Calls P f args.toArray w R := by
 refine calls_of_wp hf hb (h _ ⟨rfl, ?_, fun i v hv => ?_⟩)
 ·have : args.length ≤ n := Nat.le_of_ble_eq_true hs
  simp [hn]; omega
 ·obtain ⟨_, h2⟩ := argK_look args 0 i v hv; have hi : i < args.length := by
   have := (List.getElem?_eq_some_iff.1 h2).1; omega
  rw [Array.getElem?_append_left (by simpa using hi)]
  simpa using h2
def resF (fn : Func) (f : Nat → Value) : Sem Value := do
 let vs ← fn.results.mapM fun
  | .tmp t => pure (f t)
  | .cell a t => do loadVar t (← asAddr (f a))
 pure (if h : vs.size = 1 then vs[0] else .tuple vs)
theorem vc_ret {fn : Func} {R : Ending → World → Prop} {vs : List Value} {obs : List (Addr × Value)} (hK : Kn n K a) (he : ∀ J, sx P (resF fn fun t => rho K J (.tmp t)) vs = some (v', obs)) (ho : Obs w obs) (hv : v' = v) (hR : R (.returned v) w) : bodyPost P fn R .ret a w := by
 refine ⟨hK.d, v, ?_, hR⟩; have e : results fn a.tmps = resF fn fun t => a.tmps.getD t undef := rfl
 rw [e, hK.slot, ← hv]; exact sx_run _ (he _) ho
end
end Go.Proofs.Ytlfkgbideknkhaa
namespace Go.Proofs.Ytlfkgbideknkhaa
open Go.RowKit
section
variable {n : Nat} {K K' : List (Nat × Value)} {a : Act} {P : Program} {w w0 : World} {ops : Array Oper} {Q : Exit → Act → World → Prop} {o : Oper} {rest : List Oper} {d : Nat} {v v' : Value} {l l' : List It}
def Rec (w : World) (b o : Nat) (cs : List Value) : Prop := ∀ j v, cs[j]? = some v → w.cell? ⟨b, o + j, none⟩ = some v
theorem row_open {α : Type} {f : α → List Value} {m : Nat} {w : World} {A : Option Addr} {l : List α} {k : Nat} {x : α} (hm : ∀ x, (f x).length = m) (h : ∀ W, Below w.heap.size w W → Rd W A (l.flatMap f)) (h0 : 0 < m) (hx : l[k]? = some x) :
  ∃ b o, A = some ⟨b, o, none⟩ ∧ ∀ W, Below w.heap.size w W → ∀ i x, l[i]? = some x → Rec W b (o + i * m) (f x) := by
 have hk : k < l.length := (List.getElem?_eq_some_iff.1 hx).1; have flen : ∀ l : List α, (l.flatMap f).length = l.length * m := by
  intro l
  induction l with
  | nil => simp
  | cons x l ih => rw [List.flatMap_cons, List.length_append, hm, ih, List.length_cons, Nat.add_mul, Nat.one_mul, Nat.add_comm]
 have fget : ∀ (l : List α) (i j : Nat) (x : α), l[i]? = some x → j < m → (l.flatMap f)[i * m + j]? = (f x)[j]? := by
  intro l
  induction l with
  | nil => intro i j x h; simp at h
  | cons y l ih =>
   intro i j x h hj; rw [List.flatMap_cons]; cases i with
   | zero =>
    simp only [List.getElem?_cons_zero, Option.some.injEq] at h; subst h; rw [Nat.zero_mul, Nat.zero_add, List.getElem?_append_left (by rw [hm]; exact hj)]
   | succ i =>
    simp only [List.getElem?_cons_succ] at h; rw [List.getElem?_append_right (by rw [hm, Nat.add_mul]; omega), hm, show (i + 1) * m + j - m = i * m + j by rw [Nat.add_mul]; omega]; exact ih i j x h hj
 have hne : l.flatMap f ≠ [] := by
  intro e; have := flen l; rw [e] at this; simp only [List.length_nil] at this; have := Nat.mul_pos (show 0 < l.length by omega) h0; omega
 obtain ⟨b, o, rfl, _, _⟩ := h w (Below.refl _ _) hne; refine ⟨b, o, rfl, fun W hW i x hx j v hv => ?_⟩; obtain ⟨b', o', e, _, hc⟩ := h W hW hne
 injection e with e
 injection e with e1 e2
 subst e1 e2; have hj : j < m := by have := (List.getElem?_eq_some_iff.1 hv).1; rwa [hm] at this
 rw [Nat.add_assoc]; exact hc _ _ (by rw [fget l i j x hx hj]; exact hv)
theorem add_addr (b off j : Nat) : (⟨b, off, none⟩ : Addr).add j = ⟨b, off + j, none⟩ := by
 unfold Addr.add
 split
 ·next h => rw [h, Nat.add_zero]
 ·rfl
theorem ix_slice {P : Program} {T e : TypeId} {i : TypeInfo} {b off len c j m : Nat} {k : IntKind} (hT : P.underlying T = some (.slice e)) (hi : P.info? e = some i) (hm : i.size = m) (hj : j < len) :
  sx P (Instr.indexAt T (.slice (some ⟨b, off, none⟩) len c) (.int k (j : Int))) [] = some (.pointer (some ⟨b, off + j * m, none⟩), []) := by
 have h1 : (0 : Int) ≤ (j : Int) ∧ (j : Int) < (len : Int) := by omega
 simp only [Instr.indexAt, asIntOf, underlying, program, bind, Sem.bind, pure, sx, hT, h1, and_self, if_true, sizeOf, typeInfo, hi, hm, add_addr, Int.toNat_natCast]
theorem Ev.grow (h : Ev w0 w l) (i : Nat) : True := trivial
end
end Go.Proofs.Ytlfkgbideknkhaa
namespace Go.Proofs.Ytlfkgbideknkhaa
open Go.RowKit
section
variable {n : Nat} {K K' : List (Nat × Value)} {a : Act} {P : Program} {w w0 : World} {ops : Array Oper} {Q : Exit → Act → World → Prop} {o : Oper} {rest : List Oper} {d : Nat} {v v' : Value} {l l' : List It}
def growAt (v : Value) (k : Nat) (xs : List Value) : Nat → List It → Option (List It)
 | 0, .own e m _ _ _ :: l => some (.own e m v k xs :: l)
 | i + 1, .blk g t c :: l => (growAt v k xs i l).map fun l' => .blk g t c :: l'
 | i + 1, .own e m u j ys :: l => (growAt v k xs i l).map fun l' => .own e m u j ys :: l'
 | _, _ => none
theorem apart_grow {v u : Value} {k j m : Nat} {e : TypeId} {xs ys : List Value} : ∀ {i : Nat} {l l' : List It}, growAt v k xs i l = some l' → l[i]? = some (.own e m u j ys) → ∀ x, (∀ g, x = some g → v.ownBlock ≠ some g) → apart x l → apart x l'
 | 0, .own e' m' u' j' ys' :: l, l', h, hi, x, hx, ha => by simp only [growAt, Option.some.injEq] at h; subst h; exact ⟨hx, ha.2⟩
 | i + 1, .blk g t c :: l, l', h, hi, x, hx, ha => by
  simp only [growAt, Option.map_eq_some_iff] at h; obtain ⟨q, h1, rfl⟩ := h; exact apart_grow (l := l) h1 (by simpa using hi) x hx ha
 | i + 1, .own e' m' u' j' ys' :: l, l', h, hi, x, hx, ha => by
  simp only [growAt, Option.map_eq_some_iff] at h; obtain ⟨q, h1, rfl⟩ := h; exact ⟨ha.1, apart_grow (l := l) h1 (by simpa using hi) x hx ha.2⟩
theorem Ok.older {B : Nat} {w w' : World} {b : Nat} {r : Option Nat} (hg : w.grownBy w' r) (hr : ∀ k, r = some k → b ≤ k) (hbs : b ≤ w.heap.size) : ∀ {l : List It} {n : Nat}, n ≤ b → apart r l → Ok B w n l → Ok B w' n l
 | [], _, _, _, h => h
 | .blk g t cs :: l, n, hn, ha, h => ⟨h.1, (hg.block g (by have := h.1; omega) (fun e => by have := hr g e.symm; have := h.1; omega)).trans h.2.1, h.2.2.1, Ok.older hg hr hbs (by have := h.1; omega) ha h.2.2.2⟩
 | .own _ _ u _ _ :: l, n, hn, ha, h => by
  obtain ⟨c, h1, h2, h3, h4⟩ := h; refine ⟨c, h1, own_keep h2 (fun k hk => hg.block k (own_lt h2 hk).2 (fun e => ?_)), h3, Ok.older hg hr hbs (by omega) ha.2 h4⟩; exact ha.1 k e.symm hk
 | .dat p :: l, n, hn, ha, h => by
  obtain ⟨m, h1, h2, h3⟩ := h; have hb : Below m w w' := (Below.refl m w).grown hg (by omega) (fun k hk => by have := hr k hk; omega); exact ⟨m, h1, fun W hW => h2 W (hb.trans hW), Ok.older hg hr hbs (by omega) ha h3⟩
theorem Ok.grow {B : Nat} {w w' : World} {v u : Value} {k j m : Nat} {e : TypeId} {xs ys : List Value} (hg : w.grownBy w' u.ownBlock) (hv : v.ownBlock = u.ownBlock ∨ v.ownBlock = some w.heap.size) (hn : ∀ b, w.ownsRow b e m u j ys → b ≤ w.heap.size → w'.ownsRow b e m v k xs) :
  ∀ {l l' : List It} {n i : Nat}, n ≤ w.heap.size → Ok B w n l → l[i]? = some (.own e m u j ys) → growAt v k xs i l = some l' → Ok B w' n l'
 | [], _, _, i, _, _, hi, _ => by simp at hi
 | .dat _ :: l, l', n, i, _, h, hi, hs => by cases i <;> simp [growAt] at hs
 | .blk g t c :: l, l', n, 0, _, h, hi, hs => by simp [growAt] at hs
 | .own e' m' u' j' ys' :: l, l', n, 0, hns, h, hi, hs => by
  simp only [List.getElem?_cons_zero, Option.some.injEq, It.own.injEq] at hi; obtain ⟨rfl, rfl, rfl, rfl, rfl⟩ := hi; simp only [growAt, Option.some.injEq] at hs; subst hs; obtain ⟨b, h1, h2, h3, h4⟩ := h; have hlow : apart v.ownBlock l := by
   rcases hv with hv | hv
   ·rw [hv]; exact h3
   ·rw [hv]; exact Ok.apart_new (Nat.le_refl _) h4
  exact ⟨b, h1, hn b h2 (by omega), hlow, Ok.older hg (fun k hk => (own_lt h2 hk).1) (by omega) (Nat.le_refl _) h3 h4⟩
 | .blk g t c :: l, l', n, i + 1, hns, h, hi, hs => by
  simp only [growAt, Option.map_eq_some_iff] at hs; obtain ⟨q, h1, rfl⟩ := hs; have hi' : l[i]? = some (.own e m u j ys) := by simpa using hi
  have hne : u.ownBlock ≠ some g := apart_of h.2.2.1 hi'; have hgs : g < w.heap.size := Nat.lt_of_lt_of_le h.1 hns; refine ⟨h.1, (hg.block g hgs (fun e => hne e.symm)).trans h.2.1, apart_grow h1 hi' _ (fun g' e hv' => ?_) h.2.2.1, Ok.grow hg hv hn (by omega) h.2.2.2 hi' h1⟩
  injection e with e
  subst e; rcases hv with hv | hv
  ·exact hne (hv ▸ hv')
  ·rw [hv] at hv'; injection hv' with hv'; omega
 | .own e' m' u' j' ys' :: l, l', n, i + 1, hns, h, hi, hs => by
  simp only [growAt, Option.map_eq_some_iff] at hs; obtain ⟨q, h1, rfl⟩ := hs; have hi' : l[i]? = some (.own e m u j ys) := by simpa using hi
  obtain ⟨b, h2, h3, h4, h5⟩ := h; have hne : ∀ g, u'.ownBlock = some g → u.ownBlock ≠ some g := fun g hg' => apart_of (hg' ▸ h4) hi'
  refine ⟨b, h2, own_keep h3 (fun g hg' => hg.block g (own_lt h3 hg').2 (fun e => hne g hg' e.symm)), apart_grow h1 hi' _ (fun g' e hv' => ?_) h4, Ok.grow hg hv hn (by omega) h5 hi' h1⟩; rcases hv with hv | hv
  ·exact hne g' e (hv ▸ hv')
  ·rw [hv] at hv'; injection hv' with hv'; have := (own_lt h3 e).2; omega
theorem Ev.rd (h : Ev w0 w l) (i : Nat) {e : TypeId} {m k c : Nat} {A : Option Addr} {xs : List Value} (hi : l[i]? = some (.own e m (.slice A k c) k xs)) : Rd w A xs := by
 obtain ⟨b, _, hr⟩ := h.row i hi; exact Rd.of_own hr
theorem hd_of [DSc] {i : Nat} (ho : ops[i]? = some o) (hK : Kn n K a) (hg : gd ops K o = some true) {Kx : Act → World → Prop} (h : o.wp P a w Kx Q) : wpOp P ops Q i Kx a w := by
 unfold wpOp; simp only [ho]; rw [hK.wanted hg, if_pos rfl]; exact .inl h
theorem Ev.drew (h : Ev w0 w l) : Ev w0 w.drew l := h.call (Below.refl _ _).drew
def allOf (p : Nat → Prop) : List Nat → Prop
 | [] => True
 | i :: l => p i ∧ allOf p l
theorem allOf_mem {p : Nat → Prop} : ∀ {l : List Nat}, allOf p l → ∀ i ∈ l, p i
 | _ :: l, h, i, hi => by
  rcases List.mem_cons.1 hi with rfl | hi
  ·exact h.1
  ·exact allOf_mem h.2 i hi
end
end Go.Proofs.Ytlfkgbideknkhaa
namespace Go.Proofs.Ytlfkgbideknkhaa
open Go.RowKit
section
variable {n : Nat} {K K' : List (Nat × Value)} {a : Act} {P : Program} {w w0 : World} {ops : Array Oper} {Q : Exit → Act → World → Prop} {o : Oper} {rest : List Oper} {d : Nat} {v v' : Value} {l l' : List It}
def ownAt (m k : Nat) : Nat → List It → Option (List It)
 | 0, .blk g t cs :: l => some (.own t m (.slice (some ⟨g, 0, none⟩) k k) k cs.toList :: l)
 | i + 1, .blk g t c :: l => (ownAt m k i l).map fun l' => .blk g t c :: l'
 | i + 1, .own e m' u j ys :: l => (ownAt m k i l).map fun l' => .own e m' u j ys :: l'
 | i + 1, .dat p :: l => (ownAt m k i l).map fun l' => .dat p :: l'
 | _, _ => none
theorem apart_ownAt {m k g : Nat} {t : TypeId} {cs : Array Value} : ∀ {i : Nat} {l l' : List It}, ownAt m k i l = some l' → l[i]? = some (.blk g t cs) → ∀ x, (∀ j, x = some j → j ≠ g) → apart x l → apart x l'
 | 0, .blk g' t' c' :: l, l', h, hi, x, hx, ha => by
  simp only [List.getElem?_cons_zero, Option.some.injEq, It.blk.injEq] at hi; obtain ⟨rfl, rfl, rfl⟩ := hi; simp only [ownAt, Option.some.injEq] at h; subst h; refine ⟨fun j hj e => hx j hj ?_, ha⟩; simp only [Value.ownBlock, Option.some.injEq] at e; exact e.symm
 | i + 1, .blk _ _ _ :: l, l', h, hi, x, hx, ha => by
  simp only [ownAt, Option.map_eq_some_iff] at h; obtain ⟨q, h1, rfl⟩ := h; exact apart_ownAt (l := l) h1 (by simpa using hi) x hx ha
 | i + 1, .dat _ :: l, l', h, hi, x, hx, ha => by
  simp only [ownAt, Option.map_eq_some_iff] at h; obtain ⟨q, h1, rfl⟩ := h; exact apart_ownAt (l := l) h1 (by simpa using hi) x hx ha
 | i + 1, .own _ _ _ _ _ :: l, l', h, hi, x, hx, ha => by
  simp only [ownAt, Option.map_eq_some_iff] at h; obtain ⟨q, h1, rfl⟩ := h; exact ⟨ha.1, apart_ownAt (l := l) h1 (by simpa using hi) x hx ha.2⟩
theorem Ok.ownAt_ {B : Nat} {w : World} {m k g : Nat} {t : TypeId} {cs : Array Value} (hs : cs.size = k * m) (hk : k ≤ maxLen) : ∀ {l l' : List It} {n i : Nat}, Ok B w n l → l[i]? = some (.blk g t cs) → ownAt m k i l = some l' → Ok B w n l'
 | [], _, _, i, _, hi, _ => by simp at hi
 | .blk g' t' c' :: l, l', n, 0, h, hi, ho => by
  simp only [List.getElem?_cons_zero, Option.some.injEq, It.blk.injEq] at hi; obtain ⟨rfl, rfl, rfl⟩ := hi; simp only [ownAt, Option.some.injEq] at ho; subst ho; obtain ⟨h1, h2, h3, h4⟩ := h; exact ⟨g', Nat.le_of_lt h1, ⟨by simp [hs], .inr ⟨g', k, c', rfl, Nat.le_refl _, h2, Nat.le_refl _, hk, hs, by rw [List.take_of_length_le (by simp [hs])]⟩⟩, h3, h4⟩
 | .own _ _ _ _ _ :: l, l', n, 0, h, hi, ho => by simp at hi
 | .dat _ :: l, l', n, 0, h, hi, ho => by simp at hi
 | .blk g' t' c' :: l, l', n, i + 1, h, hi, ho => by
  simp only [ownAt, Option.map_eq_some_iff] at ho; obtain ⟨q, h1, rfl⟩ := ho; have hi' : l[i]? = some (.blk g t cs) := by simpa using hi
  have hlt := Ok.lt_of h.2.2.2 hi'; exact ⟨h.1, h.2.1, apart_ownAt h1 hi' _ (fun j hj e => by injection hj with hj; omega) h.2.2.1, Ok.ownAt_ hs hk h.2.2.2 hi' h1⟩
 | .dat p :: l, l', n, i + 1, h, hi, ho => by
  simp only [ownAt, Option.map_eq_some_iff] at ho; obtain ⟨q, h1, rfl⟩ := ho; obtain ⟨b, h2, h3, h4⟩ := h; exact ⟨b, h2, h3, Ok.ownAt_ hs hk h4 (by simpa using hi) h1⟩
 | .own _ _ u _ _ :: l, l', n, i + 1, h, hi, ho => by
  simp only [ownAt, Option.map_eq_some_iff] at ho; obtain ⟨q, h1, rfl⟩ := ho; have hi' : l[i]? = some (.blk g t cs) := by simpa using hi
  obtain ⟨b, h2, h3, h4, h5⟩ := h; have hlt := Ok.lt_of h5 hi'; exact ⟨b, h2, h3, apart_ownAt h1 hi' _ (fun j hj e => by have := (own_lt h3 hj).1; omega) h4, Ok.ownAt_ hs hk h5 hi' h1⟩
theorem Ev.own (h : Ev w0 w l) (i m k : Nat) {g : Nat} {t : TypeId} {cs : Array Value} (hi : l[i]? = some (.blk g t cs)) (hs : cs.size = k * m) (hk : k ≤ maxLen) (ho : ownAt m k i l = some l') : Ev w0 w l' := ⟨h.b, Ok.ownAt_ hs hk h.k hi ho⟩
end
end Go.Proofs.Ytlfkgbideknkhaa
namespace Go.Proofs.Ytlfkgbideknkhaa
open Go.RowKit
section
variable {n : Nat} {K : List (Nat × Value)} {a : Act} {P : Program} {w w0 : World} {ops : Array Oper} {Q : Exit → Act → World → Prop} {o : Oper} {rest : List Oper} {d : Nat} {v v' : Value} {l l' : List It}
end
end Go.Proofs.Ytlfkgbideknkhaa
namespace Go.Proofs.Ytlfkgbideknkhaa
open Go.RowKit
section
variable {n : Nat} {K : List (Nat × Value)} {a : Act} {P : Program} {w w0 : World} {ops : Array Oper} {Q : Exit → Act → World → Prop} {o : Oper} {rest : List Oper} {d : Nat} {v v' : Value} {l l' : List It}
theorem run_v {α : Type} {s : Sem α} {f : α → Next} {r : α} {W : World} (h : s.run P W = .ok r W) : Sem.run P (do pure (f (← s))) W = .ok (f r) W := by
 rw [Sem.run_bind, h]; rfl
end
end Go.Proofs.Ytlfkgbideknkhaa
namespace Go.Proofs.Ytlfkgbideknkhaa
open Go.RowKit
def insAt (p : World → Prop) : Nat → List It → List It
 | 0, l => .dat p :: l
 | i + 1, x :: l => x :: insAt p i l
 | _ + 1, [] => []
theorem apart_ins {p : World → Prop} {x : Option Nat} : ∀ (i : Nat) {l : List It}, apart x l → apart x (insAt p i l)
 | 0, l, h => h
 | i + 1, [], h => h
 | i + 1, .blk _ _ _ :: l, h => apart_ins (l := l) i h
 | i + 1, .dat _ :: l, h => apart_ins (l := l) i h
 | i + 1, .own _ _ _ _ _ :: l, h => ⟨h.1, apart_ins (l := l) i h.2⟩
theorem Ok.ins {B : Nat} {w : World} {p q : World → Prop} (hp : ∀ W, q W → p W) : ∀ (i : Nat) {l : List It} {n : Nat}, Ok B w n l → l[i]? = some (.dat q) → Ok B w n (insAt p i l)
 | 0, [], n, h, hi => by simp at hi
 | 0, .blk _ _ _ :: l, n, h, hi => by simp at hi
 | 0, .own _ _ _ _ _ :: l, n, h, hi => by simp at hi
 | 0, .dat r :: l, n, h, hi => by
  simp only [List.getElem?_cons_zero, Option.some.injEq, It.dat.injEq] at hi; subst hi; obtain ⟨m, h1, h2, h3⟩ := h; exact ⟨m, h1, fun W hW => hp W (h2 W hW), m, Nat.le_refl _, h2, h3⟩
 | i + 1, [], n, h, hi => by simp at hi
 | i + 1, .blk _ _ _ :: l, n, h, hi => ⟨h.1, h.2.1, apart_ins i h.2.2.1, Ok.ins hp i h.2.2.2 (by simpa using hi)⟩
 | i + 1, .own _ _ _ _ _ :: l, n, h, hi => by
  obtain ⟨b, h1, h2, h3, h4⟩ := h; exact ⟨b, h1, h2, apart_ins i h3, Ok.ins hp i h4 (by simpa using hi)⟩
 | i + 1, .dat _ :: l, n, h, hi => by
  obtain ⟨b, h1, h2, h4⟩ := h; exact ⟨b, h1, h2, Ok.ins hp i h4 (by simpa using hi)⟩
theorem Ev.from_ {w0 w : World} {l : List It} (h : Ev w0 w l) (i : Nat) {p q : World → Prop} (hi : l[i]? = some (.dat q)) (hp : ∀ W, q W → p W) : Ev w0 w (insAt p i l) := ⟨h.b, Ok.ins hp i h.k hi⟩
theorem rd_some {w : World} {A : Option Addr} {cs : List Value} (h : Rd w A cs) (hn : cs ≠ []) : ∃ b o, A = some ⟨b, o, none⟩ := by
 obtain ⟨b, o, h1, _⟩ := h hn; exact ⟨b, o, h1⟩
theorem row_some {α : Type} {f : α → List Value} {m : Nat} {w : World} {A : Option Addr} {l : List α} {k : Nat} {x : α} (hm : ∀ x, (f x).length = m) (h : Rd w A (l.flatMap f)) (h0 : 0 < m) (hx : l[k]? = some x) : ∃ b o, A = some ⟨b, o, none⟩ := by
 refine rd_some h fun e => ?_
 have hmem := List.mem_of_getElem? hx; have : f x = [] := by
  have := List.flatMap_eq_nil_iff.1 e x hmem; exact this
 have h1 := hm x; rw [this] at h1
 simp at h1
 omega
theorem row_recs {α : Type} {f : α → List Value} {m : Nat} {W : World} {A : Option Addr} {l : List α} {b o : Nat} (hm : ∀ x, (f x).length = m) (h0 : 0 < m) (hA : A = some ⟨b, o, none⟩) (h : Rd W A (l.flatMap f)) : ∀ i x, l[i]? = some x → Rec W b (o + i * m) (f x) := by
 intro i x hx; have hd : ∀ V, Below W.heap.size W V → Rd V A (l.flatMap f) := fun V hV => h.below hV (Nat.le_refl _)
 obtain ⟨b', o', e, hr⟩ := row_open hm hd h0 hx; rw [hA] at e
 injection e with e
 injection e with e1 e2
 subst e1 e2; exact hr W (Below.refl _ _) i x hx
end Go.Proofs.Ytlfkgbideknkhaa
namespace Go.Proofs.Ytlfkgbideknkhaa
open Go.RowKit
structure Wr1 (w w' : World) (g : Nat) (t : TypeId) (cs : Array Value) : Prop where
 s : w'.heap.size = w.heap.size
 k : ∀ k, k ≠ g → w'.heap[k]? = w.heap[k]?
 b : Below g w w'
 n : Blk w' g t cs
section
variable {n : Nat} {K : List (Nat × Value)} {a : Act} {P : Program} {w : World} {ops : Array Oper} {Q : Exit → Act → World → Prop} {o : Oper} {rest : List Oper} {v v' : Value}
end
end Go.Proofs.Ytlfkgbideknkhaa
namespace Go.Proofs.Ytlfkgbideknkhaa
def iter {σ ρ : Type} (f : σ → Option (σ ⊕ ρ)) : Nat → σ → Option ρ
 | 0, _ => none
 | n + 1, s => match f s with
  | none => none
  | some (.inl s') => iter f n s'
  | some (.inr r) => some r
def ixI {α : Type} (l : List α) (i : Int) : Option α := if 0 ≤ i then l[i.toNat]? else none
def slI {α : Type} (l : List α) (a b : Int) : Option (List α) := if 0 ≤ a ∧ a ≤ b ∧ b ≤ (l.length : Int) then some ((l.take b.toNat).drop a.toNat) else none
def apG {α : Type} (B : Nat) (a b : List α) : Option (List α) := if (a.length + b.length) * B ≤ 140737488355328 then some (a ++ b) else none
def whenG {α : Type} (c : Bool) (x : α) : Option α := if c = true then some x else none
@[reducible] def un2 {t0 t1 ω : Type} (f : t0 → t1 → ω) : t0 × t1 → ω
 | (a0, a1) => f a0 a1
@[reducible] def un3 {t0 t1 t2 ω : Type} (f : t0 → t1 → t2 → ω) : t0 × t1 × t2 → ω
 | (a0, a1, a2) => f a0 a1 a2
@[reducible] def un4 {t0 t1 t2 t3 ω : Type} (f : t0 → t1 → t2 → t3 → ω) : t0 × t1 × t2 × t3 → ω
 | (a0, a1, a2, a3) => f a0 a1 a2 a3
@[reducible] def un5 {t0 t1 t2 t3 t4 ω : Type} (f : t0 → t1 → t2 → t3 → t4 → ω) : t0 × t1 × t2 × t3 × t4 → ω
 | (a0, a1, a2, a3, a4) => f a0 a1 a2 a3 a4
@[reducible] def un6 {t0 t1 t2 t3 t4 t5 ω : Type} (f : t0 → t1 → t2 → t3 → t4 → t5 → ω) : t0 × t1 × t2 × t3 × t4 × t5 → ω
 | (a0, a1, a2, a3, a4, a5) => f a0 a1 a2 a3 a4 a5
@[reducible] def un7 {t0 t1 t2 t3 t4 t5 t6 ω : Type} (f : t0 → t1 → t2 → t3 → t4 → t5 → t6 → ω) : t0 × t1 × t2 × t3 × t4 × t5 × t6 → ω
 | (a0, a1, a2, a3, a4, a5, a6) => f a0 a1 a2 a3 a4 a5 a6
@[reducible] def un8 {t0 t1 t2 t3 t4 t5 t6 t7 ω : Type} (f : t0 → t1 → t2 → t3 → t4 → t5 → t6 → t7 → ω) : t0 × t1 × t2 × t3 × t4 × t5 × t6 × t7 → ω
 | (a0, a1, a2, a3, a4, a5, a6, a7) => f a0 a1 a2 a3 a4 a5 a6 a7
@[reducible] def un9 {t0 t1 t2 t3 t4 t5 t6 t7 t8 ω : Type} (f : t0 → t1 → t2 → t3 → t4 → t5 → t6 → t7 → t8 → ω) : t0 × t1 × t2 × t3 × t4 × t5 × t6 × t7 × t8 → ω
 | (a0, a1, a2, a3, a4, a5, a6, a7, a8) => f a0 a1 a2 a3 a4 a5 a6 a7 a8
@[reducible] def un10 {t0 t1 t2 t3 t4 t5 t6 t7 t8 t9 ω : Type} (f : t0 → t1 → t2 → t3 → t4 → t5 → t6 → t7 → t8 → t9 → ω) : t0 × t1 × t2 × t3 × t4 × t5 × t6 × t7 × t8 × t9 → ω
 | (a0, a1, a2, a3, a4, a5, a6, a7, a8, a9) => f a0 a1 a2 a3 a4 a5 a6 a7 a8 a9
@[reducible] def un11 {t0 t1 t2 t3 t4 t5 t6 t7 t8 t9 t10 ω : Type} (f : t0 → t1 → t2 → t3 → t4 → t5 → t6 → t7 → t8 → t9 → t10 → ω) : t0 × t1 × t2 × t3 × t4 × t5 × t6 × t7 × t8 × t9 × t10 → ω
 | (a0, a1, a2, a3, a4, a5, a6, a7, a8, a9, a10) => f a0 a1 a2 a3 a4 a5 a6 a7 a8 a9 a10
@[reducible] def un12 {t0 t1 t2 t3 t4 t5 t6 t7 t8 t9 t10 t11 ω : Type} (f : t0 → t1 → t2 → t3 → t4 → t5 → t6 → t7 → t8 → t9 → t10 → t11 → ω) : t0 × t1 × t2 × t3 × t4 × t5 × t6 × t7 × t8 × t9 × t10 × t11 → ω
 | (a0, a1, a2, a3, a4, a5, a6, a7, a8, a9, a10, a11) => f a0 a1 a2 a3 a4 a5 a6 a7 a8 a9 a10 a11
@[reducible] def un13 {t0 t1 t2 t3 t4 t5 t6 t7 t8 t9 t10 t11 t12 ω : Type} (f : t0 → t1 → t2 → t3 → t4 → t5 → t6 → t7 → t8 → t9 → t10 → t11 → t12 → ω) : t0 × t1 × t2 × t3 × t4 × t5 × t6 × t7 × t8 × t9 × t10 × t11 × t12 → ω
 | (a0, a1, a2, a3, a4, a5, a6, a7, a8, a9, a10, a11, a12) => f a0 a1 a2 a3 a4 a5 a6 a7 a8 a9 a10 a11 a12
@[reducible] def un14 {t0 t1 t2 t3 t4 t5 t6 t7 t8 t9 t10 t11 t12 t13 ω : Type} (f : t0 → t1 → t2 → t3 → t4 → t5 → t6 → t7 → t8 → t9 → t10 → t11 → t12 → t13 → ω) : t0 × t1 × t2 × t3 × t4 × t5 × t6 × t7 × t8 × t9 × t10 × t11 × t12 × t13 → ω
 | (a0, a1, a2, a3, a4, a5, a6, a7, a8, a9, a10, a11, a12, a13) => f a0 a1 a2 a3 a4 a5 a6 a7 a8 a9 a10 a11 a12 a13
@[reducible] def un15 {t0 t1 t2 t3 t4 t5 t6 t7 t8 t9 t10 t11 t12 t13 t14 ω : Type} (f : t0 → t1 → t2 → t3 → t4 → t5 → t6 → t7 → t8 → t9 → t10 → t11 → t12 → t13 → t14 → ω) : t0 × t1 × t2 × t3 × t4 × t5 × t6 × t7 × t8 × t9 × t10 × t11 × t12 × t13 × t14 → ω
 | (a0, a1, a2, a3, a4, a5, a6, a7, a8, a9, a10, a11, a12, a13, a14) => f a0 a1 a2 a3 a4 a5 a6 a7 a8 a9 a10 a11 a12 a13 a14
@[reducible] def un16 {t0 t1 t2 t3 t4 t5 t6 t7 t8 t9 t10 t11 t12 t13 t14 t15 ω : Type} (f : t0 → t1 → t2 → t3 → t4 → t5 → t6 → t7 → t8 → t9 → t10 → t11 → t12 → t13 → t14 → t15 → ω) : t0 × t1 × t2 × t3 × t4 × t5 × t6 × t7 × t8 × t9 × t10 × t11 × t12 × t13 × t14 × t15 → ω
 | (a0, a1, a2, a3, a4, a5, a6, a7, a8, a9, a10, a11, a12, a13, a14, a15) => f a0 a1 a2 a3 a4 a5 a6 a7 a8 a9 a10 a11 a12 a13 a14 a15
@[reducible] def un17 {t0 t1 t2 t3 t4 t5 t6 t7 t8 t9 t10 t11 t12 t13 t14 t15 t16 ω : Type} (f : t0 → t1 → t2 → t3 → t4 → t5 → t6 → t7 → t8 → t9 → t10 → t11 → t12 → t13 → t14 → t15 → t16 → ω) : t0 × t1 × t2 × t3 × t4 × t5 × t6 × t7 × t8 × t9 × t10 × t11 × t12 × t13 × t14 × t15 × t16 → ω
 | (a0, a1, a2, a3, a4, a5, a6, a7, a8, a9, a10, a11, a12, a13, a14, a15, a16) => f a0 a1 a2 a3 a4 a5 a6 a7 a8 a9 a10 a11 a12 a13 a14 a15 a16
@[reducible] def un18 {t0 t1 t2 t3 t4 t5 t6 t7 t8 t9 t10 t11 t12 t13 t14 t15 t16 t17 ω : Type} (f : t0 → t1 → t2 → t3 → t4 → t5 → t6 → t7 → t8 → t9 → t10 → t11 → t12 → t13 → t14 → t15 → t16 → t17 → ω) : t0 × t1 × t2 × t3 × t4 × t5 × t6 × t7 × t8 × t9 × t10 × t11 × t12 × t13 × t14 × t15 × t16 × t17 → ω
 | (a0, a1, a2, a3, a4, a5, a6, a7, a8, a9, a10, a11, a12, a13, a14, a15, a16, a17) => f a0 a1 a2 a3 a4 a5 a6 a7 a8 a9 a10 a11 a12 a13 a14 a15 a16 a17
@[reducible] def un19 {t0 t1 t2 t3 t4 t5 t6 t7 t8 t9 t10 t11 t12 t13 t14 t15 t16 t17 t18 ω : Type} (f : t0 → t1 → t2 → t3 → t4 → t5 → t6 → t7 → t8 → t9 → t10 → t11 → t12 → t13 → t14 → t15 → t16 → t17 → t18 → ω) : t0 × t1 × t2 × t3 × t4 × t5 × t6 × t7 × t8 × t9 × t10 × t11 × t12 × t13 × t14 × t15 × t16 × t17 × t18 → ω
 | (a0, a1, a2, a3, a4, a5, a6, a7, a8, a9, a10, a11, a12, a13, a14, a15, a16, a17, a18) => f a0 a1 a2 a3 a4 a5 a6 a7 a8 a9 a10 a11 a12 a13 a14 a15 a16 a17 a18
@[reducible] def un20 {t0 t1 t2 t3 t4 t5 t6 t7 t8 t9 t10 t11 t12 t13 t14 t15 t16 t17 t18 t19 ω : Type} (f : t0 → t1 → t2 → t3 → t4 → t5 → t6 → t7 → t8 → t9 → t10 → t11 → t12 → t13 → t14 → t15 → t16 → t17 → t18 → t19 → ω) : t0 × t1 × t2 × t3 × t4 × t5 × t6 × t7 × t8 × t9 × t10 × t11 × t12 × t13 × t14 × t15 × t16 × t17 × t18 × t19 → ω
 | (a0, a1, a2, a3, a4, a5, a6, a7, a8, a9, a10, a11, a12, a13, a14, a15, a16, a17, a18, a19) => f a0 a1 a2 a3 a4 a5 a6 a7 a8 a9 a10 a11 a12 a13 a14 a15 a16 a17 a18 a19
def ifB {α : Type} (c : Bool) (x y : Option α) : Option α := match c with
 | true => x
 | false => y
section
variable {α β σ ρ : Type}
theorem bind_some {x : Option α} {k : α → Option β} {r : β} (h : Option.bind x k = some r) : ∃ o, x = some o ∧ k o = some r := by
 cases x with
 | none => cases h
 | some o => exact ⟨o, rfl, h⟩
theorem ifB_cases {c : Bool} {x y : Option α} {r : α} (h : ifB c x y = some r) : (c = true ∧ x = some r) ∨ (c = false ∧ y = some r) := by
 cases c with
 | true => exact .inl ⟨rfl, h⟩
 | false => exact .inr ⟨rfl, h⟩
theorem iter_gen {f : σ → Option (σ ⊕ ρ)} {n : Nat} {s : σ} {e : ρ} (h : iter f n s = some e) : ∃ g, g = f ∧ iter g n s = some e := ⟨f, rfl, h⟩
theorem iter_step {f : σ → Option (σ ⊕ ρ)} {n : Nat} {s : σ} {e : ρ} (h : iter f n s = some e) : ∃ m o, n = m + 1 ∧ f s = some o ∧ ((∀ s', o = .inl s' → iter f m s' = some e) ∧ (∀ r, o = .inr r → r = e)) := by
 cases n with
 | zero => cases h
 | succ m =>
  unfold iter at h; cases hf : f s with
  | none => rw [hf] at h; cases h
  | some o =>
   rw [hf] at h; refine ⟨m, o, rfl, rfl, fun s' hs => ?_, fun r hr => ?_⟩
   ·subst hs; exact h
   ·subst hr; exact Option.some.inj h
theorem ixI_some {l : List α} {i : Int} {x : α} (h : ixI l i = some x) : ∃ j : Nat, i = (j : Int) ∧ l[j]? = some x := by
 unfold ixI at h
 split at h
 ·exact ⟨i.toNat, by omega, h⟩
 ·cases h
theorem ixI_map {f : α → β} {l : List α} {i : Int} {y : β} (h : ixI (l.map f) i = some y) : ∃ x, ixI l i = some x ∧ f x = y := by
 unfold ixI at h ⊢
 split at h
 ·next hc =>
  rw [List.getElem?_map] at h; rw [if_pos hc]; cases hl : l[i.toNat]? with
  | none => rw [hl] at h; cases h
  | some x => rw [hl] at h; exact ⟨x, rfl, Option.some.inj h⟩
 ·cases h
theorem slI_some {l r : List α} {a b : Int} (h : slI l a b = some r) : ∃ p q : Nat, a = (p : Int) ∧ b = (q : Int) ∧ p ≤ q ∧ q ≤ l.length ∧ r = (l.take q).drop p := by
 unfold slI at h
 split at h
 ·next hc => exact ⟨a.toNat, b.toNat, by omega, by omega, by omega, by omega, (Option.some.inj h).symm⟩
 ·cases h
theorem slI_map {f : α → β} {l : List α} {r : List β} {a b : Int} (h : slI (l.map f) a b = some r) : ∃ s, slI l a b = some s ∧ s.map f = r := by
 unfold slI at h ⊢; rw [List.length_map] at h
 split at h
 ·next hc => exact ⟨_, if_pos hc, by rw [← Option.some.inj h, List.map_drop, List.map_take]⟩
 ·cases h
theorem apG_some {B : Nat} {a b r : List α} (h : apG B a b = some r) : (a.length + b.length) * B ≤ 140737488355328 ∧ r = a ++ b := by
 unfold apG at h
 split at h
 ·next hc => exact ⟨hc, (Option.some.inj h).symm⟩
 ·cases h
theorem apG_map {f : α → β} {B : Nat} {a b : List α} {r : List β} (h : apG B (a.map f) (b.map f) = some r) : ∃ s, apG B a b = some s ∧ s.map f = r := by
 unfold apG at h ⊢; rw [List.length_map, List.length_map] at h
 split at h
 ·next hc => exact ⟨_, if_pos hc, by rw [← Option.some.inj h, List.map_append]⟩
 ·cases h
theorem whenG_some {c : Bool} {x r : α} (h : whenG c x = some r) : c = true ∧ x = r := by
 unfold whenG at h
 split at h
 ·next hc => exact ⟨hc, Option.some.inj h⟩
 ·cases h
end
end Go.Proofs.Ytlfkgbideknkhaa
namespace Go.Proofs.Ytlfkgbideknkhaa
open Go.RowKit
structure Ag (S : Nat → Prop) (w W : World) : Prop where
 size : w.heap.size ≤ W.heap.size
 block : ∀ g, S g → W.heap[g]? = w.heap[g]?
theorem Ag.refl (S : Nat → Prop) (w : World) : Ag S w w := ⟨Nat.le_refl _, fun _ _ => rfl⟩
theorem Ag.trans {S : Nat → Prop} {a b c : World} (h : Ag S a b) (k : Ag S b c) : Ag S a c := ⟨Nat.le_trans h.size k.size, fun g hg => (k.block g hg).trans (h.block g hg)⟩
theorem Ag.mono {S S' : Nat → Prop} {a b : World} (h : Ag S' a b) (hs : ∀ g, S g → S' g) : Ag S a b := ⟨h.size, fun g hg => h.block g (hs g hg)⟩
theorem Ag.cell {S : Nat → Prop} {w W : World} (h : Ag S w W) {b o : Nat} (hb : S b) : W.cell? ⟨b, o, none⟩ = w.cell? ⟨b, o, none⟩ := World.cell?_of_block (w := w) (h.block b hb)
theorem Ag.below {S : Nat → Prop} {w W : World} (h : Below w.heap.size w W) (hs : ∀ g, S g → g < w.heap.size) : Ag S w W := ⟨h.size, fun g hg => h.block g (hs g hg)⟩
structure RecS (S : Nat → Prop) (w : World) (b o : Nat) (cs : List Value) : Prop where
 r : Rec w b o cs
 s : S b
theorem RecS.to {S S' : Nat → Prop} {w W : World} {b o : Nat} {cs : List Value} (h : RecS S w b o cs) (hS : ∀ g, S g → S' g) (hA : Ag S w W) : RecS S' W b o cs := ⟨fun j v hv => (hA.cell h.s).trans (h.r j v hv), hS _ h.s⟩
structure RowS (S : Nat → Prop) (w : World) (A : Option Addr) (xs : List Value) : Prop where
 r : Rd w A xs
 s : xs ≠ [] → ∃ b o, A = some ⟨b, o, none⟩ ∧ S b
theorem RowS.nil (S : Nat → Prop) (w : World) (A : Option Addr) : RowS S w A [] := ⟨Rd.nil w A, fun h => absurd rfl h⟩
theorem RowS.to {S S' : Nat → Prop} {w W : World} {A : Option Addr} {xs : List Value} (h : RowS S w A xs) (hS : ∀ g, S g → S' g) (hA : Ag S w W) : RowS S' W A xs := by
 refine ⟨fun hn => ?_, fun hn => ?_⟩
 ·obtain ⟨b, o, hA1, hb, hc⟩ := h.r hn; obtain ⟨b', o', hA2, hs⟩ := h.s hn; rw [hA1] at hA2
  injection hA2 with e
  injection e with e1 e2
  subst e1 e2; exact ⟨b, o, hA1, Nat.lt_of_lt_of_le hb hA.size, fun j u hu => (hA.cell hs).trans (hc j u hu)⟩
 ·obtain ⟨b, o, e, hs⟩ := h.s hn; exact ⟨b, o, e, hS b hs⟩
theorem RowS.elem {α : Type} {f : α → List Value} {m : Nat} {S : Nat → Prop} {w : World} {A : Option Addr} {l : List α} {j : Nat} {x : α} (h : RowS S w A (l.flatMap f)) (hm : ∀ x, (f x).length = m) (h0 : 0 < m) (hx : l[j]? = some x) : ∃ b o, A = some ⟨b, o, none⟩ ∧ RecS S w b (o + j * m) (f x) := by
 obtain ⟨b, o, hA⟩ := row_some hm h.r h0 hx; refine ⟨b, o, hA, row_recs hm h0 hA h.r j x hx, ?_⟩; have hn : l.flatMap f ≠ [] := fun e => by
  have := List.flatMap_eq_nil_iff.1 e x (List.mem_of_getElem? hx); have hl := hm x; rw [this] at hl
  simp at hl
  omega
 obtain ⟨b', o', e, hs⟩ := h.s hn; rw [hA] at e
 injection e with e
 injection e with e1 e2
 subst e1; exact hs
theorem fl_len {α : Type} (f : α → List Value) (m : Nat) (hm : ∀ x, (f x).length = m) (l : List α) : (l.flatMap f).length = l.length * m := by
 induction l with
 | nil => simp
 | cons x l ih => rw [List.flatMap_cons, List.length_append, ih, hm, List.length_cons, Nat.add_mul]; omega
def ext (S : Nat → Prop) (w w' : World) : Nat → Prop := fun g => S g ∨ (w.heap.size ≤ g ∧ g < w'.heap.size)
def Stm (es : List MapEntry) (clock : Nat) : Prop := (es.map (·.born)).Nodup ∧ ∀ e ∈ es, e.born < clock
def MapAt (w : World) (b : Nat) (m : List (Int × Value)) : Prop := ∃ es clock, w.heap[b]? = some (.map es clock) ∧ es.toList.map (fun e => (e.key, e.val)) = m.map (fun p => (Value.int .i64 p.1, p.2)) ∧ Stm es.toList clock
def MapE (w : World) (b : Nat) (m : List (Int × Value)) (k : Int) (s : Nat) : Prop := ∃ es clock j, w.heap[b]? = some (.map es clock) ∧ Stm es.toList clock ∧ (es[j]?.map fun e => (e.born, e.key)) = some (s, .int .i64 k) ∧
 ∀ v : Value, (es.toList.map fun e => (e.key, e.val)).set j (.int .i64 k, v) = ((match m.findIdx? (fun p => k == p.1) with | some j => m.set j (k, v) | none => m ++ [(k, v)]) : List (Int × Value)).map (fun p => (Value.int .i64 p.1, p.2))
theorem MapAt.lt {w : World} {b : Nat} {m : List (Int × Value)} (h : MapAt w b m) : b < w.heap.size := by
 obtain ⟨es, clock, h1, _⟩ := h; exact (Array.getElem?_eq_some_iff.1 h1).1
theorem MapAt.to {w w' : World} {b : Nat} {m : List (Int × Value)} (h : MapAt w b m) (hb : w'.heap[b]? = w.heap[b]?) : MapAt w' b m := by
 obtain ⟨es, clock, h1, h2⟩ := h; exact ⟨es, clock, hb.trans h1, h2⟩
theorem MapE.lt {w : World} {b : Nat} {m : List (Int × Value)} {k : Int} {s : Nat} (h : MapE w b m k s) : b < w.heap.size := by
 obtain ⟨es, clock, _, h1, _⟩ := h; exact (Array.getElem?_eq_some_iff.1 h1).1
theorem MapE.to {w w' : World} {b : Nat} {m : List (Int × Value)} {k : Int} {s : Nat} (h : MapE w b m k s) (hb : w'.heap[b]? = w.heap[b]?) : MapE w' b m k s := by
 obtain ⟨es, clock, j, h1, h2⟩ := h; exact ⟨es, clock, j, hb.trans h1, h2⟩
inductive Ik where
 | blk (g : Nat) (t : TypeId) (cs : Array Value)
 | mp (b : Nat) (m : List (Int × Value))
 | me (b : Nat) (m : List (Int × Value)) (k : Int) (s : Nat)
 | own (e : TypeId) (m : Nat) (v : Value) (k : Nat) (xs : List Value)
 | dat (p : (Nat → Prop) → World → Prop)
 | ob (g : Nat) (o : Obj)
def Ik.at : Ik → Option Nat
 | .blk g _ _ => some g
 | .mp b _ => some b
 | .me b _ _ _ => some b
 | .own _ _ v _ _ => v.ownBlock
 | .dat _ => none
 | .ob g _ => some g
def Ik.ok (B : Nat) (S : Nat → Prop) (w : World) : Ik → Prop
 | .blk g t cs => B ≤ g ∧ ¬ S g ∧ Blk w g t cs
 | .mp b m => B ≤ b ∧ ¬ S b ∧ MapAt w b m
 | .me b m k s => B ≤ b ∧ ¬ S b ∧ MapE w b m k s
 | .own e m v k xs => (∃ b, B ≤ b ∧ w.ownsRow b e m v k xs) ∧ ∀ g, v.ownBlock = some g → ¬ S g
 | .dat p => ∀ (S' : Nat → Prop) (W : World), (∀ g, S g → S' g) → Ag S w W → p S' W
 | .ob g o => B ≤ g ∧ ¬ S g ∧ w.heap[g]? = some o
def Apt (x y : Ik) : Prop := ∀ g, x.at = some g → y.at ≠ some g
theorem Apt.symm {x y : Ik} (h : Apt x y) : Apt y x := fun g hy hx => h g hx hy
structure Es (S0 : Nat → Prop) (w0 w : World) (S : Nat → Prop) (l : List Ik) : Prop where
 b : Below w0.heap.size w0 w
 e : ∀ g, S g → S0 g ∨ w0.heap.size ≤ g
 lt : ∀ g, S g → g < w.heap.size
 k : ∀ y ∈ l, y.ok w0.heap.size S w
 p : l.Pairwise Apt
section
variable {S0 S : Nat → Prop} {w0 w w' : World} {l l' : List Ik}
theorem Ik.ok.lt {B : Nat} {y : Ik} (h : y.ok B S w) {g : Nat} (hg : y.at = some g) : B ≤ g ∧ g < w.heap.size := by
 cases y with
 | blk g' t cs => simp only [Ik.at, Option.some.injEq] at hg; subst hg; exact ⟨h.1, h.2.2.lt⟩
 | mp b m => simp only [Ik.at, Option.some.injEq] at hg; subst hg; exact ⟨h.1, h.2.2.lt⟩
 | me b m k s => simp only [Ik.at, Option.some.injEq] at hg; subst hg; exact ⟨h.1, h.2.2.lt⟩
 | own e m v k xs => obtain ⟨⟨b, hb, hr⟩, _⟩ := h; have := own_lt hr hg; exact ⟨by omega, this.2⟩
 | dat p => cases hg
 | ob g' o => simp only [Ik.at, Option.some.injEq] at hg; subst hg; exact ⟨h.1, (Array.getElem?_eq_some_iff.1 h.2.2).1⟩
theorem Ik.ok.notin {B : Nat} {y : Ik} (h : y.ok B S w) {g : Nat} (hg : y.at = some g) : ¬ S g := by
 cases y with
 | blk g' t cs => simp only [Ik.at, Option.some.injEq] at hg; subst hg; exact h.2.1
 | mp b m => simp only [Ik.at, Option.some.injEq] at hg; subst hg; exact h.2.1
 | me b m k s => simp only [Ik.at, Option.some.injEq] at hg; subst hg; exact h.2.1
 | own e m v k xs => exact h.2 g hg
 | dat p => cases hg
 | ob g' o => simp only [Ik.at, Option.some.injEq] at hg; subst hg; exact h.2.1
theorem Ik.ok.to {B : Nat} {S' : Nat → Prop} {y : Ik} (h : y.ok B S w) (hS : ∀ g, S g → S' g) (hn : ∀ g, y.at = some g → ¬ S' g) (hA : Ag S w w') (hb : ∀ g, y.at = some g → w'.heap[g]? = w.heap[g]?) : y.ok B S' w' := by
 cases y with
 | blk g t cs => exact ⟨h.1, hn g rfl, (hb g rfl).trans h.2.2⟩
 | mp b m => exact ⟨h.1, hn b rfl, h.2.2.to (hb b rfl)⟩
 | me b m k s => exact ⟨h.1, hn b rfl, h.2.2.to (hb b rfl)⟩
 | own e m v k xs => obtain ⟨⟨b, hb', hr⟩, _⟩ := h; exact ⟨⟨b, hb', own_keep hr hb⟩, hn⟩
 | dat p => exact fun S'' W h1 h2 => h S'' W (fun g hg => h1 g (hS g hg)) (hA.trans (h2.mono hS))
 | ob g o => exact ⟨h.1, hn g rfl, (hb g rfl).trans h.2.2⟩
theorem Es.start {w : World} (hS : ∀ g, S g → g < w.heap.size) : Es S w w S [] := ⟨Below.refl _ _, fun _ h => .inl h, hS, fun _ h => absurd h List.not_mem_nil, .nil⟩
theorem Es.ag (h : Es S0 w0 w S l) (hb : Below w.heap.size w w') : Ag S w w' := Ag.below hb h.lt
theorem Es.get (h : Es S0 w0 w S l) (i : Nat) {p : (Nat → Prop) → World → Prop} (hi : l[i]? = some (.dat p)) : p S w := h.k _ (List.mem_of_getElem? hi) S w (fun _ h => h) (Ag.refl _ _)
theorem Es.get' (h : Es S0 w0 w S l) (i : Nat) {p : (Nat → Prop) → World → Prop} (hi : l[i]? = some (.dat p)) {S' : Nat → Prop} (hs : ∀ g, S g → S' g) : p S' w := h.k _ (List.mem_of_getElem? hi) S' w hs (Ag.refl _ _)
theorem Es.sub (h : Es S0 w0 w S l) : ∀ g, S g → ext S0 w0 w g := fun g hg => by
 rcases h.e g hg with h1 | h1
 ·exact .inl h1
 ·exact .inr ⟨h1, h.lt g hg⟩
theorem Es.out (h : Es S0 w0 w S l) (i : Nat) {p : (Nat → Prop) → World → Prop} (hi : l[i]? = some (.dat p)) : p (ext S0 w0 w) w := h.get' i hi h.sub
theorem Es.blk (h : Es S0 w0 w S l) (i : Nat) {g : Nat} {t : TypeId} {cs : Array Value} (hi : l[i]? = some (.blk g t cs)) : Blk w g t cs := (h.k _ (List.mem_of_getElem? hi)).2.2
theorem Es.row (h : Es S0 w0 w S l) (i : Nat) {e : TypeId} {m k : Nat} {v : Value} {xs : List Value} (hi : l[i]? = some (.own e m v k xs)) : ∃ b, w0.heap.size ≤ b ∧ w.ownsRow b e m v k xs := (h.k _ (List.mem_of_getElem? hi)).1
theorem Es.rd (h : Es S0 w0 w S l) (i : Nat) {e : TypeId} {m k c : Nat} {A : Option Addr} {xs : List Value} (hi : l[i]? = some (.own e m (.slice A k c) k xs)) : Rd w A xs := by
 obtain ⟨b, _, hr⟩ := h.row i hi; exact Rd.of_own hr
theorem Es.rdAll (h : Es S0 w0 w S l) (i : Nat) {e : TypeId} {m k c : Nat} {A : Option Addr} {xs : List Value} (hi : l[i]? = some (.own e m (.slice A k c) k xs)) : RowS (fun g => g < w.heap.size) w A xs := by
 refine ⟨h.rd i hi, fun hn => ?_⟩; obtain ⟨b, o, e, hb, _⟩ := h.rd i hi hn; exact ⟨b, o, e, hb⟩
theorem Es.blkAll (h : Es S0 w0 w S l) (i : Nat) {g : Nat} {t : TypeId} {cs : Array Value} (hi : l[i]? = some (.blk g t cs)) : RowS (fun g => g < w.heap.size) w (some ⟨g, 0, none⟩) cs.toList :=
 ⟨Rd.of_blk (h.blk i hi), fun _ => ⟨g, 0, rfl, (h.blk i hi).lt⟩⟩
theorem Es.dat (h : Es S0 w0 w S l) {p : (Nat → Prop) → World → Prop} (hp : ∀ (S' : Nat → Prop) (W : World), (∀ g, S g → S' g) → Ag S w W → p S' W) : Es S0 w0 w S (.dat p :: l) :=
 ⟨h.b, h.e, h.lt, fun y hy => by rcases List.mem_cons.1 hy with rfl | hy; exact hp; exact h.k y hy, List.pairwise_cons.2 ⟨fun _ _ _ hg => (by cases hg), h.p⟩⟩
theorem Es.from_ (h : Es S0 w0 w S l) (i : Nat) {p q : (Nat → Prop) → World → Prop} (hi : l[i]? = some (.dat q)) (hp : ∀ S' W, q S' W → p S' W) : Es S0 w0 w S (.dat p :: l) :=
 h.dat fun S' W h1 h2 => hp S' W (h.k _ (List.mem_of_getElem? hi) S' W h1 h2)
theorem Es.drop (h : Es S0 w0 w S l) (hs : List.Sublist l' l) : Es S0 w0 w S l' := ⟨h.b, h.e, h.lt, fun y hy => h.k y (hs.subset hy), h.p.sublist hs⟩
def selL (l : List Ik) : List Nat → Option (List Ik)
 | [] => some []
 | i :: is => match l[i]?, selL l is with
  | some x, some r => some (x :: r)
  | _, _ => none
def noIn (i : Nat) : List Nat → Bool
 | [] => true
 | j :: is => !(Nat.beq i j) && noIn i is
def ndB : List Nat → Bool
 | [] => true
 | i :: is => noIn i is && ndB is
theorem noIn_ne {i : Nat} : ∀ {is : List Nat}, noIn i is = true → ∀ j ∈ is, i ≠ j
 | k :: is, h, j, hj, e => by
  simp only [noIn, Bool.and_eq_true, Bool.not_eq_true'] at h; rcases List.mem_cons.1 hj with rfl | hj
  ·subst e; simp at h
  ·exact noIn_ne h.2 j hj e
theorem selL_mem {l : List Ik} : ∀ {is : List Nat} {r : List Ik}, selL l is = some r → ∀ y ∈ r, ∃ i ∈ is, l[i]? = some y
 | [], r, h, y, hy => by simp only [selL, Option.some.injEq] at h; subst h; cases hy
 | i :: is, r, h, y, hy => by
  unfold selL at h
  split at h
  ·next x r' hx hr' =>
   simp only [Option.some.injEq] at h; subst h; rcases List.mem_cons.1 hy with rfl | hy
   ·exact ⟨i, List.mem_cons_self, hx⟩
   ·obtain ⟨j, hj, e⟩ := selL_mem hr' y hy; exact ⟨j, List.mem_cons_of_mem _ hj, e⟩
  ·cases h
theorem apt_of {l : List Ik} (hp : l.Pairwise Apt) {i j : Nat} {x y : Ik} (hij : i ≠ j) (hx : l[i]? = some x) (hy : l[j]? = some y) : Apt x y := by
 have hpw := List.pairwise_iff_getElem.1 hp; obtain ⟨hi, rfl⟩ := List.getElem?_eq_some_iff.1 hx; obtain ⟨hj, rfl⟩ := List.getElem?_eq_some_iff.1 hy; rcases Nat.lt_or_gt_of_ne hij with h | h
 ·exact hpw i j hi hj h
 ·exact (hpw j i hj hi h).symm
theorem selL_pw {l : List Ik} (hp : l.Pairwise Apt) : ∀ {is : List Nat} {r : List Ik}, ndB is = true → selL l is = some r → r.Pairwise Apt
 | [], r, _, h => by simp only [selL, Option.some.injEq] at h; subst h; exact .nil
 | i :: is, r, hn, h => by
  unfold selL at h; simp only [ndB, Bool.and_eq_true] at hn
  split at h
  ·next x r' hx hr' =>
   simp only [Option.some.injEq] at h; subst h; refine List.pairwise_cons.2 ⟨fun y hy => ?_, selL_pw hp hn.2 hr'⟩; obtain ⟨j, hj, e⟩ := selL_mem hr' y hy; exact apt_of hp (noIn_ne hn.1 j hj) hx e
  ·cases h
theorem Es.sel (h : Es S0 w0 w S l) (is : List Nat) (hn : ndB is = true) (hl : selL l is = some l') : Es S0 w0 w S l' := by
 refine ⟨h.b, h.e, h.lt, fun y hy => ?_, selL_pw h.p hn hl⟩; obtain ⟨i, _, e⟩ := selL_mem hl y hy; exact h.k y (List.mem_of_getElem? e)
theorem Es.own0 (h : Es S0 w0 w S l) (e : TypeId) (m : Nat) : Es S0 w0 w S (.own e m (.slice none 0 0) 0 [] :: l) :=
 ⟨h.b, h.e, h.lt, fun y hy => by
  rcases List.mem_cons.1 hy with rfl | hy
  ·exact ⟨⟨w.heap.size, h.b.size, by simp, .inl ⟨rfl, rfl⟩⟩, fun g hg => (by cases hg)⟩
  ·exact h.k y hy, List.pairwise_cons.2 ⟨fun _ _ _ hg => (by cases hg), h.p⟩⟩
theorem Es.call (h : Es S0 w0 w S l) (hb : Below w.heap.size w w') : Es S0 w0 w' (ext S w w') l := by
 refine ⟨h.b.trans (hb.mono h.b.size), fun g hg => ?_, fun g hg => ?_, fun y hy => ?_, h.p⟩
 ·rcases hg with hg | ⟨hg, _⟩
  ·exact h.e g hg
  ·exact .inr (Nat.le_trans h.b.size hg)
 ·rcases hg with hg | ⟨_, hg⟩
  ·exact Nat.lt_of_lt_of_le (h.lt g hg) hb.size
  ·exact hg
 ·have hk := h.k y hy; refine hk.to (fun g hg => .inl hg) (fun g hg hs => ?_) (h.ag hb) (fun g hg => hb.block g (hk.lt hg).2); rcases hs with hs | ⟨hs, _⟩
  ·exact hk.notin hg hs
  ·have := (hk.lt hg).2; omega
theorem Es.same (h : Es S0 w0 w S l) (hb : Below w.heap.size w w') : Es S0 w0 w' S l := by
 refine ⟨h.b.trans (hb.mono h.b.size), h.e, fun g hg => Nat.lt_of_lt_of_le (h.lt g hg) hb.size, fun y hy => ?_, h.p⟩; have hk := h.k y hy; exact hk.to (fun g hg => hg) (fun g hg => hk.notin hg) (h.ag hb) (fun g hg => hb.block g (hk.lt hg).2)
theorem Es.drew (h : Es S0 w0 w S l) : Es S0 w0 w.drew S l := h.same (Below.refl _ _).drew
theorem Es.alloc (h : Es S0 w0 w S l) (cs : Array Value) (t : TypeId) : Es S0 w0 (w.alloc (.cells cs t)) S (.blk w.heap.size t cs :: l) := by
 have hb : Below w.heap.size w (w.alloc (.cells cs t)) := (Below.refl _ _).alloc (Nat.le_refl _) _; have h' := h.same hb; refine ⟨h'.b, h'.e, h'.lt, fun y hy => ?_, List.pairwise_cons.2 ⟨fun y hy g hg hg' => ?_, h.p⟩⟩
 ·rcases List.mem_cons.1 hy with rfl | hy
  ·exact ⟨h.b.size, fun hs => Nat.lt_irrefl _ (h.lt _ hs), Blk.new _ _ _⟩
  ·exact h'.k y hy
 ·simp only [Ik.at, Option.some.injEq] at hg; subst hg; have := ((h.k y hy).lt hg').2; omega
theorem Es.put {S' : Nat → Prop} (h : Es S0 w0 w S l) (i : Nat) {x y : Ik} (hi : l[i]? = some x) (hb : Below w0.heap.size w0 w') (hs : ∀ g, S g → S' g) (he : ∀ g, S' g → S g ∨ x.at = some g) (hsz : w.heap.size ≤ w'.heap.size)
  (hy : y.ok w0.heap.size S' w') (hx : ∀ g, y.at = some g → x.at = some g ∨ w.heap.size ≤ g) (hk : ∀ g, g < w.heap.size → x.at ≠ some g → w'.heap[g]? = w.heap[g]?) : Es S0 w0 w' S' (l.set i y) := by
 have hxok := h.k _ (List.mem_of_getElem? hi); have hA : Ag S w w' := ⟨hsz, fun g hg => hk g (h.lt g hg) (fun e => hxok.notin e hg)⟩; have hil : i < l.length := (List.getElem?_eq_some_iff.1 hi).1; have hpw := List.pairwise_iff_getElem.1 h.p; have hxi : l[i] = x := (List.getElem?_eq_some_iff.1 hi).2; have apt : ∀ j (hj : j < l.length), j ≠ i → Apt x l[j] := fun j hj hji => by
  rcases Nat.lt_or_gt_of_ne hji with h1 | h1
  ·have := hpw j i hj hil h1; rw [hxi] at this; exact this.symm
  ·have := hpw i j hil hj h1; rw [hxi] at this; exact this
 have apty : ∀ j (hj : j < l.length), j ≠ i → Apt y l[j] := fun j hj hji g hg hg' => by
  rcases hx g hg with h1 | h1
  ·exact apt j hj hji g h1 hg'
  ·have := ((h.k _ (List.getElem_mem hj)).lt hg').2; omega
 refine ⟨hb, fun g hg => ?_, fun g hg => ?_, fun z hz => ?_, List.pairwise_iff_getElem.2 fun a b ha hb' hab => ?_⟩
 ·rcases he g hg with h1 | h1
  ·exact h.e g h1
  ·exact .inr (hxok.lt h1).1
 ·rcases he g hg with h1 | h1
  ·exact Nat.lt_of_lt_of_le (h.lt g h1) hsz
  ·exact Nat.lt_of_lt_of_le (hxok.lt h1).2 hsz
 ·obtain ⟨j, hj, rfl⟩ := List.mem_iff_getElem.1 hz; rw [List.length_set] at hj; rw [List.getElem_set]
  split
  ·exact hy
  ·next hne =>
   have hz' := h.k _ (List.getElem_mem hj); have ha := apt j hj (fun e => hne e.symm); refine hz'.to hs (fun g hg hs' => ?_) hA (fun g hg => hk g (hz'.lt hg).2 (fun e => ha g e hg)); rcases he g hs' with h1 | h1
   ·exact hz'.notin hg h1
   ·exact ha g h1 hg
 ·rw [List.length_set] at ha hb'; rw [List.getElem_set, List.getElem_set]
  split
  ·next e1 =>
   rw [if_neg (by omega)]; exact apty b hb' (by omega)
  ·next e1 =>
   split
   ·next e2 => exact (apty a ha (by omega)).symm
   ·exact hpw a b ha hb' hab
theorem Es.store (h : Es S0 w0 w S l) {g : Nat} {t : TypeId} {cs : Array Value} (i : Nat) (hi : l[i]? = some (.blk g t cs)) (ivs : List (Nat × Value))
  (hb : Blk (stsW w (ivs.map fun p => (⟨g, p.1, none⟩, p.2))) g t (sets cs ivs)) : Es S0 w0 (stsW w (ivs.map fun p => (⟨g, p.1, none⟩, p.2))) S (l.set i (.blk g t (sets cs ivs))) := by
 have ho := stsW_other (g := g) ivs (w := w); have hok := h.k _ (List.mem_of_getElem? hi); exact h.put i hi (h.b.trans (ho.2.2.mono hok.1)) (fun _ h => h) (fun _ h => .inl h) (Nat.le_of_eq ho.1.symm) ⟨hok.1, hok.2.1, hb⟩ (fun _ h => .inl h) (fun k _ hne => ho.2.1 k (fun e => hne (by simp [Ik.at, e])))
theorem Es.grow (h : Es S0 w0 w S l) {v u : Value} {i k j m : Nat} {e : TypeId} {xs ys : List Value} (hg : w.grownBy w' u.ownBlock) (hv : v.ownBlock = u.ownBlock ∨ v.ownBlock = some w.heap.size) (hn : ∀ b, w.ownsRow b e m u j ys → b ≤ w.heap.size → w'.ownsRow b e m v k xs)
  (hi : l[i]? = some (.own e m u j ys)) : Es S0 w0 w' S (l.set i (.own e m v k xs)) := by
 obtain ⟨⟨b, hb, hr⟩, hns⟩ := h.k _ (List.mem_of_getElem? hi); have hb0 : ∃ b, w0.heap.size ≤ b ∧ b ≤ w.heap.size ∧ w.ownsRow b e m u j ys := by
  rcases Nat.le_total b w.heap.size with h1 | h1
  ·exact ⟨b, hb, h1, hr⟩
  ·rcases hr.2 with ⟨h2, h3⟩ | ⟨g, cap, cur, h2, h3, h4, h5⟩
   ·exact ⟨w.heap.size, h.b.size, Nat.le_refl _, hr.1, .inl ⟨h2, h3⟩⟩
   ·have := (Array.getElem?_eq_some_iff.1 h4).1; exact ⟨b, hb, by omega, hr⟩
 obtain ⟨b, hb, hbw, hr⟩ := hb0; refine h.put i hi (h.b.grown hg h.b.size (fun k hk => Nat.le_trans hb (own_lt hr hk).1)) (fun _ h => h) (fun _ h => .inl h) hg.size ⟨⟨b, hb, hn b hr hbw⟩, fun g hg' => ?_⟩ (fun g hg' => ?_) (fun k hk hne => hg.block k hk (fun e => hne e.symm))
 ·rcases hv with e | e
  ·rw [e] at hg'; exact hns g hg'
  ·rw [e] at hg'; injection hg' with hg'; subst hg'; exact fun hs => Nat.lt_irrefl _ (h.lt _ hs)
 ·simp only [Ik.at] at hg' ⊢; rcases hv with e | e
  ·rw [e] at hg'; exact .inl hg'
  ·rw [e] at hg'; injection hg' with hg'; exact .inr (Nat.le_of_eq hg')
theorem Es.own (h : Es S0 w0 w S l) (i m k : Nat) {g : Nat} {t : TypeId} {cs : Array Value} (hi : l[i]? = some (.blk g t cs)) (hs : cs.size = k * m) (hk : k ≤ maxLen) : Es S0 w0 w S (l.set i (.own t m (.slice (some ⟨g, 0, none⟩) k k) k cs.toList)) := by
 have hok := h.k _ (List.mem_of_getElem? hi); refine h.put i hi h.b (fun _ h => h) (fun _ h => .inl h) (Nat.le_refl _) ⟨⟨g, hok.1, by simp [hs], .inr ⟨g, k, cs, rfl, Nat.le_refl _, hok.2.2, Nat.le_refl _, hk, hs, ?_⟩⟩, fun g' hg' => ?_⟩ (fun g' hg' => .inl ?_) (fun _ _ _ => rfl)
 ·rw [List.take_of_length_le (by simp [hs])]
 ·simp only [Value.ownBlock, Option.some.injEq] at hg'; subst hg'; exact hok.2.1
 ·exact hg'
theorem Es.elem (h : Es S0 w0 w S l) (i : Nat) {α : Type} {f : α → List Value} {m : Nat} {A : Option Addr} {L : List α} (hi : l[i]? = some (.dat fun S W => RowS S W A (L.flatMap f))) (hm : ∀ x, (f x).length = m) (h0 : 0 < m) {j : Nat} {x : α} (hx : L[j]? = some x) :
  ∃ b o, A = some ⟨b, o, none⟩ ∧ Es S0 w0 w S (.dat (fun S W => RecS S W b (o + j * m) (f x)) :: l) := by
 obtain ⟨b, o, hA, _⟩ := (h.get i hi).elem hm h0 hx; refine ⟨b, o, hA, h.from_ i hi fun S' W hq => ?_⟩; obtain ⟨b', o', hA', hr⟩ := hq.elem hm h0 hx; rw [hA] at hA'
 injection hA' with e
 injection e with e1 e2
 subst e1 e2; exact hr
end
section
variable {n : Nat} {K : List (Nat × Value)} {a : Act} {P : Program} {S0 S : Nat → Prop} {w0 w : World} {ops : Array Oper} {Q : Exit → Act → World → Prop} {o : Oper} {rest : List Oper} {d : Nat} {v v' : Value} {l l' : List Ik}
def setsL (cs : List Value) (l : List (Nat × Value)) : List Value := l.foldl (fun cs p => cs.set p.1 p.2) cs
theorem sets_eq : ∀ (ivs : List (Nat × Value)) (cs : Array Value), (sets cs ivs).toList = setsL cs.toList ivs
 | [], _ => rfl
 | p :: l, cs => by
  show (sets (cs.setIfInBounds p.1 p.2) l).toList = setsL (cs.toList.set p.1 p.2) l
  rw [sets_eq l, Array.toList_setIfInBounds]
theorem sets_lit {cs cs' : Array Value} {ivs : List (Nat × Value)} (h : setsL cs.toList ivs = cs'.toList) : sets cs ivs = cs' := Array.ext' ((sets_eq ivs cs).trans h)
def ltAll (n : Nat) : List (Nat × Value) → Bool
 | [] => true
 | p :: l => Nat.blt p.1 n && ltAll n l
theorem ltAll_all {n : Nat} : ∀ {l : List (Nat × Value)}, ltAll n l = true → l.all (fun p => Nat.blt p.1 n) = true
 | [], _ => rfl
 | p :: l, h => by simp only [ltAll, Bool.and_eq_true] at h; simp only [List.all_cons, Bool.and_eq_true]; exact ⟨h.1, ltAll_all h.2⟩
theorem run_append_es {P : Program} {T e : TypeId} {ti : TypeInfo} {z : Value} {m bytes k mm c i : Nat} {A : Option Addr} {ys news : List Value} {ty : TypeId} (hT : P.underlying T = some (.slice e)) (hti : P.info? e = some ti) (hz : ti.zero = some z) (hsz : ti.size = m) (hby : ti.bytes = bytes) (hzs : z.cells.size = m) (hm0 : 0 < m)
  (hE : Es S0 w0 w S l) (hi : l[i]? = some (.own e m v k ys)) (hl : news.length = mm * m) (hr : Rd w A news) (h1 : ∀ u ∈ news, u.oneCell' = true) (h63 : k + mm ≤ maxLen) (hbytes : (k + mm) * bytes ≤ 140737488355328) :
  ∃ A' c' w', (Builtin.append_ #[T, T] ty #[v, .slice A mm c]).run P w = .ok (.slice A' (k + mm) c') w' ∧ k + mm ≤ c' ∧ c' ≤ maxLen ∧ Es S0 w0 w' S (l.set i (.own e m (.slice A' (k + mm) c') (k + mm) (ys ++ news))) := by
 obtain ⟨b, hb, hrow⟩ := hE.row i hi; have hbs : ∃ b', b' ≤ w.heap.size ∧ w.ownsRow b' e m v k ys := by
  rcases Nat.le_total b w.heap.size with h | h
  ·exact ⟨b, h, hrow⟩
  ·rcases hrow.2 with ⟨h2, h3⟩ | ⟨g, cap, cur, hv, hg, hh, r⟩
   ·exact ⟨w.heap.size, Nat.le_refl _, hrow.1, .inl ⟨h2, h3⟩⟩
   ·have := (Array.getElem?_eq_some_iff.1 hh).1; exact ⟨b, by omega, hrow⟩
 have key : ∀ b, b ≤ w.heap.size → w.ownsRow b e m v k ys → ∃ v' w', (Builtin.append_ #[T, T] ty #[v, .slice A mm c]).run P w = .ok v' w' ∧ w'.ownsRow b e m v' (k + mm) (ys ++ news) ∧ w.grownBy w' v.ownBlock ∧ (v'.ownBlock = v.ownBlock ∨ v'.ownBlock = some w.heap.size) :=
  fun b hb h => run_append_rd (P := P) w b T ty e ti z m bytes hT hti hz hsz hby hzs hm0 v k ys h A mm c news hl hr h1 h63 hbytes hb
 obtain ⟨b, hbs, hrow⟩ := hbs; obtain ⟨v', w', hrun, ho, hgr, hv'⟩ := key b hbs hrow; obtain ⟨A', c', rfl, hc1, hc2, _⟩ := own_form ho; refine ⟨A', c', w', hrun, hc1, hc2, hE.grow hgr hv' (fun b' hb' hbs' => ?_) hi⟩; obtain ⟨v2, w2, hrun2, ho2, _, _⟩ := key b' hbs' hb'; rw [hrun] at hrun2
 injection hrun2 with e1 e2
 subst e1 e2; exact ho2
theorem Es.ownNew (h : Es S0 w0 w S l) {e : TypeId} {m k : Nat} {v : Value} {xs : List Value} {w' : World} (hg : w.grownBy w' none) (hv : v.ownBlock = none ∨ v.ownBlock = some w.heap.size) (hn : w'.ownsRow w.heap.size e m v k xs) : Es S0 w0 w' S (.own e m v k xs :: l) := by
 have hb : Below w.heap.size w w' := Below.of_grown hg; have h' := h.same hb; refine ⟨h'.b, h'.e, h'.lt, fun y hy => ?_, List.pairwise_cons.2 ⟨fun y hy g hg' hgy => ?_, h.p⟩⟩
 ·rcases List.mem_cons.1 hy with rfl | hy
  ·refine ⟨⟨w.heap.size, h.b.size, hn⟩, fun g hg' hs => ?_⟩; rcases hv with e | e
   ·rw [e] at hg'; cases hg'
   ·rw [e] at hg'; injection hg' with hg'; subst hg'; exact Nat.lt_irrefl _ (h.lt _ hs)
  ·exact h'.k y hy
 ·simp only [Ik.at] at hg'; rcases hv with e | e
  ·rw [e] at hg'; cases hg'
  ·rw [e] at hg'; injection hg' with hg'; subst hg'; have := ((h.k y hy).lt hgy).2; omega
variable {lk : List Ik}
variable {j : Nat} {Kx : Act → World → Prop}
theorem RowS.part {S : Nat → Prop} {A : Option Addr} {α : Type} {f : α → List Value} {m : Nat} {L : List α} (h : RowS S w A (L.flatMap f)) (hm : ∀ x, (f x).length = m) (p q : Nat) (hq : q ≤ L.length) : RowS S w (A.map (·.add (p * m))) (((L.take q).drop p).flatMap f) := by
 have e1 : L.flatMap f = (L.take p).flatMap f ++ ((L.drop p).take (q - p)).flatMap f ++ ((L.drop p).drop (q - p)).flatMap f := by
  rw [List.append_assoc, ← List.flatMap_append, List.take_append_drop, ← List.flatMap_append, List.take_append_drop]
 have e2 : (L.take q).drop p = (L.drop p).take (q - p) := by rw [List.drop_take]
 rcases Classical.em (((L.take q).drop p).flatMap f = []) with h0 | h0
 ·rw [h0]; exact RowS.nil _ _ _
 ·have hne : L.flatMap f ≠ [] := by
   intro e; rw [e2] at h0; rw [e1] at e; simp only [List.append_eq_nil_iff] at e; exact h0 e.1.2
  obtain ⟨b, o, hA, hs⟩ := h.s hne; subst hA; have hpl : p ≤ L.length := by
   rcases Nat.lt_or_ge L.length p with h1 | h1
   ·exact absurd (by rw [List.drop_eq_nil_of_le (by rw [List.length_take]; omega)]; rfl) h0
   ·exact h1
  have hlen : ((L.take p).flatMap f).length = p * m := by
   have : ∀ l : List α, (l.flatMap f).length = l.length * m := by
    intro l
    induction l with
    | nil => simp
    | cons x l ih => rw [List.flatMap_cons, List.length_append, hm, ih, List.length_cons, Nat.add_mul, Nat.one_mul, Nat.add_comm]
   rw [this, List.length_take, Nat.min_eq_left hpl]
  have hr := h.r; rw [e1, List.append_assoc] at hr; have hr2 := (Rd.shift hr).pre; rw [hlen] at hr2; simp only [Option.map_some, add_addr]; rw [e2]; exact ⟨hr2, fun _ => ⟨b, o + p * m, rfl, hs⟩⟩
theorem run_part {T e : TypeId} {i : TypeInfo} {A : Option Addr} {n c m p q : Nat} (lo hi : Option Value) (hT : P.underlying T = some (.slice e)) (hi' : P.info? e = some i) (hm : i.size = m) (hlo : (lo = none ∧ p = 0) ∨ (∃ k, lo = some (.int k (p : Int)))) (hhi : (hi = none ∧ q = n) ∨ (∃ k, hi = some (.int k (q : Int)))) (hpq : p ≤ q) (hqn : q ≤ n) (hnc : n ≤ c) (W : World) :
  (Instr.sliceAt T (.slice A n c) lo hi none).run P W = .ok (.slice (if c = p then A else A.map (·.add (p * m))) (q - p) (c - p)) W := by
 have hs : ∀ W, (sizeOf e).run P W = .ok m W := fun W => by simp [sizeOf, typeInfo, hi', hm, run_program]
 have h1 : (p : Int) ≤ q := by omega
 have h2 : (q : Int) ≤ c := by omega
 have h3 : (p : Int) ≤ n := by omega
 rcases hlo with ⟨rfl, rfl⟩ | ⟨k, rfl⟩ <;> rcases hhi with ⟨rfl, rfl⟩ | ⟨k', rfl⟩ <;> simp [Instr.sliceAt, Instr.slice, run_underlying hT, Instr.sliceBounds, run_sliceBound, hs, h1, h2, h3]
theorem ex_part {T e : TypeId} {i : TypeInfo} {A : Option Addr} {n c m p q : Nat} {α : Type} {f : α → List Value} {L r : List α} (hfm : ∀ x, (f x).length = m) (hpq : p ≤ q) (hqn : q ≤ L.length) (hr : r = (L.take q).drop p) (hn : n = L.length) (hnc : L.length ≤ c)
  (hT : P.underlying T = some (.slice e)) (hi' : P.info? e = some i) (hm : i.size = m) :
  ∃ A' c', (∀ (o : Oper) (ρ : Operand → Value) (x : Operand) (lo hi : Option Operand), o.op = .slice T x lo hi none → ρ x = .slice A n c → ((lo = none ∧ p = 0) ∨ (∃ y k, lo = some y ∧ ρ y = .int k (p : Int))) → ((hi = none ∧ q = n) ∨ (∃ y k, hi = some y ∧ ρ y = .int k (q : Int))) → ∀ W, (execOp ρ o).run P W = .ok (.value (.slice A' r.length c')) W) ∧ r.length ≤ c' ∧ ∀ (S : Nat → Prop) (w : World), RowS S w A (L.flatMap f) → RowS S w A' (r.flatMap f) := by
 subst hn; have hrl : r.length = q - p := by rw [hr, List.length_drop, List.length_take]; omega
 refine ⟨if c = p then A else A.map (·.add (p * m)), c - p, fun o ρ x lo hi hop hx hlo hhi W => ?_, by omega, fun S w hrow => ?_⟩
 ·have h1 : execOp ρ o = (do pure (.value (← Instr.sliceAt T (ρ x) (lo.map ρ) (hi.map ρ) none))) := by unfold execOp; rw [hop]; rfl
  rw [h1, hx, hrl]; refine run_v (run_part (p := p) (q := q) (n := L.length) _ _ hT hi' hm ?_ ?_ hpq hqn hnc W)
  ·rcases hlo with ⟨rfl, h⟩ | ⟨y, k, rfl, h⟩
   ·exact .inl ⟨rfl, h⟩
   ·exact .inr ⟨k, by rw [Option.map_some, h]⟩
  ·rcases hhi with ⟨rfl, h⟩ | ⟨y, k, rfl, h⟩
   ·exact .inl ⟨rfl, h⟩
   ·exact .inr ⟨k, by rw [Option.map_some, h]⟩
 ·subst hr
  split
  ·next hcp =>
   have : (L.take q).drop p = [] := List.drop_eq_nil_of_le (by rw [List.length_take]; omega); rw [this]; exact RowS.nil _ _ _
  ·exact hrow.part hfm p q hqn
theorem seq_join1 {x y : Code} (J : Act → World → Prop) (h1 : x.wp P (Exit.then J Q) a w) (h2 : ∀ a w, J a w → y.wp P Q a w) : (Code.seq x y).wp P Q a w := by
 refine wp_seq (wp_mono h1 fun e a w h => ?_); cases e with
 | normal => exact h2 a w h
 | _ => exact h
end
def c_i64 (x : Int) : List Value := [.int .i64 x]
theorem one_i64 (l : List Int) : ∀ u ∈ l.flatMap c_i64, u.oneCell' = true := by
 intro u hu; obtain ⟨x, _, hx⟩ := List.mem_flatMap.1 hu; simp only [c_i64, List.mem_cons, List.not_mem_nil, or_false] at hx; subst hx; rfl
def c_u8 (x : Int) : List Value := [.int .u8 x]
theorem one_u8 (l : List Int) : ∀ u ∈ l.flatMap c_u8, u.oneCell' = true := by
 intro u hu; obtain ⟨x, _, hx⟩ := List.mem_flatMap.1 hu; simp only [c_u8, List.mem_cons, List.not_mem_nil, or_false] at hx; subst hx; rfl
def c_u32 (x : Int) : List Value := [.int .u32 x]
def c_bool (x : Bool) : List Value := [.bool x]
end Go.Proofs.Ytlfkgbideknkhaa
namespace Go.Proofs.Ytlfkgbideknkhaa
open Go.RowKit
def Tb (_ : World) : Prop := True
theorem Tb.to {w w' : World} (_ : Tb w) (_ : Below w.heap.size w w') : Tb w' := trivial
end Go.Proofs.Ytlfkgbideknkhaa
namespace Go.Proofs.Ytlfkgbideknkhaa
open Go.RowKit
abbrev I (x : Int) : Value := .int .i64 x
abbrev U (x : Int) : Value := .int .u64 x
abbrev Y (x : Int) : Value := .int .u8 x
abbrev B (b : Bool) : Value := .bool b
abbrev Pt (b o : Nat) : Value := .pointer (some ⟨b, o, none⟩)
abbrev Sb (g n c : Nat) : Value := .slice (some ⟨g, 0, none⟩) n c
abbrev vs2 (g o n c : Nat) : Value := .slice (some ⟨g, o, none⟩) n c
inductive Iz where
 | blk (g : Nat) (t : TypeId) (cs : List Value)
 | mp (b : Nat) (m : List (Int × Value))
 | me (b : Nat) (m : List (Int × Value)) (k : Int) (s : Nat)
 | own (e : TypeId) (m : Nat) (v : Value) (k : Nat) (xs : List Value)
 | rc (b o : Nat) (cs : List Value)
 | dat (p : (Nat → Prop) → World → Prop)
 | ob (g : Nat) (o : Obj)
def Iz.ik : Iz → Ik
 | .blk g t cs => .blk g t ⟨cs⟩
 | .mp b m => .mp b m
 | .me b m k s => .me b m k s
 | .own e m v k xs => .own e m v k xs
 | .rc b o cs => .dat fun S W => RecS S W b o cs
 | .dat p => .dat p
 | .ob g o => .ob g o
def Ez (S0 : Nat → Prop) (w0 w : World) (S : Nat → Prop) (E : List Iz) : Prop := Es S0 w0 w S (E.map Iz.ik)
def Ge [DSc] (S0 : Nat → Prop) (w0 : World) (n : Nat) (K : List (Nat × Value)) (E : List Iz) (X : Act → World → Prop) : Prop :=
 ∀ a w S, Kn n K a → Ez S0 w0 w S E → X a w
section
variable {S0 S : Nat → Prop} {w0 w w' : World} {n : Nat} {K K' : List (Nat × Value)} {E E' : List Iz} {X : Act → World → Prop} {P : Program} {ops : Array Oper} {Q : Exit → Act → World → Prop} {o : Oper} {L : List Oper} {v v' : Value}
theorem Ez.at (h : Ez S0 w0 w S E) {i : Nat} {x : Iz} (hi : E[i]? = some x) : (E.map Iz.ik)[i]? = some x.ik := by rw [List.getElem?_map, hi]; rfl
theorem Ez.blk (h : Ez S0 w0 w S E) {i g : Nat} {t : TypeId} {cs : List Value} (hi : E[i]? = some (.blk g t cs)) : Blk w g t ⟨cs⟩ := Es.blk h i (h.at hi)
theorem Ez.get (h : Ez S0 w0 w S E) {i : Nat} {p : (Nat → Prop) → World → Prop} (hi : E[i]? = some (.dat p)) : p S w := Es.get h i (h.at hi)
theorem Ez.rec (h : Ez S0 w0 w S E) {i b o : Nat} {cs : List Value} (hi : E[i]? = some (.rc b o cs)) : RecS S w b o cs := Es.get h i (h.at hi)
def cutA (b : Nat) : Nat → List Value → List (Addr × Value)
 | _, [] => []
 | o, v :: l => (⟨b, o, none⟩, v) :: cutA b (o + 1) l
def rvals (E : List Iz) (h : Nat × Nat × Nat) : List (Addr × Value) := match E[h.1]? with
 | some (.blk g _ cs) => cutA g h.2.1 ((cs.drop h.2.1).take h.2.2)
 | some (.rc b o cs) => cutA b (o + h.2.1) ((cs.drop h.2.1).take h.2.2)
 | _ => []
theorem cutA_obs {b : Nat} : ∀ {l : List Value} {o : Nat}, (∀ j v, l[j]? = some v → w.cell? ⟨b, o + j, none⟩ = some v) → Obs w (cutA b o l)
 | [], _, _ => trivial
 | v :: l, o, h => ⟨h 0 v rfl, cutA_obs fun j u hu => by have := h (j + 1) u (by simpa using hu); rw [show o + 1 + j = o + (j + 1) by omega]; exact this⟩
theorem part_get {cs : List Value} {k m j : Nat} {v : Value} (h : ((cs.drop k).take m)[j]? = some v) : cs[k + j]? = some v := by
 rw [List.getElem?_take] at h
 split at h
 ·rwa [List.getElem?_drop] at h
 ·cases h
theorem rvals_obs (h : Ez S0 w0 w S E) (x : Nat × Nat × Nat) : Obs w (rvals E x) := by
 unfold rvals
 split
 ·next g t cs hi =>
  refine cutA_obs fun j v hv => ?_
  have hb := h.blk hi; rw [hb.cell]
  simpa using part_get hv
 ·next b o cs hi =>
  refine cutA_obs fun j v hv => ?_
  have := (h.rec hi).r _ v (part_get hv); rw [show o + x.2.1 + j = o + (x.2.1 + j) by omega]; exact this
 ·trivial
theorem Obs.app : ∀ {x y : List (Addr × Value)}, Obs w x → Obs w y → Obs w (x ++ y)
 | [], _, _, h => h
 | _ :: _, _, h1, h2 => ⟨h1.1, Obs.app h1.2 h2⟩
theorem Obs.left : ∀ {x y : List (Addr × Value)}, Obs w (x ++ y) → Obs w x
 | [], _, _ => trivial
 | _ :: _, _, h => ⟨h.1, Obs.left h.2⟩
theorem Obs.right : ∀ {x y : List (Addr × Value)}, Obs w (x ++ y) → Obs w y
 | [], _, h => h
 | _ :: _, _, h => Obs.right (x := _) h.2
abbrev Fct := Sem Value × Value
def semOf (P : Program) (ρ : Operand → Value) (o : Oper) : Option (Sem Value) := match o.op with
 | .binOp op xType x y _ => match sx P (eqGuard op xType x y (ρ x) (ρ y)) [] with
  | some (_, []) => some (binOp op xType (ρ x) (ρ y))
  | _ => none
 | .slice t x lo hi mx => some (Instr.sliceAt t (ρ x) (lo.map ρ) (hi.map ρ) (mx.map ρ))
 | .indexAddr t x ix => some (Instr.indexAt t (ρ x) (ρ ix))
 | .index xType x ix => some (Instr.index xType (ρ x) (ρ ix))
 | .convert src dst x => some (convert src dst (ρ x))
 | _ => none
theorem semOf_run {ρ : Operand → Value} {s : Sem Value} {r : Value} {W : World} (h : semOf P ρ o = some s) (hr : s.run P W = .ok r W) : (execOp ρ o).run P W = .ok (.value r) W := by
 unfold semOf at h; unfold execOp
 split at h
 ·rename_i he
  rw [he]
  split at h
  ·next u hg =>
   injection h with h
   subst h; refine run_v ?_; rw [Sem.run_bind, sx_run _ hg trivial]; exact hr
  ·cases h
 all_goals first | cases h; done | (rename_i he; rw [he]; injection h with h; subst h; exact run_v hr)
def dec : List (Nat × Nat × Nat × Nat) → List (Nat × Nat × Nat × Nat)
 | [] => []
 | h :: hs => (h.1 - 1, h.2) :: hs
def one (P : Program) (ops : Array Oper) (E : List Iz) (J : Nat → Value) (K : List (Nat × Value)) (o : Oper) (hs : List (Nat × Nat × Nat × Nat)) (fs : List Fct) : Option (Value × List (Nat × Nat × Nat × Nat) × List Fct × List (Addr × Value) × List Fct) :=
 match gd ops K o with
 | none => none
 | some false => some (undef, dec hs, fs, [], [])
 | some true => match hs with
  | (0, 0, _) :: hs' => match fs with
   | [] => none
   | f :: fs' => match semOf P (rho K J) o with
    | none => none
    | some s => some (f.2, hs', fs', [], [(s, f.2)])
  | (0, m + 1, i, k) :: hs' => match sx P (execOp (rho K J) o) ((rvals E (i, k, m + 1)).map (·.2)) with
   | some (.value v, ob) => some (v, hs', fs, ob, [])
   | _ => none
  | hs => match sx P (execOp (rho K J) o) [] with
   | some (.value v, []) => some (v, dec hs, fs, [], [])
   | _ => none
def runz (P : Program) (n : Nat) (ops : Array Oper) (E : List Iz) (J : Nat → Value) : Nat → List (Nat × Nat × Nat × Nat) → List Fct → List (Nat × Value) → List Oper → List (Addr × Value) → List Fct → Option (List (Nat × Value) × List (Addr × Value) × List Fct)
 | 0, _, _, K, _, x, u => some (K, x, u)
 | _ + 1, _, _, _, [], _, _ => none
 | m + 1, hs, fs, K, o :: L, x, u => match o.dst with
  | none => match gd ops K o with
   | some false => runz P n ops E J m (dec hs) fs K L x u
   | _ => none
  | some d => match Nat.blt d n with
   | false => none
   | true => match one P ops E J K o hs fs with
    | none => none
    | some (v, hs', fs', ob, us) => runz P n ops E J m hs' fs' ((d, v) :: K) L (ob ++ x) (us ++ u)
structure KnJ [DSc] (n : Nat) (K : List (Nat × Value)) (J : Nat → Value) (a : Act) : Prop where
 k : Kn n K a
 j : ∀ t, look K t = none → a.tmps.getD t undef = J t
theorem KnJ.eval [DSc] {J : Nat → Value} {a : Act} (h : KnJ n K J a) : a.eval = rho K J := by
 rw [h.k.eval]
 funext x
 cases x with
 | tmp t =>
  show (match look K t with | some v => v | none => a.tmps.getD t undef) = (match look K t with | some v => v | none => J t)
  cases hl : look K t with
  | none => exact h.j t hl
  | some v => rfl
 | _ => rfl
theorem KnJ.put [DSc] {J : Nat → Value} {a : Act} (h : KnJ n K J a) {d : Nat} (hd : Nat.blt d n = true) (v : Value) : KnJ n ((d, v) :: K) J (a.put (some d) v) := by
 refine ⟨h.k.put hd v, fun t ht => ?_⟩; unfold look at ht; cases hb : Nat.beq d t with
 | true => rw [hb] at ht; cases ht
 | false =>
  rw [hb] at ht; rw [← h.j t ht]; have e : d ≠ t := Nat.ne_of_beq_eq_false hb; simp only [Act.put, Array.getD_eq_getD_getElem?, Array.getElem?_setIfInBounds_ne e]
theorem Kn.toJ [DSc] {a : Act} (h : Kn n K a) : KnJ n K (fun t => a.tmps.getD t undef) a := ⟨h, fun _ _ => rfl⟩
def AllF (P : Program) : List Fct → Prop
 | [] => True
 | f :: l => (∀ W, f.1.run P W = .ok f.2 W) ∧ AllF P l
theorem AllF.app : ∀ {x y : List Fct}, AllF P x → AllF P y → AllF P (x ++ y)
 | [], _, _, h => h
 | _ :: _, _, h1, h2 => ⟨h1.1, AllF.app h1.2 h2⟩
theorem AllF.left : ∀ {x y : List Fct}, AllF P (x ++ y) → AllF P x
 | [], _, _ => trivial
 | _ :: _, _, h => ⟨h.1, AllF.left h.2⟩
theorem AllF.right : ∀ {x y : List Fct}, AllF P (x ++ y) → AllF P y
 | [], _, h => h
 | _ :: _, _, h => AllF.right (x := _) h.2
theorem one_run [DSc] {J : Nat → Value} {hs : List (Nat × Nat × Nat × Nat)} {fs : List Fct} {r} {a : Act} (h : one P ops E J K o hs fs = some r) (hK : KnJ n K J a) (hf : AllF P r.2.2.2.2) :
  (Region.wanted o (yielded ops a.tmps) = true ∧ ∀ w, Obs w r.2.2.2.1 → (execOp a.eval o).run P w = .ok (.value r.1) w) ∨ (Region.wanted o (yielded ops a.tmps) = false ∧ r.1 = undef) := by
 rw [hK.eval]; unfold one at h
 split at h
 ·cases h
 ·next hg => cases h; exact .inr ⟨hK.k.wanted hg, rfl⟩
 ·next hg =>
  refine .inl ⟨hK.k.wanted hg, fun w hw => ?_⟩
  split at h
  ·split at h
   ·cases h
   ·split at h
    ·cases h
    ·next s hs => cases h; exact semOf_run hs (hf.1 w)
  ·split at h
   ·next v ob he => cases h; exact sx_run _ he hw
   ·cases h
  ·split at h
   ·next v he => cases h; exact sx_run _ he trivial
   ·cases h
theorem runz_grow {J : Nat → Value} : ∀ {m : Nat} {hs : List (Nat × Nat × Nat × Nat)} {fs : List Fct} {K : List (Nat × Value)} {L : List Oper} {x : List (Addr × Value)} {u : List Fct} {r}, runz P n ops E J m hs fs K L x u = some r → (∃ x', r.2.1 = x' ++ x) ∧ (∃ u', r.2.2 = u' ++ u) := by
 intro m
 induction m with
 | zero => intro hs fs K L x u r h; unfold runz at h; cases h; exact ⟨⟨[], rfl⟩, ⟨[], rfl⟩⟩
 | succ m ih =>
  intro hs fs K L x u r h; cases L with
  | nil => unfold runz at h; cases h
  | cons o L =>
   unfold runz at h
   split at h
   ·split at h
    ·exact ih h
    ·cases h
   ·split at h
    ·cases h
    ·split at h
     ·cases h
     ·next v hs' fs' ob us _ =>
      obtain ⟨⟨x', hx⟩, ⟨u', hu⟩⟩ := ih h; exact ⟨⟨x' ++ ob, by rw [hx, List.append_assoc]⟩, ⟨u' ++ us, by rw [hu, List.append_assoc]⟩⟩
theorem runz_go [DSc] {C : World → Prop} {W : List Oper → Act → Prop}
  (hop : ∀ o L a v d, o.dst = some d → Region.wanted o (yielded ops a.tmps) = true → (∀ w, C w → (execOp a.eval o).run P w = .ok (.value v) w) → W L (a.put (some d) v) → W (o :: L) a)
  (hsk : ∀ o L a, Region.wanted o (yielded ops a.tmps) = false → W L (a.put o.dst undef) → W (o :: L) a) {J : Nat → Value} :
  ∀ {m : Nat} {hs : List (Nat × Nat × Nat × Nat)} {fs : List Fct} {K : List (Nat × Value)} {L : List Oper} {x : List (Addr × Value)} {u : List Fct} {r} {a : Act}, runz P n ops E J m hs fs K L x u = some r → KnJ n K J a → (∀ w, C w → Obs w r.2.1) → AllF P r.2.2 → (∀ a', KnJ n r.1 J a' → W (L.drop m) a') → W L a := by
 intro m
 induction m with
 | zero => intro hs fs K L x u r a h hK _ _ hW; unfold runz at h; cases h; exact hW a hK
 | succ m ih =>
  intro hs fs K L x u r a h hK ho hf hW; cases L with
  | nil => unfold runz at h; cases h
  | cons o L =>
   unfold runz at h
   split at h
   ·next hd =>
    split at h
    ·next hg => exact hsk o L a (hK.k.wanted hg) (by rw [hd]; exact ih h hK ho hf hW)
    ·cases h
   ·next d hd =>
    split at h
    ·cases h
    ·next hn =>
     split at h
     ·cases h
     ·next v hs' fs' ob us h1 =>
      obtain ⟨⟨x', hx⟩, ⟨u', hu⟩⟩ := runz_grow h; have hf' : AllF P us := by have h2 := hf; rw [hu] at h2; exact h2.right.left
      have nx := ih h (hK.put hn v) ho hf hW; rcases one_run h1 hK hf' with ⟨hw, hr⟩ | ⟨hw, e⟩
      ·refine hop o L a v d hd hw (fun w hC => hr w ?_) nx; have h2 := ho w hC; rw [hx] at h2; exact h2.right.left
      ·simp only at e; subst e; exact hsk o L a hw (by rw [hd]; exact nx)
def gvl (E : List Iz) : List (Nat × Nat × Nat × Nat) → List (Addr × Value) → List (Addr × Value)
 | [], y => y
 | h :: hs, y => match h.2.1 with
  | 0 => gvl E hs y
  | m + 1 => gvl E hs (rvals E (h.2.2.1, h.2.2.2, m + 1) ++ y)
theorem gvl_obs (h : Ez S0 w0 w S E) : ∀ {hs : List (Nat × Nat × Nat × Nat)} {y : List (Addr × Value)}, Obs w y → Obs w (gvl E hs y)
 | [], _, hy => hy
 | (a, 0, b) :: hs, y, hy => by
  show Obs w (gvl E hs y)
  exact gvl_obs h hy
 | (a, m + 1, i, k) :: hs, y, hy => by
  show Obs w (gvl E hs (rvals E (i, k, m + 1) ++ y))
  exact gvl_obs h ((rvals_obs h _).app hy)
def rvf : List Fct → List Fct → List Fct
 | [], y => y
 | f :: fs, y => rvf fs (f :: y)
theorem rvf_all : ∀ {fs y : List Fct}, AllF P fs → AllF P y → AllF P (rvf fs y)
 | [], _, _, hy => hy
 | f :: fs, y, h, hy => by
  show AllF P (rvf fs (f :: y))
  exact rvf_all h.2 ⟨h.1, hy⟩
def hasK : List (Nat × Value) → Nat → Bool
 | [], _ => false
 | p :: l, d => match Nat.beq p.1 d with
  | true => true
  | false => hasK l d
theorem hasK_none : ∀ {l : List (Nat × Value)} {d : Nat}, hasK l d = false → look l d = none
 | [], _, _ => rfl
 | p :: l, d, h => by
  unfold hasK at h; unfold look; cases hb : Nat.beq p.1 d with
  | true => rw [hb] at h; cases h
  | false => rw [hb] at h; exact hasK_none h
theorem look_has : ∀ {l : List (Nat × Value)} {d : Nat}, look l d = none → hasK l d = false
 | [], _, _ => rfl
 | p :: l, d, h => by
  unfold look at h; unfold hasK; cases hb : Nat.beq p.1 d with
  | true => rw [hb] at h; cases h
  | false => rw [hb] at h; exact look_has h
def clash (new K : List (Nat × Value)) : Nat → List Oper → Bool
 | 0, _ => true
 | _, [] => true
 | m + 1, o :: L => match o.dst with
  | none => clash new K m L
  | some d => match hasK new d with
   | true => clash new K m L
   | false => match hasK K d with
    | true => false
    | false => clash new K m L
theorem look_cons (p : Nat × Value) (l : List (Nat × Value)) (d : Nat) : look (p :: l) d = match Nat.beq p.1 d with | true => some p.2 | false => look l d := rfl
theorem look_app : ∀ {x y : List (Nat × Value)} {d : Nat}, look (x ++ y) d = match look x d with | some v => some v | none => look y d
 | [], _, _ => rfl
 | p :: x, y, d => by
  rw [List.cons_append, look_cons, look_cons]; cases hb : Nat.beq p.1 d with
  | true => rfl
  | false => exact look_app
theorem runz_keep {J : Nat → Value} {new K0 : List (Nat × Value)} : ∀ {m : Nat} {hs : List (Nat × Nat × Nat × Nat)} {fs : List Fct} {K : List (Nat × Value)} {L : List Oper} {x : List (Addr × Value)} {u : List Fct} {r}, runz P n ops E J m hs fs K L x u = some r → clash new K0 m L = true → ∀ d, look new d = none → hasK K0 d = true → look r.1 d = look K d := by
 intro m
 induction m with
 | zero => intro hs fs K L x u r h _ d _ _; unfold runz at h; cases h; rfl
 | succ m ih =>
  intro hs fs K L x u r h hc d hnew h0; cases L with
  | nil => unfold runz at h; cases h
  | cons o L =>
   have key : clash new K0 m L = true ∧ ∀ d', o.dst = some d' → d' ≠ d := by
    unfold clash at hc
    split at hc
    ·next hd => exact ⟨hc, fun d' e => by rw [hd] at e; cases e⟩
    ·next d' hd =>
     split at hc
     ·next hn => exact ⟨hc, fun d'' e => by rw [hd] at e; cases e; intro e; subst e; rw [look_has hnew] at hn; cases hn⟩
     ·split at hc
      ·cases hc
      ·next hk => exact ⟨hc, fun d'' e => by rw [hd] at e; cases e; intro e; subst e; rw [h0] at hk; cases hk⟩
   obtain ⟨hc', hne⟩ := key; have put : ∀ d' u, o.dst = some d' → look ((d', u) :: K) d = look K d := fun d' u e => by
    have := hne d' e; rw [look_cons]; rw [show Nat.beq (d', u).1 d = false from by rw [Bool.eq_false_iff]; intro hb; exact this (Nat.eq_of_beq_eq_true hb)]
   unfold runz at h
   split at h
   ·split at h
    ·exact ih h hc' d hnew h0
    ·cases h
   ·next d' hd =>
    split at h
    ·cases h
    ·split at h
     ·cases h
     ·rw [ih h hc' d hnew h0]; exact put d' _ hd
theorem look_map : ∀ {new : List (Nat × Value)} {R : List (Nat × Value)}, (new.map fun p => look R p.1) = new.map (fun p => some p.2) → ∀ d v, look new d = some v → look R d = some v
 | [], _, _, d, v, h => by cases h
 | p :: new, R, h, d, v, hl => by
  simp only [List.map_cons, List.cons.injEq] at h; unfold look at hl; cases hb : Nat.beq p.1 d with
  | true => rw [hb] at hl; cases hl; rw [← Nat.eq_of_beq_eq_true hb]; exact h.1
  | false => rw [hb] at hl; exact look_map h.2 d v hl
def Rck (P : Program) (n : Nat) (ops : Array Oper) (E : List Iz) (K : List (Nat × Value)) (L : List Oper) (m : Nat) (hs : List (Nat × Nat × Nat × Nat)) (fs : List Fct) (new : List (Nat × Value)) : Prop :=
 ∀ J, (runz P n ops E J m hs fs K L [] []).map (fun r => (new.map fun p => look r.1 p.1, r.2.1, r.2.2)) = some (new.map fun p => some p.2, gvl E hs [], rvf fs [])
theorem run_all [DSc] {C : World → Prop} {W : List Oper → Act → Prop}
  (hop : ∀ o L a v d, o.dst = some d → Region.wanted o (yielded ops a.tmps) = true → (∀ w, C w → (execOp a.eval o).run P w = .ok (.value v) w) → W L (a.put (some d) v) → W (o :: L) a)
  (hsk : ∀ o L a, Region.wanted o (yielded ops a.tmps) = false → W L (a.put o.dst undef) → W (o :: L) a) {m : Nat} {hs : List (Nat × Nat × Nat × Nat)} {fs : List Fct} {new : List (Nat × Value)} {a : Act}
  (hF : AllF P fs) (he : Rck P n ops E K L m hs fs new) (hc : clash new K m L = true) (hK : Kn n K a) (hC : ∀ w, C w → ∃ S0 w0 S, Ez S0 w0 w S E) (h : ∀ a', Kn n (new ++ K) a' → W (L.drop m) a') : W L a := by
 have h1 := he (fun t => a.tmps.getD t undef); rw [Option.map_eq_some_iff] at h1; obtain ⟨r, h1, h2⟩ := h1; simp only [Prod.mk.injEq] at h2; refine runz_go (C := C) hop hsk h1 hK.toJ (fun w hw => ?_) (by rw [h2.2.2]; exact rvf_all hF trivial) (fun a' ha' => h a' ⟨ha'.k.d, ha'.k.s, fun i u hu => ha'.k.k i u ?_⟩)
 ·obtain ⟨S0, w0, S, hE⟩ := hC w hw; rw [h2.2.1]; exact gvl_obs hE trivial
 ·rw [look_app] at hu
  split at hu
  ·next v hv => cases hu; exact look_map h2.1 i _ hv
  ·next hv =>
   have : hasK K i = true := by
    cases hk : hasK K i with
    | true => rfl
    | false => rw [hasK_none hk] at hu; cases hu
   rw [runz_keep h1 hc i hv this]; exact hu
theorem f0 : AllF P [] := trivial
theorem fc {s : Sem Value} {r : Value} {fs : List Fct} (h : ∀ W, s.run P W = .ok r W) (t : AllF P fs) : AllF P ((s, r) :: fs) := ⟨h, t⟩
theorem rn [DSc] (m : Nat) (hs : List (Nat × Nat × Nat × Nat)) {fs : List Fct} (hF : AllF P fs) (new : List (Nat × Value)) (h : Ge S0 w0 n (new ++ K) E (wpList P ops Q (L.drop m))) (he : Rck P n ops E K L m hs fs new := by intro J; kernel_rfl) (hc : clash new K m L = true := by kernel_rfl) :
  Ge S0 w0 n K E (wpList P ops Q L) := fun a w S hK hE => by
 refine run_all (C := fun w' => w' = w) (W := fun L a => wpList P ops Q L a w) (fun o L a v d hd hw hr hk => ?_) (fun o L a hw hk => ?_) hF he hc hK (fun w' e => ⟨S0, w0, S, e ▸ hE⟩) (fun a' ha' => h a' w S ha' hE)
 ·refine wpList_step fun Kx hx => ?_
  rw [if_pos hw]; unfold Oper.wp Oper.upon; rw [hr w rfl, hd]; exact hx _ _ hk
 ·refine wpList_step fun Kx hx => ?_
  rw [if_neg (by rw [hw]; simp)]; exact hx _ _ hk
theorem nl [DSc] (h : Ge S0 w0 n K E (Q .normal)) : Ge S0 w0 n K E (wpList P ops Q []) := h
theorem ra [DSc] (hs : List (Nat × Nat × Nat × Nat)) {fs : List Fct} (hF : AllF P fs) (new : List (Nat × Value)) (h : Ge S0 w0 n (new ++ K) E (Q .normal)) (he : Rck P n ops E K L L.length hs fs new := by intro J; kernel_rfl) (hc : clash new K L.length L = true := by kernel_rfl) :
  Ge S0 w0 n K E (wpList P ops Q L) := rn L.length hs hF new (by rw [List.drop_length]; exact h) he hc
theorem rg [DSc] {id : Nat} (h : Ge S0 w0 n K E (wpList P L.toArray Q L)) : Ge S0 w0 n K E ((Code.region id L.toArray false).wp P Q) := fun a w S hK hE => wp_region_lit (h a w S hK hE)
def wQ (P : Program) (ops : Array Oper) (Q : Exit → Act → World → Prop) (L : List Oper) (a : Act) (w : World) : Prop :=
 wpQuiet P ops (fun w' => ∃ x : Fut w.heap.size w, w' = x.v) (fun a' => ∀ w', (∃ x : Fut w.heap.size w, w' = x.v) → Q .normal a' w') L a
theorem Ez.call (h : Ez S0 w0 w S E) (hb : Below w.heap.size w w') : Ez S0 w0 w' (ext S w w') E := Es.call h hb
theorem qb [DSc] {id : Nat} (h : Ge S0 w0 n K E (wQ P L.toArray Q L)) (hm : P.follows .mixedOrders = true := by kernel_rfl) (hB : Region.lexB .any L.toArray = true := by kernel_rfl) : Ge S0 w0 n K E ((Code.region id L.toArray true).wp P Q) :=
 fun a w S hK hE => wp_region_fut w.heap.size hm hB (h a w S hK hE)
theorem qn [DSc] (m : Nat) (hs : List (Nat × Nat × Nat × Nat)) {fs : List Fct} (hF : AllF P fs) (new : List (Nat × Value)) (h : Ge S0 w0 n (new ++ K) E (wQ P ops Q (L.drop m))) (he : Rck P n ops E K L m hs fs new := by intro J; kernel_rfl) (hc : clash new K m L = true := by kernel_rfl) :
  Ge S0 w0 n K E (wQ P ops Q L) := fun a w S hK hE => by
 refine run_all (C := fun w' => ∃ x : Fut w.heap.size w, w' = x.v) (W := fun L a => wQ P ops Q L a w) (fun o L a v d hd hw hr hk => ?_) (fun o L a hw hk => ?_) hF he hc hK (fun w' e => ?_) (fun a' ha' => h a' w S ha' hE)
 ·refine wpQuiet_step fun Kx hx => ?_
  rw [if_pos hw]; refine ⟨v, fun w' hw' => ?_, hx _ (by rw [hd]; exact hk)⟩; unfold Oper.quietAt; rw [hr w' hw']; exact ⟨rfl, rfl⟩
 ·refine wpQuiet_step fun Kx hx => ?_
  rw [if_neg (by rw [hw]; simp)]; exact hx _ hk
 ·obtain ⟨x, rfl⟩ := e; exact ⟨S0, w0, _, hE.call x.h⟩
theorem qe [DSc] (h : Ge S0 w0 n K E (Q .normal)) : Ge S0 w0 n K E (wQ P ops Q []) := fun a w S hK hE => wpQuiet_nil fun w' ⟨x, e⟩ => h a w' _ hK (e ▸ hE.call x.h)
theorem qa [DSc] (hs : List (Nat × Nat × Nat × Nat)) {fs : List Fct} (hF : AllF P fs) (new : List (Nat × Value)) (h : Ge S0 w0 n (new ++ K) E (Q .normal)) (he : Rck P n ops E K L L.length hs fs new := by intro J; kernel_rfl) (hc : clash new K L.length L = true := by kernel_rfl) :
  Ge S0 w0 n K E (wQ P ops Q L) := qn L.length hs hF new (by rw [List.drop_length]; exact qe h) he hc
end
end Go.Proofs.Ytlfkgbideknkhaa
namespace Go.Proofs.Ytlfkgbideknkhaa
open Go.RowKit
structure RowC {α : Type} (A : Option Addr) (c : Nat) (f : α → List Value) (ok : α → (Nat → Prop) → World → Prop) (l : List α) (S : Nat → Prop) (w : World) : Prop where
 r : RowS S w A (l.flatMap f)
 c : l.length ≤ c
 e : ∀ y ∈ l, ok y S w
def tr {α : Type} (_ : α) (_ : Nat → Prop) (_ : World) : Prop := True
def Each {α : Type} (ok : α → (Nat → Prop) → World → Prop) (l : List α) (S : Nat → Prop) (w : World) : Prop := ∀ y ∈ l, ok y S w
def Mv {α : Type} (ok : α → (Nat → Prop) → World → Prop) : Prop := ∀ y S S' w W, ok y S w → (∀ g, S g → S' g) → Ag S w W → ok y S' W
theorem tr_mv {α : Type} : Mv (tr : α → _) := fun _ _ _ _ _ _ _ _ => trivial
theorem RowC.to {α : Type} {A : Option Addr} {c : Nat} {f : α → List Value} {ok : α → (Nat → Prop) → World → Prop} {l : List α} {S S' : Nat → Prop} {w W : World} (m : Mv ok) (h : RowC A c f ok l S w) (hS : ∀ g, S g → S' g) (hA : Ag S w W) : RowC A c f ok l S' W :=
 ⟨h.r.to hS hA, h.c, fun y hy => m y S S' w W (h.e y hy) hS hA⟩
abbrev Pr := (Nat → Prop) → World → Prop
section
variable {S0 S : Nat → Prop} {w0 w w' : World} {n : Nat} {K K' : List (Nat × Value)} {E E' : List Iz} {X : Act → World → Prop} {P : Program} {ops : Array Oper} {Q : Exit → Act → World → Prop} {o : Oper} {L : List Oper} {v v' : Value} {p q : Pr}
def Fa (E : List Iz) (p : Pr) : Prop := ∀ S0 w0 w S, Ez S0 w0 w S E → p (fun g => g < w.heap.size) w
def Fd (E : List Iz) (p : Pr) : Prop := ∀ S0 w0 w S, Ez S0 w0 w S E → ∀ S' W, (∀ g, S g → S' g) → Ag S w W → p S' W
theorem Ez.stay (h : Ez S0 w0 w S E) {i : Nat} (hi : E[i]? = some (.dat p)) : ∀ S' W, (∀ g, S g → S' g) → Ag S w W → p S' W := fun S' W h1 h2 => Es.k h _ (List.mem_of_getElem? (h.at hi)) S' W h1 h2
theorem gd' (p : Pr) (i : Nat) (hi : E[i]? = some (.dat p) := by kernel_rfl) : Fd E p := fun _ _ _ _ h => h.stay hi
theorem Fd.m (h : Fd E q) (hq : ∀ S W, q S W → p S W) : Fd E p := fun _ _ _ _ hE S' W h1 h2 => hq _ _ (h _ _ _ _ hE S' W h1 h2)
theorem Fd.a (h : Fd E p) : Fa E p := fun _ _ w _ hE => h _ _ _ _ hE _ w hE.lt (Ag.refl _ _)
theorem gi (i : Nat) (hi : E[i]? = some (.dat p) := by kernel_rfl) : Fd E p := gd' p i hi
theorem ga (i : Nat) (hi : E[i]? = some (.dat p) := by kernel_rfl) : Fa E p := (gd' p i hi).a
theorem gm (q : Pr) (i : Nat) (hq : ∀ S W, q S W → p S W) (hi : E[i]? = some (.dat q) := by kernel_rfl) : Fd E p := (gd' q i hi).m hq
theorem gn {α : Type} {A : Option Addr} {c : Nat} {f : α → List Value} {ok : α → (Nat → Prop) → World → Prop} : Fd E (RowC A c f ok []) := fun _ _ _ _ _ _ _ _ _ => ⟨RowS.nil _ _ _, Nat.zero_le _, fun _ h => absurd h List.not_mem_nil⟩
def rowOf (E : List Iz) (i : Nat) : Option (Value × Nat × List Value) := match E[i]? with
 | some (.own _ _ v k xs) => some (v, k, xs)
 | _ => none
def blkOf (E : List Iz) (i : Nat) : Option (Nat × List Value) := match E[i]? with
 | some (.blk g _ cs) => some (g, cs)
 | _ => none
theorem oa {α : Type} {A : Option Addr} {c : Nat} {f : α → List Value} {ok : α → (Nat → Prop) → World → Prop} {l : List α} (i : Nat) (e : Fa E (Each ok l)) (hi : rowOf E i = some (.slice A l.length c, l.length, l.flatMap f) := by kernel_rfl) : Fa E (RowC A c f ok l) := fun _ _ w _ hE => by
 unfold rowOf at hi
 split at hi
 ·next e' m v k xs hx =>
  cases hi; have h1 := hE.at hx
  obtain ⟨b, _, hr⟩ := Es.row hE i h1; obtain ⟨A', c', h2, h3, _⟩ := own_form hr
  injection h2 with h4 h5 h6
  subst h6; exact ⟨Es.rdAll hE i h1, h3, e _ _ _ _ hE⟩
 ·cases hi
theorem ba {α : Type} {g c : Nat} {f : α → List Value} {ok : α → (Nat → Prop) → World → Prop} {l : List α} (i : Nat) (e : Fa E (Each ok l)) (hi : blkOf E i = some (g, l.flatMap f) := by kernel_rfl) (hc : Nat.ble l.length c = true := by kernel_rfl) : Fa E (RowC (some ⟨g, 0, none⟩) c f ok l) := fun _ _ w _ hE => by
 unfold blkOf at hi
 split at hi
 ·next g' t cs hx =>
  cases hi; exact ⟨Es.blkAll hE i (hE.at hx), Nat.le_of_ble_eq_true hc, e _ _ _ _ hE⟩
 ·cases hi
theorem bA {α : Type} {f : α → List Value} {ok : α → (Nat → Prop) → World → Prop} {l : List α} (g : Nat) (i : Nat) (e : Fa E (Each ok l)) (hi : blkOf E i = some (g, l.flatMap f) := by kernel_rfl) : Fa E (RowC (some ⟨g, 0, none⟩) l.length f ok l) := ba i e hi (by rw [Nat.ble_eq]; exact Nat.le_refl _)
theorem et {α : Type} {l : List α} : Fd E (Each tr l) := fun _ _ _ _ _ _ _ _ _ _ _ => trivial
theorem e1 {α : Type} {ok : α → Pr} {x : α} (h : Fd E (ok x)) : Fd E (Each ok [x]) := fun _ _ _ _ hE S' W h1 h2 y hy => by
 rcases List.mem_cons.1 hy with rfl | hy
 ·exact h _ _ _ _ hE S' W h1 h2
 ·cases hy
theorem e0 {α : Type} {ok : α → Pr} : Fd E (Each ok []) := fun _ _ _ _ _ _ _ _ _ _ hy => absurd hy List.not_mem_nil
theorem ec {α : Type} {ok : α → Pr} {x : α} {l : List α} (h : Fd E (ok x)) (h' : Fd E (Each ok l)) : Fd E (Each ok (x :: l)) := fun _ _ _ _ hE S' W h1 h2 y hy => by
 rcases List.mem_cons.1 hy with rfl | hy
 ·exact h _ _ _ _ hE S' W h1 h2
 ·exact h' _ _ _ _ hE S' W h1 h2 y hy
def Fas (E : List Iz) : List Pr → Prop
 | [] => True
 | p :: l => Fa E p ∧ Fas E l
def Fds (E : List Iz) : List Pr → Prop
 | [] => True
 | p :: l => Fd E p ∧ Fds E l
def AllH (S : Nat → Prop) (w : World) : List Pr → Prop
 | [] => True
 | p :: l => p S w ∧ AllH S w l
theorem Fas.all (hE : Ez S0 w0 w S E) : ∀ {Hs : List Pr}, Fas E Hs → AllH (fun g => g < w.heap.size) w Hs
 | [], _ => trivial
 | _ :: _, h => ⟨h.1 _ _ _ _ hE, Fas.all hE h.2⟩
theorem Fds.all (hE : Ez S0 w0 w S E) : ∀ {Hs : List Pr}, Fds E Hs → AllH S w Hs
 | [], _ => trivial
 | _ :: _, h => ⟨h.1 _ _ _ _ hE _ _ (fun _ h => h) (Ag.refl _ _), Fds.all hE h.2⟩
theorem Fds.out (hE : Ez S0 w0 w S E) : ∀ {Hs : List Pr}, Fds E Hs → AllH (ext S0 w0 w) w Hs
 | [], _ => trivial
 | _ :: _, h => ⟨h.1 _ _ _ _ hE _ _ (Es.sub hE) (Ag.refl _ _), Fds.out hE h.2⟩
theorem Fd.two (h : Fd E p) (h' : Fd E q) : Fd E (fun S w => p S w ∧ q S w) := fun _ _ _ _ hE S' W h1 h2 => ⟨h _ _ _ _ hE S' W h1 h2, h' _ _ _ _ hE S' W h1 h2⟩
theorem Fa.two (h : Fa E p) (h' : Fa E q) : Fa E (fun S w => p S w ∧ q S w) := fun _ _ _ _ hE => ⟨h _ _ _ _ hE, h' _ _ _ _ hE⟩
theorem Fa.m (h : Fa E q) (hq : ∀ S W, q S W → p S W) : Fa E p := fun _ _ _ _ hE => hq _ _ (h _ _ _ _ hE)
theorem sb [DSc] (d : Nat) {v v' : Value} (e : v = v') (h : Ge S0 w0 n ((d, v') :: K) E X) (hl : look K d = some v := by kernel_rfl) : Ge S0 w0 n K E X := fun a w S hK hE => h a w S (hK.sub hl e) hE
theorem bt {b : Bool} (h : b = true) : Value.bool b = Value.bool true := congrArg _ h
theorem bf {b : Bool} (h : b = false) : Value.bool b = Value.bool false := congrArg _ h
theorem nt {b : Bool} (h : b = true) : Value.bool (!b) = Value.bool false := by rw [h]; rfl
theorem nf {b : Bool} (h : b = false) : Value.bool (!b) = Value.bool true := by rw [h]; rfl
theorem fm [DSc] (p : Pr) (hf : Fd E p) (h : Ge S0 w0 n K (.dat p :: E) X) : Ge S0 w0 n K E X := fun a w S hK hE => h a w S hK (Es.dat hE (hf _ _ _ _ hE))
def selz (E : List Iz) : List Nat → Option (List Iz)
 | [] => some []
 | i :: is => match E[i]?, selz E is with
  | some x, some r => some (x :: r)
  | _, _ => none
theorem selz_map : ∀ {is : List Nat} {r : List Iz}, selz E is = some r → selL (E.map Iz.ik) is = some (r.map Iz.ik)
 | [], r, h => by cases h; rfl
 | i :: is, r, h => by
  unfold selz at h
  split at h
  ·next x r' hx hr =>
   cases h; unfold selL; rw [List.getElem?_map, hx, selz_map hr]; rfl
  ·cases h
theorem Ez.sel (h : Ez S0 w0 w S E) (is : List Nat) (hl : selz E is = some E' := by kernel_rfl) (hn : ndB is = true := by kernel_rfl) : Ez S0 w0 w S E' := Es.sel h is hn (selz_map hl)
def dd : List Nat → List (Nat × Value) → List (Nat × Value)
 | _, [] => []
 | s, p :: l => match noIn p.1 s with
  | true => p :: dd (p.1 :: s) l
  | false => dd s l
theorem dd_look : ∀ {l : List (Nat × Value)} {s : List Nat} {d : Nat}, noIn d s = true → look (dd s l) d = look l d
 | [], _, _, _ => rfl
 | p :: l, s, d, h => by
  unfold dd; cases hs : noIn p.1 s with
  | true =>
   simp only [look_cons]; cases hb : Nat.beq p.1 d with
   | true => rfl
   | false =>
    refine dd_look (s := p.1 :: s) ?_; have e : p.1 ≠ d := Nat.ne_of_beq_eq_false hb; have e2 : Nat.beq d p.1 = false := by rw [Bool.eq_false_iff]; intro hc; exact e (Nat.eq_of_beq_eq_true hc).symm
    show (!(Nat.beq d p.1) && noIn d s) = true
    rw [e2, h]; rfl
  | false =>
   simp only [look_cons]; cases hb : Nat.beq p.1 d with
   | true => rw [Nat.eq_of_beq_eq_true hb, h] at hs; cases hs
   | false => exact dd_look h
theorem Kn.wk [DSc] {a : Act} (h : Kn n K a) (e : ((dd [] K').map fun p => look K p.1) = (dd [] K').map (fun p => some p.2) := by kernel_rfl) : Kn n K' a := ⟨h.d, h.s, fun i u hu => h.k i u (look_map e i u (by rw [dd_look rfl]; exact hu))⟩
theorem on [DSc] (e : TypeId) (m : Nat) (h : Ge S0 w0 n K (.own e m (.slice none 0 0) 0 [] :: E) X) : Ge S0 w0 n K E X := fun a w S hK hE => h a w S hK (Es.own0 hE e m)
def setz : List Iz → Nat → Iz → List Iz
 | [], _, _ => []
 | _ :: E, 0, x => x :: E
 | y :: E, i + 1, x => y :: setz E i x
theorem setz_map : ∀ {E : List Iz} {i : Nat} {x : Iz}, (setz E i x).map Iz.ik = (E.map Iz.ik).set i x.ik
 | [], _, _ => rfl
 | _ :: _, 0, _ => rfl
 | y :: E, i + 1, x => congrArg (y.ik :: ·) setz_map
theorem bo [DSc] (i m k g : Nat) (t : TypeId) (cs : List Value) (h : Ge S0 w0 n K (setz E i (.own t m (.slice (some ⟨g, 0, none⟩) k k) k cs)) X) (hi : E[i]? = some (.blk g t cs) := by kernel_rfl) (hs : Nat.beq cs.length (k * m) = true := by kernel_rfl) (hk : Nat.ble k 9223372036854775807 = true := by kernel_rfl) : Ge S0 w0 n K E X := fun a w S hK hE => by
 refine h a w S hK ?_; unfold Ez; rw [setz_map]; have := Es.own hE i m k (hE.at hi) (by simpa using Nat.eq_of_beq_eq_true hs) (Nat.le_of_ble_eq_true hk); exact this
theorem so [DSc] {α : Type} {A : Option Addr} {c : Nat} (i : Nat) (f : α → List Value) (ok : α → Pr) (l : List α) (m : Mv ok) (e : Fd E (Each ok l)) (h : Ge S0 w0 n K (setz E i (.dat (RowC A c f ok l))) X) (hi : rowOf E i = some (.slice A l.length c, l.length, l.flatMap f) := by kernel_rfl) : Ge S0 w0 n K E X := fun a w S hK hE => by
 unfold rowOf at hi
 split at hi
 ·next e' m' v k xs hx =>
  cases hi; have h1 := hE.at hx
  obtain ⟨b, _, hr⟩ := Es.row hE i h1; obtain ⟨A', c', h2, h3, _⟩ := own_form hr
  injection h2 with h4 h5 h6
  subst h6; obtain ⟨⟨b, hb, hr⟩, hns⟩ := Es.k hE _ (List.mem_of_getElem? h1); refine h a w (fun g => S g ∨ (Value.slice A l.length c).ownBlock = some g) hK ?_; unfold Ez; rw [setz_map]; refine Es.put hE i h1 hE.b (fun _ h => .inl h) (fun _ h => h) (Nat.le_refl _) ?_ (fun _ hg => (by cases hg)) (fun _ _ _ => rfl); have h0 : RowC A c f ok l (fun g => S g ∨ (Value.slice A l.length c).ownBlock = some g) w := by
   refine ⟨⟨Rd.of_own hr, fun hn => ?_⟩, h3, fun y hy => e _ _ _ _ hE _ _ (fun _ h => .inl h) (Ag.refl _ _) y hy⟩; obtain ⟨b, o, e, _, _⟩ := Rd.of_own hr hn; exact ⟨b, o, e, .inr (by rw [e]; rfl)⟩
  exact fun S' W h1 h2 => h0.to m h1 h2
 ·cases hi
theorem sB [DSc] {α : Type} (i g : Nat) (f : α → List Value) (ok : α → Pr) (l : List α) (m : Mv ok) (e : Fd E (Each ok l)) (h : Ge S0 w0 n K (setz E i (.dat (RowC (some ⟨g, 0, none⟩) l.length f ok l))) X) (hi : blkOf E i = some (g, l.flatMap f) := by kernel_rfl) : Ge S0 w0 n K E X := fun a w S hK hE => by
 unfold blkOf at hi
 split at hi
 ·next g' t cs hx =>
  cases hi; have h1 := hE.at hx
  have hok := Es.k hE _ (List.mem_of_getElem? h1); refine h a w (fun x => S x ∨ x = g) hK ?_; unfold Ez; rw [setz_map]; refine Es.put hE i h1 hE.b (fun _ h => .inl h) (fun x h => ?_) (Nat.le_refl _) ?_ (fun _ hg => (by cases hg)) (fun _ _ _ => rfl)
  ·rcases h with h | h
   ·exact .inl h
   ·subst h; exact .inr rfl
  ·have h0 : RowC (some ⟨g, 0, none⟩) l.length f ok l (fun x => S x ∨ x = g) w := ⟨⟨Rd.of_blk hok.2.2, fun _ => ⟨g, 0, rfl, .inr rfl⟩⟩, Nat.le_refl _, fun y hy => e _ _ _ _ hE _ _ (fun _ h => .inl h) (Ag.refl _ _) y hy⟩; exact fun S' W h1 h2 => h0.to m h1 h2
 ·cases hi
def oW (P : Program) (o : Oper) (Q : Exit → Act → World → Prop) (Kx : Act → World → Prop) : Act → World → Prop := fun a w => o.wp P a w Kx Q
variable {Kx : Act → World → Prop}
theorem l1 [DSc] (h : Ge S0 w0 n K E (oW P o Q (wpList P ops Q L))) (hg : gd ops K o = some true := by kernel_rfl) : Ge S0 w0 n K E (wpList P ops Q (o :: L)) := fun a w S hK hE => st_of hK hg (by rw [if_pos rfl]; exact h a w S hK hE)
theorem nw [DSc] (d : Nat) (vf : Nat → Value) (cs : List Value) (t : TypeId) (h : ∀ g, Ge S0 w0 n ((d, vf g) :: K) (.blk g t cs :: E) Kx) (he : ∀ J g, sn P g (execOp (rho K J) o) = some (.value (vf g), .cells ⟨cs⟩ t) := by intro J g; kernel_rfl) (hd : o.dst = some d := by kernel_rfl) (hn : Nat.blt d n = true := by kernel_rfl) :
  Ge S0 w0 n K E (oW P o Q Kx) := fun a w S hK hE => by
 unfold oW Oper.wp Oper.upon; rw [hK.eval, sn_run _ (he _ _), hd]; exact h _ _ _ _ (hK.put hn _) (Es.alloc hE ⟨cs⟩ t)
def vp (g : Nat) : Value := .pointer (some ⟨g, 0, none⟩)
def vs (k g : Nat) : Value := .slice (some ⟨g, 0, none⟩) k k
def stz : List Iz → Nat → List (Nat × Value) → List Iz
 | [], _, _ => []
 | .blk g t cs :: E, 0, ivs => .blk g t (setsL cs ivs) :: E
 | y :: E, 0, _ => y :: E
 | y :: E, i + 1, ivs => y :: stz E i ivs
theorem stz_map : ∀ {E : List Iz} {i : Nat} {g : Nat} {t : TypeId} {cs : List Value} {ivs : List (Nat × Value)}, E[i]? = some (.blk g t cs) → (stz E i ivs).map Iz.ik = (E.map Iz.ik).set i (.blk g t ⟨setsL cs ivs⟩)
 | [], _, _, _, _, _, h => by simp at h
 | x :: E, 0, g, t, cs, ivs, h => by
  simp only [List.getElem?_cons_zero, Option.some.injEq] at h; subst h; rfl
 | x :: E, i + 1, g, t, cs, ivs, h => by
  have h' : E[i]? = some (.blk g t cs) := by simpa using h
  have := stz_map (ivs := ivs) h'; cases x <;> exact congrArg (_ :: ·) this
theorem sets_setsL (cs : List Value) (ivs : List (Nat × Value)) : sets ⟨cs⟩ ivs = ⟨setsL cs ivs⟩ := sets_lit rfl
theorem sr [DSc] (i g : Nat) (ivs : List (Nat × Value)) (h : Ge S0 w0 n K (stz E i ivs) Kx)
  (hb : (blkOf E i).map (fun x => (x.1, ltAll x.2.length ivs)) = some (g, true) := by kernel_rfl) (he : ∀ J, ss P (execOp (rho K J) o) = some (.skip, ivs.map fun p => (⟨g, p.1, none⟩, p.2)) := by intro J; kernel_rfl) (hd : o.dst = none := by kernel_rfl) :
  Ge S0 w0 n K E (oW P o Q Kx) := fun a w S hK hE => by
 unfold blkOf at hb
 split at hb
 ·next g' t cs hx =>
  simp only [Option.map_some, Option.some.injEq, Prod.mk.injEq] at hb; obtain ⟨rfl, hin⟩ := hb; have hin' := ltAll_all hin; have hr := ss_run (P := P) _ (hE.blk hx) (he (fun t => a.tmps.getD t undef)) hin'; unfold oW Oper.wp Oper.upon; rw [hK.eval, hr.1, hd]; refine h _ _ S hK ?_; unfold Ez; rw [stz_map hx, ← sets_setsL]; exact Es.store hE i (hE.at hx) ivs hr.2
 ·cases hb
def Cf (P : Program) (f : FuncId) (args : List Value) (Hs : List Pr) (v : Value) : Prop :=
 ∀ S0 w0, (∀ g, S0 g → g < w0.heap.size) → Tb w0 → AllH S0 w0 Hs → Calls P f args.toArray w0 fun e w' => e = .returned v ∧ Below w0.heap.size w0 w'
def Cn (P : Program) (f : FuncId) (args : List Value) (Hs : List Pr) {β : Type} (q : β → Prop) (vf : β → Value) (ok : β → List Pr) : Prop :=
 ∀ S0 w0, (∀ g, S0 g → g < w0.heap.size) → Tb w0 → AllH S0 w0 Hs → Calls P f args.toArray w0 fun e w' => ∃ x, q x ∧ e = .returned (vf x) ∧ Below w0.heap.size w0 w' ∧ AllH (ext S0 w0 w') w' (ok x)
def Mvs : List Pr → Prop
 | [] => True
 | p :: l => (∀ S S' w W, p S w → (∀ g, S g → S' g) → Ag S w W → p S' W) ∧ Mvs l
theorem m0 : Mvs [] := trivial
theorem mc {α : Type} {ok : α → Pr} {x : α} {l : List Pr} (m : Mv ok) (t : Mvs l) : Mvs (ok x :: l) := ⟨fun S S' w W => m x S S' w W, t⟩
theorem mr {α : Type} {A : Option Addr} {c : Nat} {f : α → List Value} {ok : α → Pr} {x : List α} {l : List Pr} (m : Mv ok) (t : Mvs l) : Mvs (RowC A c f ok x :: l) := ⟨fun _ _ _ _ h hS hA => h.to m hS hA, t⟩
theorem Ez.more : ∀ {Hs : List Pr}, Ez S0 w0 w S E → Mvs Hs → AllH S w Hs → Ez S0 w0 w S (Hs.map .dat ++ E)
 | [], h, _, _ => h
 | _ :: _, h, m, a => Es.dat (Ez.more h m.2 a.2) (fun S' W h1 h2 => m.1 _ _ _ _ a.1 h1 h2)
theorem cl [DSc] {f : FuncId} {args : List Value} {Hs : List Pr} (d : Nat) (hc : Cf P f args Hs v) (hT : Tb w0) (hH : Fas E Hs) (h : Ge S0 w0 n ((d, v) :: K) E Kx) (he : ∀ J, sx P (execOp (rho K J) o) [] = some (.enter f args.toArray, []) := by intro J; kernel_rfl) (hd : o.dst = some d := by kernel_rfl) (hn : Nat.blt d n = true := by kernel_rfl) :
  Ge S0 w0 n K E (oW P o Q Kx) := fun a w S hK hE => by
 unfold oW Oper.wp Oper.upon; rw [hK.eval, sx_run _ (he _) trivial, hd]; refine (hc _ w (fun _ h => h) (hT.to hE.b) (hH.all hE)).mono fun e w' hr => ?_
 obtain ⟨rfl, hb⟩ := hr; exact h _ _ _ (hK.put hn v) (hE.call hb)
theorem cn [DSc] {f : FuncId} {args : List Value} {Hs : List Pr} {β : Type} {q : β → Prop} {vf : β → Value} {ok : β → List Pr} (d : Nat) (hc : Cn P f args Hs q vf ok) (hT : Tb w0) (hm : ∀ x, Mvs (ok x)) (hH : Fds E Hs) (h : ∀ x, q x → Ge S0 w0 n ((d, vf x) :: K) ((ok x).map .dat ++ E) Kx) (he : ∀ J, sx P (execOp (rho K J) o) [] = some (.enter f args.toArray, []) := by intro J; kernel_rfl) (hd : o.dst = some d := by kernel_rfl) (hn : Nat.blt d n = true := by kernel_rfl) :
  Ge S0 w0 n K E (oW P o Q Kx) := fun a w S hK hE => by
 unfold oW Oper.wp Oper.upon; rw [hK.eval, sx_run _ (he _) trivial, hd]; refine (hc _ w hE.lt (hT.to hE.b) (hH.all hE)).mono fun e w' hr => ?_
 obtain ⟨x, hq, rfl, hb, hok⟩ := hr; exact h x hq _ _ _ (hK.put hn (vf x)) ((hE.call hb).more (hm x) hok)
theorem qc [DSc] {f : FuncId} {args : List Value} {Hs : List Pr} (d : Nat) (hc : Cf P f args Hs v) (hT : Tb w0) (hH : Fas E Hs) (h : Ge S0 w0 n ((d, v) :: K) E (wQ P ops Q L)) (hg : gd ops K o = some true := by kernel_rfl) (he : ∀ J, sx P (execOp (rho K J) o) [] = some (.enter f args.toArray, []) := by intro J; kernel_rfl) (hd : o.dst = some d := by kernel_rfl) (hn : Nat.blt d n = true := by kernel_rfl) :
  Ge S0 w0 n K E (wQ P ops Q (o :: L)) := fun a w S hK hE => by
 refine qs_call hK hg he hd hn (fun x => ?_) (fun a' ha' => h a' w S ha' hE); have hE' := hE.call x.h; exact Fut.call (Nat.le_refl _) (hc _ x.v (fun _ h => h) (hT.to hE'.b) (hH.all hE'))
def Rs (S0 : Nat → Prop) (w0 : World) (v : Value) (E : List Iz) (q : Prop) (e : Ending) (w : World) : Prop := e = .returned v ∧ (∃ S, Ez S0 w0 w S E) ∧ q
theorem Rs.go [DSc] {d : Nat} {e : Ending} {q : Prop} (h : Rs S0 w0 v E q e w) (k : q → Ge S0 w0 n ((d, v) :: K) E X) : ∃ v, e = .returned v ∧ ∃ S E v', v' = v ∧ Ez S0 w0 w S E ∧ Ge S0 w0 n ((d, v) :: K) E X := by
 obtain ⟨rfl, ⟨S, hE⟩, hq⟩ := h; exact ⟨_, rfl, S, E, _, rfl, hE, k hq⟩
theorem ci [DSc] {f : FuncId} {fn : Func} {c : Code} {n' : Nat} {args : List Value} (d : Nat) (R : List Iz → Ending → World → Prop) (hf : P.funcs[f]? = some fn) (hb : fn.body = some c) (hn' : fn.ntmps = n') (h1 : @Ge DS0 S0 w0 n' (argK args 0) E (c.wp P (bodyPost P fn (R E)))) (h : ∀ e w, R E e w → ∃ v, e = .returned v ∧ ∃ S E' v', v' = v ∧ Ez S0 w0 w S E' ∧ Ge S0 w0 n ((d, v) :: K) E' Kx) (hs : Nat.ble args.length n' = true := by kernel_rfl) (he : ∀ J, sx P (execOp (rho K J) o) [] = some (.enter f args.toArray, []) := by intro J; kernel_rfl) (hd : o.dst = some d := by kernel_rfl) (hn : Nat.blt d n = true := by kernel_rfl) :
  Ge S0 w0 n K E (oW P o Q Kx) := fun a w S hK hE => by
 unfold oW Oper.wp Oper.upon; rw [hK.eval, sx_run _ (he _) trivial, hd]; refine (vc_enter hf hb hn' hs fun a hK => h1 a w S hK hE).mono fun e w' hr => ?_
 obtain ⟨v, rfl, S', E', v', _, hE', hk⟩ := h e w' hr; exact hk _ _ _ (hK.put hn v) hE'
theorem AllH.ez (hS : ∀ g, S0 g → g < w0.heap.size) {Hs : List Pr} (m : Mvs Hs) (a : AllH S0 w0 Hs) : Ez S0 w0 w0 S0 (Hs.map .dat) := by
 have := Ez.more (E := []) (Es.start hS) m a
 rwa [List.append_nil] at this
theorem fi {f : FuncId} {fn : Func} {c : Code} {args : List Value} {Hs : List Pr} (hf : P.funcs[f]? = some fn) (hb : fn.body = some c) (hn : fn.ntmps = n) (m : Mvs Hs)
  (h : ∀ S0 w0, Tb w0 → Ge S0 w0 n (argK args 0) (Hs.map .dat) (c.wp P (bodyPost P fn fun e w' => e = .returned v ∧ Below w0.heap.size w0 w'))) (hs : Nat.ble args.length n = true := by kernel_rfl) : Cf P f args Hs v := fun S0 w0 hS hT hH => vc_enter hf hb hn hs fun a hK => h S0 w0 hT a w0 S0 hK (hH.ez hS m)
theorem fin {f : FuncId} {fn : Func} {c : Code} {args : List Value} {Hs : List Pr} {β : Type} {q : β → Prop} {vf : β → Value} {ok : β → List Pr} (hf : P.funcs[f]? = some fn) (hb : fn.body = some c) (hn : fn.ntmps = n) (m : Mvs Hs)
  (h : ∀ S0 w0, Tb w0 → Ge S0 w0 n (argK args 0) (Hs.map .dat) (c.wp P (bodyPost P fn fun e w' => ∃ x, q x ∧ e = .returned (vf x) ∧ Below w0.heap.size w0 w' ∧ AllH (ext S0 w0 w') w' (ok x)))) (hs : Nat.ble args.length n = true := by kernel_rfl) : Cn P f args Hs q vf ok := fun S0 w0 hS hT hH => vc_enter hf hb hn hs fun a hK => h S0 w0 hT a w0 S0 hK (hH.ez hS m)
def rvl (E : List Iz) : List (Nat × Nat × Nat) → List (Addr × Value)
 | [] => []
 | h :: hs => rvals E h ++ rvl E hs
theorem rvl_obs (h : Ez S0 w0 w S E) : ∀ {hs : List (Nat × Nat × Nat)}, Obs w (rvl E hs)
 | [] => trivial
 | x :: _ => (rvals_obs h x).app (rvl_obs h)
theorem rt {fn : Func} (hs : List (Nat × Nat × Nat)) (he : ∀ J, sx P (resF fn fun t => rho K J (.tmp t)) ((rvl E hs).map (·.2)) = some (v, rvl E hs) := by intro J; kernel_rfl) : Ge S0 w0 n K E (bodyPost P fn (fun e w' => e = .returned v ∧ Below w0.heap.size w0 w') .ret) :=
 fun a w S hK hE => vc_ret hK he (rvl_obs hE) rfl ⟨rfl, Es.b hE⟩
theorem rtn {fn : Func} {β : Type} {q : β → Prop} {vf : β → Value} {ok : β → List Pr} (hs : List (Nat × Nat × Nat)) (x : β) (hq : q x) (hF : Fds E (ok x)) (he : ∀ J, sx P (resF fn fun t => rho K J (.tmp t)) ((rvl E hs).map (·.2)) = some (vf x, rvl E hs) := by intro J; kernel_rfl) : Ge S0 w0 n K E (bodyPost P fn (fun e w' => ∃ x, q x ∧ e = .returned (vf x) ∧ Below w0.heap.size w0 w' ∧ AllH (ext S0 w0 w') w' (ok x)) .ret) :=
 fun a w S hK hE => vc_ret hK he (rvl_obs hE) rfl ⟨x, hq, rfl, Es.b hE, hF.out hE⟩
theorem ri {fn : Func} {R : Ending → World → Prop} (hs : List (Nat × Nat × Nat)) (v : Value) (h : Ge S0 w0 n K E (fun _ w => R (.returned v) w)) (he : ∀ J, sx P (resF fn fun t => rho K J (.tmp t)) ((rvl E hs).map (·.2)) = some (v, rvl E hs) := by intro J; kernel_rfl) : Ge S0 w0 n K E (bodyPost P fn R .ret) :=
 fun a w S hK hE => vc_ret hK he (rvl_obs hE) rfl (h a w S hK hE)
theorem fall [DSc] {fn : Func} {R : Ending → World → Prop} (h : Ge S0 w0 n K E (bodyPost P fn R .ret)) : Ge S0 w0 n K E (bodyPost P fn R .normal) := h
variable {x y c : Code} {id id' : Nat}
theorem sq [DSc] (h : Ge S0 w0 n K E (x.wp P (Exit.then (y.wp P Q) Q))) : Ge S0 w0 n K E ((Code.seq x y).wp P Q) := fun a w S hK hE => wp_seq (h a w S hK hE)
theorem bk [DSc] (h : Ge S0 w0 n K E (c.wp P (Exit.inBlock id Q))) : Ge S0 w0 n K E ((Code.block id c).wp P Q) := fun a w S hK hE => wp_block (h a w S hK hE)
theorem kS [DSc] (h : Ge S0 w0 n K E (Q .normal)) : Ge S0 w0 n K E (Code.skip.wp P Q) := fun a w S hK hE => wp_skip (h a w S hK hE)
theorem kX [DSc] (h : Ge S0 w0 n K E (Q (.exit id))) : Ge S0 w0 n K E ((Code.exit id).wp P Q) := fun a w S hK hE => wp_exit (h a w S hK hE)
theorem kR [DSc] (h : Ge S0 w0 n K E (Q .ret)) : Ge S0 w0 n K E (Code.ret.wp P Q) := fun a w S hK hE => wp_ret (h a w S hK hE)
theorem tN [DSc] (h : Ge S0 w0 n K E Kx) : Ge S0 w0 n K E (Exit.then Kx Q .normal) := h
theorem tX [DSc] (h : Ge S0 w0 n K E (Q (.exit id))) : Ge S0 w0 n K E (Exit.then Kx Q (.exit id)) := h
theorem tR [DSc] (h : Ge S0 w0 n K E (Q .ret)) : Ge S0 w0 n K E (Exit.then Kx Q .ret) := h
theorem hN [DSc] (h : Ge S0 w0 n K E (Q .normal)) : Ge S0 w0 n K E (Exit.inBlock id Q .normal) := h
theorem hR [DSc] (h : Ge S0 w0 n K E (Q .ret)) : Ge S0 w0 n K E (Exit.inBlock id Q .ret) := h
theorem hH [DSc] (h : Ge S0 w0 n K E (Q .normal)) : Ge S0 w0 n K E (Exit.inBlock id Q (.exit id)) := fun a w S hK hE => xb_hit (h a w S hK hE)
theorem ct [DSc] {t : Operand} (h : Ge S0 w0 n K E (x.wp P Q)) (hc : ∀ J, rho K J t = .bool true := by intro J; kernel_rfl) : Ge S0 w0 n K E ((Code.cond t x y).wp P Q) := fun a w S hK hE => vc_cond (t := true) hK hc (by rw [if_pos rfl]; exact h a w S hK hE)
theorem cf [DSc] {t : Operand} (h : Ge S0 w0 n K E (y.wp P Q)) (hc : ∀ J, rho K J t = .bool false := by intro J; kernel_rfl) : Ge S0 w0 n K E ((Code.cond t x y).wp P Q) := fun a w S hK hE => vc_cond (t := false) hK hc (by rw [if_neg (by simp)]; exact h a w S hK hE)
def Js [DSc] (S0 : Nat → Prop) (w0 : World) (n : Nat) (K : List (Nat × Value)) (E : List Iz) (q : Prop) (a : Act) (w : World) : Prop := ∃ S, Kn n K a ∧ Ez S0 w0 w S E ∧ q
theorem Js.go [DSc] {q : Prop} {a : Act} (h : Js S0 w0 n K E q a w) (k : q → Ge S0 w0 n K E X) : X a w := by
 obtain ⟨S, hK, hE, hq⟩ := h; exact k hq a w S hK hE
def dk (ds : List Nat) : List (Nat × Value) → List (Nat × Value)
 | [] => []
 | p :: l => match noIn p.1 ds with
  | true => p :: dk ds l
  | false => dk ds l
def se (E : List Iz) : List Nat → List Iz
 | [] => []
 | i :: is => match E[i]? with
  | some x => x :: se E is
  | none => se E is
theorem jn [DSc] (J : List (Nat × Value) → List Iz → Act → World → Prop) (h1 : Ge S0 w0 n K E (x.wp P (Exit.then (J K E) Q))) (h2 : ∀ a w, J K E a w → y.wp P Q a w) : Ge S0 w0 n K E ((Code.seq x y).wp P Q) :=
 fun a w S hK hE => seq_join1 (J K E) (h1 a w S hK hE) h2
theorem lp [DSc] (J : List (Nat × Value) → List Iz → Nat → Act → World → Prop) (F : Nat) (h0 : Ge S0 w0 n K E (J K E F)) (h1 : ∀ m a w, J K E m a w → c.wp P (Exit.then (fun a' w' => ∃ m', J K E m' a' w' ∧ m' < m) Q) a w) : Ge S0 w0 n K E ((Code.loop c).wp P Q) :=
 fun a w S hK hE => vc_loop (γ := Nat) (fun m a w => J K E m a w) (fun m => m) F (h0 a w S hK hE) h1
end
end Go.Proofs.Ytlfkgbideknkhaa
namespace Go.Proofs.Ytlfkgbideknkhaa
open Go.RowKit
structure Inf (P : Program) (T e : TypeId) (m bytes : Nat) (z : Value) : Prop where
 t : P.underlying T = some (.slice e)
 i : (P.info? e).map (fun i => (i.zero, i.size, i.bytes)) = some (some z, m, bytes)
section
variable {S0 S : Nat → Prop} {w0 w w' : World} {n : Nat} {K K' : List (Nat × Value)} {E E' : List Iz} {X : Act → World → Prop} {P : Program} {ops : Array Oper} {Q : Exit → Act → World → Prop} {o : Oper} {L : List Oper} {v v' : Value} {p q : Pr} {Kx : Act → World → Prop}
variable {T e : TypeId} {m bytes : Nat} {z0 : Value} {α β : Type} {A : Option Addr} {c : Nat} {f : α → List Value} {ok : α → Pr} {l : List α}
theorem ix_run {b off len c j : Nat} {k : IntKind} (inf : Inf P T e m bytes z0) (hj : j < len) (W : World) : (Instr.indexAt T (.slice (some ⟨b, off, none⟩) len c) (.int k (j : Int))).run P W = .ok (.pointer (some ⟨b, off + j * m, none⟩)) W := by
 obtain ⟨ti, hti, _, hm, _⟩ := info_parts inf.i; exact sx_run _ (ix_slice (P := P) (c := c) (k := k) (b := b) (off := off) inf.t hti hm hj) trivial
theorem fx0 [DSc] (inf : Inf P T e m bytes z0) (hr : Fd E (RowC A c f ok l)) {z : Int} {x : α} (hy : ixI l z = some x) (hm : ∀ x, (f x).length = m) (h0 : 0 < m)
  (h : ∀ b o, (∀ k W, (Instr.indexAt T (.slice A l.length c) (.int k z)).run P W = .ok (.pointer (some ⟨b, o, none⟩)) W) → Ge S0 w0 n K (.rc b o (f x) :: .dat (ok x) :: E) X) : Ge S0 w0 n K E X := fun a w S hK hE => by
 obtain ⟨j, rfl, hx⟩ := ixI_some hy; have hlt := (List.getElem?_eq_some_iff.1 hx).1; obtain ⟨b, off, hA, _⟩ := (hr _ _ _ _ hE S w (fun _ h => h) (Ag.refl _ _)).r.elem hm h0 hx; subst hA; refine h b (off + j * m) (fun k W => ix_run inf hlt W) a w S hK ?_; refine Es.dat (Es.dat hE fun S' W h1 h2 => (hr _ _ _ _ hE S' W h1 h2).e x (List.mem_of_getElem? hx)) fun S' W h1 h2 => ?_
 obtain ⟨b', o', hA', hrec⟩ := (hr _ _ _ _ hE S' W h1 h2).r.elem hm h0 hx
 injection hA' with e
 injection e with e1 e2
 subst e1 e2; exact hrec
theorem fx [DSc] (inf : Inf P T e m bytes z0) (hr : Fd E (RowC A c f tr l)) {z : Int} {x : α} (hy : ixI l z = some x)
  (h : ∀ b o, (∀ k W, (Instr.indexAt T (.slice A l.length c) (.int k z)).run P W = .ok (.pointer (some ⟨b, o, none⟩)) W) → Ge S0 w0 n K (.rc b o (f x) :: E) X) (hm : ∀ x, (f x).length = m := by intro _; rfl) (h0 : Nat.ble 1 m = true := by kernel_rfl) : Ge S0 w0 n K E X :=
 fx0 inf hr hy hm (Nat.le_of_ble_eq_true h0) fun b o hi a w S hK hE => h b o hi a w S hK (Es.sel hE (0 :: (List.range E.length).map (· + 2)) (by
  have : ∀ (l : List Nat), l.Nodup → ndB l = true := by
   intro l hl
   induction l with
   | nil => rfl
   | cons a l ih =>
    simp only [List.nodup_cons] at hl; simp only [ndB, Bool.and_eq_true]; refine ⟨?_, ih hl.2⟩; have : ∀ (l : List Nat), a ∉ l → noIn a l = true := by
     intro l h
     induction l with
     | nil => rfl
     | cons b l ih => simp only [List.mem_cons, not_or] at h; simp only [noIn, Bool.and_eq_true, Bool.not_eq_true']; exact ⟨by rw [Bool.eq_false_iff]; intro hb; exact h.1 (Nat.eq_of_beq_eq_true hb), ih h.2⟩
    exact this l hl.1
  refine this _ (List.nodup_cons.2 ⟨by simp, ?_⟩); exact List.Pairwise.map _ (fun a b h => by omega) List.nodup_range) (by
  have key : ∀ (l : List Ik) (A B : Ik), selL (A :: B :: l) ((List.range l.length).map (· + 2)) = some l := by
   intro l A B; have g : ∀ (k : Nat) (r : List Ik), r = l.drop k → selL (A :: B :: l) ((List.range' k r.length).map (· + 2)) = some r := by
    intro k r
    induction r generalizing k with
    | nil => intro _; rfl
    | cons x r ih =>
     intro hr; have hx : l[k]? = some x := by rw [← List.head?_drop, ← hr]; rfl
     have ht : r = l.drop (k + 1) := by rw [← List.tail_drop, ← hr]; rfl
     rw [List.length_cons, List.range'_succ, List.map_cons]; unfold selL; rw [ih (k + 1) ht]
     simp [hx]
   have := g 0 l rfl
   rwa [← List.range_eq_range'] at this
  show selL (_ :: _ :: E.map Iz.ik) (0 :: _) = some (_ :: E.map Iz.ik)
  have := key (E.map Iz.ik) (Iz.rc b o (f x)).ik (Iz.dat (tr x)).ik; rw [List.length_map] at this; unfold selL; rw [this]; rfl))
theorem fxn [DSc] {p : α → β} (inf : Inf P T e m bytes z0) (hr : Fd E (RowC A c f ok l)) {z : Int} {y : β} (hy : ixI (l.map p) z = some y)
  (h : ∀ x b o, p x = y → (∀ k W, (Instr.indexAt T (.slice A l.length c) (.int k z)).run P W = .ok (.pointer (some ⟨b, o, none⟩)) W) → Ge S0 w0 n K (.rc b o (f x) :: .dat (ok x) :: E) X) (hm : ∀ x, (f x).length = m := by intro _; rfl) (h0 : Nat.ble 1 m = true := by kernel_rfl) : Ge S0 w0 n K E X := by
 obtain ⟨x, hx, e⟩ := ixI_map hy; exact fx0 inf hr hx hm (Nat.le_of_ble_eq_true h0) fun b o hi => h x b o e hi
def ib (b : Bool) (k : IntKind) (z : Int) : Option Value := match b with
 | true => some (.int k z)
 | false => none
theorem fp0 [DSc] (lo hi : Bool) (inf : Inf P T e m bytes z0) (hr : Fd E (RowC A c f ok l)) {a b : Int} {r : List α} (hy : slI l a b = some r) (hlo : lo = false → a = 0) (hhi : hi = false → b = ((l.length : Nat) : Int)) (hm : ∀ x, (f x).length = m)
  (h : ∀ A' c', (∀ k k' W, (Instr.sliceAt T (.slice A l.length c) (ib lo k a) (ib hi k' b) none).run P W = .ok (.slice A' r.length c') W) → Ge S0 w0 n K (.dat (RowC A' c' f ok r) :: E) X) : Ge S0 w0 n K E X := fun ac w S hK hE => by
 obtain ⟨ti, hti, _, hm', _⟩ := info_parts inf.i; obtain ⟨p, q, rfl, rfl, hpq, hql, hrr⟩ := slI_some hy; have hc := (hr _ _ _ _ hE S w (fun _ h => h) (Ag.refl _ _)).c; obtain ⟨A', c', _, hc', hrow⟩ := ex_part (P := P) (T := T) (A := A) (n := l.length) (c := c) (f := f) (m := m) (L := l) (r := r) (p := p) (q := q) hm hpq hql hrr rfl hc inf.t hti hm'; have hrl : r.length = q - p := by rw [hrr, List.length_drop, List.length_take]; omega
 refine h (if c = p then A else A.map (·.add (p * m))) (c - p) (fun k k' W => ?_) ac w S hK (Es.dat hE fun S' W h1 h2 => ?_)
 ·rw [hrl]; refine run_part (p := p) (q := q) (n := l.length) _ _ inf.t hti hm' ?_ ?_ hpq hql hc W
  ·cases lo with
   | false => exact .inl ⟨rfl, by have := hlo rfl; omega⟩
   | true => exact .inr ⟨k, rfl⟩
  ·cases hi with
   | false => exact .inl ⟨rfl, by have := hhi rfl; omega⟩
   | true => exact .inr ⟨k', rfl⟩
 ·have h3 := hr _ _ _ _ hE S' W h1 h2; refine ⟨?_, by omega, fun y hy => h3.e y (List.mem_of_mem_take (List.mem_of_mem_drop (hrr ▸ hy)))⟩; subst hrr
  split
  ·next hcp =>
   have : (l.take q).drop p = [] := List.drop_eq_nil_of_le (by rw [List.length_take]; omega); rw [this]; exact RowS.nil _ _ _
  ·exact h3.r.part hm p q hql
theorem fp [DSc] (lo hi : Bool) (inf : Inf P T e m bytes z0) (hr : Fd E (RowC A c f ok l)) {a b : Int} {r : List α} (hy : slI l a b = some r)
  (h : ∀ A' c', (∀ k k' W, (Instr.sliceAt T (.slice A l.length c) (ib lo k a) (ib hi k' b) none).run P W = .ok (.slice A' r.length c') W) → Ge S0 w0 n K (.dat (RowC A' c' f ok r) :: E) X) (hlo : lo = false → a = 0 := by first | (intro _; rfl) | (intro h; cases h)) (hhi : hi = false → b = ((l.length : Nat) : Int) := by first | (intro _; rfl) | (intro h; cases h)) (hm : ∀ x, (f x).length = m := by intro _; rfl) : Ge S0 w0 n K E X := fp0 lo hi inf hr hy hlo hhi hm h
theorem fpn [DSc] {p : α → β} (lo hi : Bool) (inf : Inf P T e m bytes z0) (hr : Fd E (RowC A c f ok l)) {a b : Int} {y : List β} (hy : slI (l.map p) a b = some y)
  (h : ∀ r A' c', r.map p = y → (∀ k k' W, (Instr.sliceAt T (.slice A l.length c) (ib lo k a) (ib hi k' b) none).run P W = .ok (.slice A' r.length c') W) → Ge S0 w0 n K (.dat (RowC A' c' f ok r) :: E) X) (hlo : lo = false → a = 0 := by first | (intro _; rfl) | (intro h; cases h)) (hhi : hi = false → b = ((l.length : Nat) : Int) := by first | (intro _; rfl) | (intro h; cases h; done) | (intro _; simp)) (hm : ∀ x, (f x).length = m := by intro _; rfl) : Ge S0 w0 n K E X := by
 obtain ⟨r, hr', e⟩ := slI_map hy; exact fp0 lo hi inf hr hr' hlo hhi hm fun A' c' => h r A' c' e
def ownT (E : List Iz) (i : Nat) : Option (TypeId × Nat × Value × Nat × List Value) := match E[i]? with
 | some (.own e m v k xs) => some (e, m, v, k, xs)
 | _ => none
theorem own_at' {i : Nat} {x : TypeId × Nat × Value × Nat × List Value} (h : ownT E i = some x) : E[i]? = some (.own x.1 x.2.1 x.2.2.1 x.2.2.2.1 x.2.2.2.2) := by
 unfold ownT at h
 split at h
 ·next e m v k xs hx => cases h; exact hx
 ·cases h
def apOf (ρ : Operand → Value) (o : Oper) : Option (TypeId × Value × Value) := match o.op with
 | .call c => match c.callee with
  | .builtin .append => match c.args.toList, c.argTypes.toList with
   | [s, x], [T, T'] => match Nat.beq T T' with
    | true => some (T, ρ s, ρ x)
    | false => none
   | _, _ => none
  | _ => none
 | _ => none
theorem apOf_run {ρ : Operand → Value} {T : TypeId} {s x r : Value} {W W' : World} (h : apOf ρ o = some (T, s, x)) (hr : (Builtin.append_ #[T, T] o.type #[s, x]).run P W = .ok r W') : (execOp ρ o).run P W = .ok (.value r) W' := by
 unfold apOf at h
 split at h
 ·next c hop =>
  split at h
  ·next hc =>
   split at h
   ·next s' x' T1 T2 ha ht =>
    split at h
    ·next hb =>
     have e := Nat.eq_of_beq_eq_true hb
     injection h with h
     injection h with h1 h2
     injection h2 with h2 h3
     subst h1 h2 h3 e; have ha' : c.args = #[s', x'] := by rw [← ha, Array.toArray_toList]
     have ht' : c.argTypes = #[T1, T1] := by rw [← ht, Array.toArray_toList]
     obtain ⟨cc, ca, ct⟩ := c; simp only at hc ha' ht'; subst hc ha' ht'; unfold execOp; simp only [hop, resolve, invoke, builtin, Sem.run_bind, Sem.run_pure, Result.andThen_ok, List.map_toArray, List.map_cons, List.map_nil, hr]
    ·cases h
   ·cases h
  ·cases h
 ·cases h
theorem fl_len' {α : Type} {f : α → List Value} {m : Nat} (hm : ∀ x, (f x).length = m) (l : List α) : (l.flatMap f).length = l.length * m := fl_len f m hm l
theorem ap0 [DSc] (i d : Nat) {l2 r : List α} {A2 : Option Addr} {c2 : Nat} (inf : Inf P T e m bytes z0) (hs : Fa E (RowC A2 c2 f tr l2)) (hr : r = l ++ l2) (hby : (l.length + l2.length) * bytes ≤ 140737488355328) (hb1 : Nat.ble 1 bytes = true) (hone : ∀ u ∈ l2.flatMap f, u.oneCell' = true) (hm : ∀ x, (f x).length = m) (h0 : Nat.ble 1 m = true) (hz : Nat.beq z0.cells.size m = true)
  (h : ∀ A' c', r.length ≤ c' → Ge S0 w0 n ((d, .slice A' r.length c') :: K) (setz E i (.own e m (.slice A' r.length c') r.length (r.flatMap f))) Kx)
  (hi : ownT E i = some (e, m, .slice A l.length c, l.length, l.flatMap f)) (he : ∀ J, apOf (rho K J) o = some (T, .slice A l.length c, .slice A2 l2.length c2)) (hd : o.dst = some d) (hn : Nat.blt d n = true) :
  Ge S0 w0 n K E (oW P o Q Kx) := fun a w S hK hE => by
 obtain ⟨ti, hti, hz0, hsz, hbt⟩ := info_parts inf.i; have h1 := hE.at (own_at' hi)
 have hrl : r.length = l.length + l2.length := by rw [hr, List.length_append]
 have hb1' := Nat.le_of_ble_eq_true hb1; have hmax : l.length + l2.length ≤ maxLen := by
  have h2 : (l.length + l2.length) * 1 ≤ (l.length + l2.length) * bytes := Nat.mul_le_mul_left _ hb1'; simp only [maxLen]; omega
 obtain ⟨A', c', w', hrun, hc1, hc2, hev⟩ := run_append_es (P := P) (ty := o.type) (c := c2) (mm := l2.length) (news := l2.flatMap f) inf.t hti hz0 hsz hbt (Nat.eq_of_beq_eq_true hz) (Nat.le_of_ble_eq_true h0) hE h1 (fl_len' hm l2) (hs _ _ _ _ hE).r.r hone hmax hby
 unfold oW Oper.wp Oper.upon; rw [hK.eval, apOf_run (he _) hrun]; simp only [hd]; rw [← hrl] at hev hc1 ⊢; refine h A' c' hc1 _ _ S (hK.put hn _) ?_; unfold Ez; rw [setz_map, hr, List.flatMap_append, ← hr]; exact hev
theorem ap [DSc] (i d : Nat) (A : Option Addr) (c : Nat) (l l2 : List α) {r : List α} {A2 : Option Addr} {c2 : Nat} (inf : Inf P T e m bytes z0) (hs : Fa E (RowC A2 c2 f tr l2)) (hy : apG bytes l l2 = some r) (hone : ∀ l : List α, ∀ u ∈ l.flatMap f, u.oneCell' = true)
  (h : ∀ A' c', r.length ≤ c' → Ge S0 w0 n ((d, .slice A' r.length c') :: K) (setz E i (.own e m (.slice A' r.length c') r.length (r.flatMap f))) Kx)
  (hi : ownT E i = some (e, m, .slice A l.length c, l.length, l.flatMap f) := by kernel_rfl) (he : ∀ J, apOf (rho K J) o = some (T, .slice A l.length c, .slice A2 l2.length c2) := by intro J; kernel_rfl) (hd : o.dst = some d := by kernel_rfl) (hn : Nat.blt d n = true := by kernel_rfl) (hb1 : Nat.ble 1 bytes = true := by kernel_rfl) (hm : ∀ x, (f x).length = m := by intro _; rfl) (h0 : Nat.ble 1 m = true := by kernel_rfl) (hz : Nat.beq z0.cells.size m = true := by kernel_rfl) :
  Ge S0 w0 n K E (oW P o Q Kx) := ap0 (l := l) i d inf hs (apG_some hy).2 (apG_some hy).1 hb1 (hone l2) hm h0 hz h hi he hd hn
theorem apn [DSc] {p : α → β} (i d : Nat) (A : Option Addr) (c : Nat) (l l2 : List α) {y : List β} {A2 : Option Addr} {c2 : Nat} (inf : Inf P T e m bytes z0) (hs : Fa E (RowC A2 c2 f tr l2)) (e1 : Fd E (Each ok l)) (e2 : Fd E (Each ok l2)) (hy : apG bytes (l.map p) (l2.map p) = some y) (hone : ∀ l : List α, ∀ u ∈ l.flatMap f, u.oneCell' = true)
  (h : ∀ r A' c', r.map p = y → r.length ≤ c' → Ge S0 w0 n ((d, .slice A' r.length c') :: K) (setz (.dat (Each ok r) :: E) (i + 1) (.own e m (.slice A' r.length c') r.length (r.flatMap f))) Kx)
  (hi : ownT E i = some (e, m, .slice A l.length c, l.length, l.flatMap f) := by kernel_rfl) (he : ∀ J, apOf (rho K J) o = some (T, .slice A l.length c, .slice A2 l2.length c2) := by intro J; kernel_rfl) (hd : o.dst = some d := by kernel_rfl) (hn : Nat.blt d n = true := by kernel_rfl) (hb1 : Nat.ble 1 bytes = true := by kernel_rfl) (hm : ∀ x, (f x).length = m := by intro _; rfl) (h0 : Nat.ble 1 m = true := by kernel_rfl) (hz : Nat.beq z0.cells.size m = true := by kernel_rfl) :
  Ge S0 w0 n K E (oW P o Q Kx) := by
 obtain ⟨r, hr, e⟩ := apG_map hy; obtain ⟨hr1, hr2⟩ := apG_some hr; refine fm (Each ok r) (fun _ _ _ _ hE S' W h1 h2 y hy => ?_) (ap0 (l := l) (i + 1) d inf (fun S0 w0 w S hE => hs S0 w0 w S (Es.drop hE (List.sublist_cons_self _ _))) hr2 hr1 hb1 (hone l2) hm h0 hz (fun A' c' => h r A' c' e) (by show ownT E i = _; exact hi) he hd hn); rw [hr2] at hy; rcases List.mem_append.1 hy with hy | hy
 ·exact e1 _ _ _ _ hE S' W h1 h2 y hy
 ·exact e2 _ _ _ _ hE S' W h1 h2 y hy
theorem Fa.tr {l : List α} (h : Fa E (RowC A c f ok l)) : Fa E (RowC A c f tr l) := fun _ _ _ _ hE => ⟨(h _ _ _ _ hE).r, (h _ _ _ _ hE).c, fun _ _ => trivial⟩
def Wz (S0 : Nat → Prop) (w0 : World) (lk : List Iz) (W : World) : Prop := ∃ S, Ez S0 w0 W S lk
def mk : Nat → List Nat → Array Bool
 | n, [] => Array.replicate n false
 | n, i :: l => (mk n l).setIfInBounds i true
def wH (P : Program) (ops : Array Oper) (Q : Exit → Act → World → Prop) (S0 : Nat → Prop) (w0 : World) (lk : List Iz) (l : List Nat) : Act → World → Prop :=
 fun a w => wpAnyH P .any ops Q (Wz S0 w0 lk) (ops.size - l.length) (mk ops.size l) a w
variable {lk : List Iz} {li : List Nat}
theorem hb [DSc] {id : Nat} (il : List Nat) (h : Ge S0 w0 n K E (wH P L.toArray Q S0 w0 (se E il) [])) (hm : P.follows .mixedOrders = true := by kernel_rfl) :
  Ge S0 w0 n K E ((Code.region id L.toArray true).wp P Q) := fun a w S hK hE => by
 refine wp_region_held (S := Wz S0 w0 (se E il)) hm ?_; have h2 : Ez S0 w0 w.drew S E := Es.drew hE; exact h a _ S hK h2
def fre (ops : Array Oper) (li : List Nat) (i : Nat) : Bool := match Region.free .any ops (mk ops.size li) i with
 | true => match (Region.ready .any ops (mk ops.size li)).contains i with
  | true => Nat.blt li.length ops.size
  | false => false
 | false => false
def runh (P : Program) (n : Nat) (ops : Array Oper) (E : List Iz) (J : Nat → Value) : List Nat → List Nat → List (Nat × Nat × Nat × Nat) → List Fct → List (Nat × Value) → List (Addr × Value) → List Fct → Option (List Nat × List (Nat × Value) × List (Addr × Value) × List Fct)
 | [], li, _, _, K, x, u => some (li, K, x, u)
 | i :: is, li, hs, fs, K, x, u => match fre ops li i with
  | false => none
  | true => match ops[i]? with
   | none => none
   | some o => match o.dst with
    | none => match gd ops K o with
     | some false => runh P n ops E J is (i :: li) (dec hs) fs K x u
     | _ => none
    | some d => match Nat.blt d n with
     | false => none
     | true => match one P ops E J K o hs fs with
      | none => none
      | some (v, hs', fs', ob, us) => runh P n ops E J is (i :: li) hs' fs' ((d, v) :: K) (ob ++ x) (us ++ u)
def clashh (new K : List (Nat × Value)) (ops : Array Oper) : List Nat → Bool
 | [] => true
 | i :: is => match (ops[i]?).bind (·.dst) with
  | none => clashh new K ops is
  | some d => match hasK new d with
   | true => clashh new K ops is
   | false => match hasK K d with
    | true => false
    | false => clashh new K ops is
theorem fre_spec {i : Nat} (h : fre ops li i = true) : Region.free .any ops (mk ops.size li) i = true ∧ (Region.ready .any ops (mk ops.size li)).contains i = true ∧ li.length < ops.size := by
 unfold fre at h
 split at h
 ·next h1 =>
  split at h
  ·next h2 => exact ⟨h1, h2, by rwa [Nat.blt_eq] at h⟩
  ·cases h
 ·cases h
theorem runh_grow {J : Nat → Value} : ∀ {is li : List Nat} {hs : List (Nat × Nat × Nat × Nat)} {fs : List Fct} {K : List (Nat × Value)} {x : List (Addr × Value)} {u : List Fct} {r}, runh P n ops E J is li hs fs K x u = some r → (∃ x', r.2.2.1 = x' ++ x) ∧ (∃ u', r.2.2.2 = u' ++ u) := by
 intro is
 induction is with
 | nil => intro li hs fs K x u r h; unfold runh at h; cases h; exact ⟨⟨[], rfl⟩, ⟨[], rfl⟩⟩
 | cons i is ih =>
  intro li hs fs K x u r h; unfold runh at h
  split at h
  ·cases h
  ·split at h
   ·cases h
   ·split at h
    ·split at h
     ·exact ih h
     ·cases h
    ·split at h
     ·cases h
     ·split at h
      ·cases h
      ·next v hs' fs' ob us _ =>
       obtain ⟨⟨x', hx⟩, ⟨u', hu⟩⟩ := ih h; exact ⟨⟨x' ++ ob, by rw [hx, List.append_assoc]⟩, ⟨u' ++ us, by rw [hu, List.append_assoc]⟩⟩
theorem runh_keep {J : Nat → Value} {new K0 : List (Nat × Value)} : ∀ {is li : List Nat} {hs : List (Nat × Nat × Nat × Nat)} {fs : List Fct} {K : List (Nat × Value)} {x : List (Addr × Value)} {u : List Fct} {r}, runh P n ops E J is li hs fs K x u = some r → clashh new K0 ops is = true → ∀ d, look new d = none → hasK K0 d = true → look r.2.1 d = look K d := by
 intro is
 induction is with
 | nil => intro li hs fs K x u r h _ d _ _; unfold runh at h; cases h; rfl
 | cons i is ih =>
  intro li hs fs K x u r h hc d hnew h0; have key : clashh new K0 ops is = true ∧ ∀ d', (ops[i]?).bind (·.dst) = some d' → d' ≠ d := by
   unfold clashh at hc
   split at hc
   ·next hd => exact ⟨hc, fun d' e => by rw [hd] at e; cases e⟩
   ·next d' hd =>
    split at hc
    ·next hn => exact ⟨hc, fun d'' e => by rw [hd] at e; cases e; intro e; subst e; rw [look_has hnew] at hn; cases hn⟩
    ·split at hc
     ·cases hc
     ·next hk => exact ⟨hc, fun d'' e => by rw [hd] at e; cases e; intro e; subst e; rw [h0] at hk; cases hk⟩
  obtain ⟨hc', hne⟩ := key; unfold runh at h
  split at h
  ·cases h
  ·split at h
   ·cases h
   ·next o ho =>
    split at h
    ·split at h
     ·exact ih h hc' d hnew h0
     ·cases h
    ·next d' hd =>
     split at h
     ·cases h
     ·split at h
      ·cases h
      ·rw [ih h hc' d hnew h0, look_cons]; have := hne d' (by rw [ho]; exact hd); rw [Bool.eq_false_iff.2 (fun hb => this (Nat.eq_of_beq_eq_true hb))]
theorem runh_go [DSc] {J : Nat → Value} (hns : Region.noSelect ops = true) (hQ : ∀ (d : Nat) v c a w, Q (.panic c) (Act.put a (some d) v) w → Q (.panic c) a w) (hW : Wz S0 w0 lk w) :
  ∀ {is li : List Nat} {hs : List (Nat × Nat × Nat × Nat)} {fs : List Fct} {K : List (Nat × Value)} {x : List (Addr × Value)} {u : List Fct} {r} {a : Act}, runh P n ops E J is li hs fs K x u = some r → KnJ n K J a → (∀ w, Wz S0 w0 lk w → Obs w r.2.2.1) → AllF P r.2.2.2 → (∀ a', KnJ n r.2.1 J a' → wH P ops Q S0 w0 lk r.1 a' w) → wH P ops Q S0 w0 lk li a w := by
 intro is
 induction is with
 | nil => intro li hs fs K x u r a h hK _ _ hk; unfold runh at h; cases h; exact hk a hK
 | cons i is ih =>
  intro li hs fs K x u r a h hK ho hf hk; have fuel : ∀ l, l.length < ops.size → ops.size - l.length = (ops.size - (i :: l).length) + 1 := fun l hl => by rw [List.length_cons]; omega
  unfold runh at h
  split at h
  ·cases h
  ·next hfre =>
   obtain ⟨f1, f2, f3⟩ := fre_spec hfre
   split at h
   ·cases h
   ·next o ho' =>
    split at h
    ·next hd =>
     split at h
     ·next hg =>
      unfold wH; rw [fuel _ f3]; exact wpAnyH_take (v := undef) ho' hns f1 f2 (by rw [hd]; exact fun _ _ _ h => h) (.inr ⟨hK.k.wanted hg, rfl⟩) hW (by rw [hd]; exact ih h hK ho hf hk)
     ·cases h
    ·next d hd =>
     split at h
     ·cases h
     ·next hn =>
      split at h
      ·cases h
      ·next v hs' fs' ob us h1 =>
       obtain ⟨⟨x', hx⟩, ⟨u', hu⟩⟩ := runh_grow h; have hf' : AllF P us := by have h2 := hf; rw [hu] at h2; exact h2.right.left
       unfold wH; rw [fuel _ f3]; refine wpAnyH_take (v := v) ho' hns f1 f2 (fun c a w => by rw [hd]; exact hQ _ _ c a w) ?_ hW (by rw [hd]; exact ih h (hK.put hn v) ho hf hk); rcases one_run h1 hK hf' with ⟨hw, hr⟩ | ⟨hw, e⟩
       ·refine .inl ⟨hw, fun W hWW => hr W ?_⟩; have h2 := ho W hWW; rw [hx] at h2; exact h2.right.left
       ·exact .inr ⟨hw, e⟩
theorem ht [DSc] (il is : List Nat) (hs : List (Nat × Nat × Nat × Nat)) {fs : List Fct} (hF : AllF P fs) (new : List (Nat × Value)) (h : Ge S0 w0 n (new ++ K) E (wH P ops Q S0 w0 lk (is.reverse ++ li)))
  (he : ∀ J, (runh P n ops lk J is li hs fs K [] []).map (fun r => (r.1, new.map fun p => look r.2.1 p.1, r.2.2.1, r.2.2.2)) = some (is.reverse ++ li, new.map fun p => some p.2, gvl lk hs [], rvf fs []) := by intro J; kernel_rfl) (hc : clashh new K ops is = true := by kernel_rfl) (hns : Region.noSelect ops = true := by kernel_rfl) (hQ : ∀ (d : Nat) v c a w, Q (.panic c) (Act.put a (some d) v) w → Q (.panic c) a w := by intro _ _ _ _ _ h; exact h)
  (hw : selz E il = some lk := by kernel_rfl) (hn : ndB il = true := by kernel_rfl) : Ge S0 w0 n K E (wH P ops Q S0 w0 lk li) := fun a w S hK hE => by
 have h1 := he (fun t => a.tmps.getD t undef); rw [Option.map_eq_some_iff] at h1; obtain ⟨r, h1, h2⟩ := h1; simp only [Prod.mk.injEq] at h2; refine runh_go hns hQ ⟨S, hE.sel il hw hn⟩ h1 hK.toJ (fun w hw => ?_) (by rw [h2.2.2.2]; exact rvf_all hF trivial) (fun a' ha' => ?_)
 ·obtain ⟨S, hW⟩ := hw; rw [h2.2.2.1]; exact gvl_obs hW trivial
 ·rw [h2.1]; refine h a' w S ⟨ha'.k.d, ha'.k.s, fun i u hu => ha'.k.k i u ?_⟩ hE; rw [look_app] at hu
  split at hu
  ·next v hv => cases hu; exact look_map h2.2.1 i _ hv
  ·next hv =>
   have : hasK K i = true := by
    cases hk : hasK K i with
    | true => rfl
    | false => rw [hasK_none hk] at hu; cases hu
   rw [runh_keep h1 hc i hv this]; exact hu
def wO (P : Program) (ops : Array Oper) (Q : Exit → Act → World → Prop) (S0 : Nat → Prop) (w0 : World) (lk : List Iz) (li : List Nat) (i : Nat) : Act → World → Prop :=
 fun a w => wpOp P ops Q i (fun a' w' => Wz S0 w0 lk w' ∧ wH P ops Q S0 w0 lk (i :: li) a' w') a w
theorem ho [DSc] (rs : List Nat) (h : allOf (fun i => Ge S0 w0 n K E (wO P ops Q S0 w0 lk li i)) rs) (hr : Region.ready .any ops (mk ops.size li) = rs := by kernel_rfl) (hne : rs.isEmpty = false := by kernel_rfl) (hl : Nat.blt li.length ops.size = true := by kernel_rfl) : Ge S0 w0 n K E (wH P ops Q S0 w0 lk li) := fun a w S hK hE => by
 have hl' : li.length < ops.size := by rwa [Nat.blt_eq] at hl
 unfold wH; rw [show ops.size - li.length = (ops.size - (li.length + 1)) + 1 by omega]; refine wpAnyH_all hr (by intro e; subst e; cases hne) fun i hi => ?_
 exact allOf_mem h i hi a w S hK hE
theorem h1 [DSc] {i : Nat} (h : Ge S0 w0 n K E (oW P o Q (fun a' w' => Wz S0 w0 lk w' ∧ wH P ops Q S0 w0 lk (i :: li) a' w'))) (ho : ops[i]? = some o := by rfl) (hg : gd ops K o = some true := by kernel_rfl) : Ge S0 w0 n K E (wO P ops Q S0 w0 lk li i) := fun a w S hK hE => hd_of ho hK hg (h a w S hK hE)
theorem hk [DSc] {l' : List Nat} (il : List Nat) (h : Ge S0 w0 n K E (wH P ops Q S0 w0 lk l')) (hw : selz E il = some lk := by kernel_rfl) (hn : ndB il = true := by kernel_rfl) : Ge S0 w0 n K E (fun a' w' => Wz S0 w0 lk w' ∧ wH P ops Q S0 w0 lk l' a' w') := fun a w S hK hE => ⟨⟨S, hE.sel il hw hn⟩, h a w S hK hE⟩
theorem po [DSc] (d : Nat) (v : Value) (hs : List (Nat × Nat × Nat × Nat)) {fs : List Fct} (hF : AllF P fs) (h : Ge S0 w0 n ((d, v) :: K) E Kx) (he : Rck P n #[] E K [{ o with guard := none }] 1 hs fs [(d, v)] := by intro J; kernel_rfl) (hd : o.dst = some d := by kernel_rfl) (hn : Nat.blt d n = true := by kernel_rfl) : Ge S0 w0 n K E (oW P o Q Kx) := fun a w S hK hE => by
 have h1 := he (fun t => a.tmps.getD t undef); rw [Option.map_eq_some_iff] at h1; obtain ⟨r, h1, h2⟩ := h1; simp only [Prod.mk.injEq] at h2; unfold runz at h1; simp only [hd, hn] at h1
 split at h1
 ·cases h1
 ·next v' hs' fs' ob us h3 =>
  unfold runz at h1; cases h1; have hv := h2.1; simp only [List.map_cons, List.map_nil, List.cons.injEq, and_true, look_cons, show Nat.beq d d = true from Nat.beq_refl d, Option.some.injEq] at hv; subst hv; have ho := gvl_obs hE (hs := hs) (y := []) trivial; have hf := rvf_all hF (y := []) trivial; rw [← h2.2.1] at ho; rw [← h2.2.2] at hf; rcases one_run h3 hK.toJ hf.left with ⟨_, hr⟩ | ⟨hw, _⟩
  ·unfold oW Oper.wp Oper.upon; have hr' : (execOp a.eval o).run P w = .ok (.value v') w := hr w ho.left; rw [hr', hd]; exact h _ _ _ (hK.put hn _) hE
  ·cases hw
theorem he [DSc] (h : Ge S0 w0 n K E (Q .normal)) (hr : Region.ready .any ops (mk ops.size li) = [] := by kernel_rfl) : Ge S0 w0 n K E (wH P ops Q S0 w0 lk li) := fun a w S hK hE => wpAnyH_done hr (h a w S hK hE) _
end
end Go.Proofs.Ytlfkgbideknkhaa
namespace Go.Proofs.Ytlfkgbideknkhaa
open Go.RowKit
section
variable {S0 S : Nat → Prop} {w0 w w' : World} {n : Nat} {K K' : List (Nat × Value)} {E E' : List Iz} {X : Act → World → Prop} {P : Program} {ops : Array Oper} {Q : Exit → Act → World → Prop} {o : Oper} {L : List Oper} {v v' : Value} {p q : Pr} {Kx : Act → World → Prop}
variable {T e : TypeId} {m bytes : Nat} {z0 : Value} {α β : Type} {A : Option Addr} {c : Nat} {f : α → List Value} {ok : α → Pr} {l : List α}
end
end Go.Proofs.Ytlfkgbideknkhaa
namespace Go.Proofs.Ytlfkgbideknkhaa
open Go.RowKit Go.Sort
section
variable {S0 S : Nat → Prop} {w0 w w' : World} {n : Nat} {K K' : List (Nat × Value)} {E E' : List Iz} {X : Act → World → Prop} {P : Program} {ops : Array Oper} {Q : Exit → Act → World → Prop} {o : Oper} {L : List Oper} {v v' : Value} {Kx : Act → World → Prop}
variable {e : TypeId}
end
section
variable {S0 S : Nat → Prop} {w0 w w' : World} {n : Nat} {K K' : List (Nat × Value)} {E E' : List Iz} {X : Act → World → Prop} {P : Program} {ops : Array Oper} {Q : Exit → Act → World → Prop} {o : Oper} {L : List Oper} {v v' : Value} {p q : Pr} {Kx : Act → World → Prop}
variable {T e : TypeId} {m bytes : Nat} {z0 : Value} {α β : Type} {A : Option Addr} {c : Nat} {f : α → List Value} {ok : α → Pr} {l : List α}
end
end Go.Proofs.Ytlfkgbideknkhaa
namespace Go.Proofs.Ytlfkgbideknkhaa
open Go.RowKit Go.Maps
section
variable {α β : Type}
def mpG (m : List (Int × α)) (k : Int) (z : α) : α := match m.find? (fun p => k == p.1) with
 | some p => p.2
 | none => z
def mpH (m : List (Int × α)) (k : Int) : Bool := m.any fun p => k == p.1
def mpS : List (Int × α) → Int → α → List (Int × α)
 | [], k, x => [(k, x)]
 | p :: m, k, x => if (k == p.1) = true then (k, x) :: m else p :: mpS m k x
def mpM (f : α → β) (m : List (Int × α)) : List (Int × β) := m.map fun p => (p.1, f p.2)
theorem mpG_M (f : α → β) (k : Int) (z : α) : ∀ m : List (Int × α), mpG (mpM f m) k (f z) = f (mpG m k z)
 | [] => rfl
 | p :: m => by
  have ih := mpG_M f k z m; unfold mpG mpM at ih ⊢; rw [List.map_cons, List.find?_cons, List.find?_cons]; cases h : k == p.1
  ·exact ih
  ·rfl
theorem mpH_M (f : α → β) (k : Int) : ∀ m : List (Int × α), mpH (mpM f m) k = mpH m k
 | [] => rfl
 | p :: m => by
  have ih := mpH_M f k m; unfold mpH mpM at ih ⊢; rw [List.map_cons, List.any_cons, List.any_cons, ih]
theorem mpS_M (f : α → β) (k : Int) (x : α) : ∀ m : List (Int × α), mpS (mpM f m) k (f x) = mpM f (mpS m k x)
 | [] => rfl
 | p :: m => by
  have ih := mpS_M f k x m; unfold mpM at ih ⊢; rw [List.map_cons, mpS, mpS]; cases h : k == p.1
  ·simp only [Bool.false_eq_true, if_false, List.map_cons]; rw [ih]
  ·simp
end
section
variable {P : Program} {w : World} {kd q : IntKind} {t kt et : TypeId} {b : Nat} {m : List (Int × Value)} {k : Int} {v z : Value}
abbrev pE (p : Int × Value) : Value × Value := (.int .i64 p.1, p.2)
theorem check_mpn (hk : P.underlying kt = some (.int kd)) (e : Bool) (w : World) (n : Nat) : (Instr.checkKey e (n + 1) kt (.int q k)).run P w = .ok () w := by
 simp [Instr.checkKey, run_underlying hk]
theorem check_mp (hk : P.underlying kt = some (.int kd)) (e : Bool) (w : World) : (Instr.checkKey e 10000 kt (.int q k)).run P w = .ok () w := check_mpn hk e w 9999
theorem find_mp (k : Int) : ∀ (es : List MapEntry) (m : List (Int × Value)) (i : Nat), es.map (fun e => (e.key, e.val)) = m.map pE →
  Instr.findNow (.int kd) (.int .i64 k) es i = some ((m.findIdx? (fun p => k == p.1)).map fun j => (i + j, (m[j]?.map (·.2)).getD undef))
 | [], [], i, _ => rfl
 | [], _ :: _, _, h => by simp at h
 | _ :: _, [], _, h => by simp at h
 | e :: es, p :: m, i, h => by
  simp only [List.map_cons, List.cons.injEq, Prod.mk.injEq] at h; obtain ⟨⟨h1, h2⟩, h3⟩ := h; unfold Instr.findNow; rw [h1]; simp only [Instr.sameNow, if_true]; rw [List.findIdx?_cons]; cases hk : k == p.1
  ·simp only [Bool.false_eq_true, if_false]; rw [find_mp k es m (i + 1) h3]; cases m.findIdx? (fun p => k == p.1) with
   | none => rfl
   | some j => simp; omega
  ·simp [h2]
theorem mpG_ix (m : List (Int × Value)) (k : Int) (z : Value) : mpG m k z = match m.findIdx? (fun p => k == p.1) with
  | some j => (m[j]?.map (·.2)).getD undef
  | none => z := by
 induction m with
 | nil => rfl
 | cons p m ih =>
  unfold mpG at ih ⊢; rw [List.find?_cons, List.findIdx?_cons]; cases k == p.1
  ·simp only [Bool.false_eq_true, if_false]; rw [ih]; cases m.findIdx? (fun p => k == p.1) <;> simp
  ·simp
theorem mpH_ix (m : List (Int × Value)) (k : Int) : mpH m k = (m.findIdx? (fun p => k == p.1)).isSome := by
 unfold mpH; rw [List.findIdx?_isSome]
theorem mpS_ix (k : Int) (x : Value) : ∀ m : List (Int × Value), mpS m k x = match m.findIdx? (fun p => k == p.1) with
  | some j => m.set j (k, x)
  | none => m ++ [(k, x)]
 | [] => rfl
 | p :: m => by
  have ih := mpS_ix k x m; rw [mpS, List.findIdx?_cons]; cases k == p.1
  ·simp only [Bool.false_eq_true, if_false]; rw [ih]; cases m.findIdx? (fun p => k == p.1) <;> simp
  ·simp
theorem run_look (h : MapAt w b m) (ht : P.underlying t = some (.map kt et)) (hk : P.underlying kt = some (.int kd)) (hz : (zeroValue et).run P w = .ok z w) (c : Bool) :
  (Instr.lookup t (.map (some b)) (.int .i64 k) c).run P w = .ok (if c = true then .tuple #[mpG m k z, .bool (mpH m k)] else mpG m k z) w := by
 obtain ⟨es, clock, h1, h2, _⟩ := h; have hf := find_mp (kd := kd) k es.toList m 0 h2; have e1 := mpG_ix m k z; have e2 := mpH_ix m k; cases hi : m.findIdx? (fun p => k == p.1) with
 | none =>
  rw [hi] at hf e1 e2; simp only [Option.map_none] at hf
  simp [Instr.lookup, Instr.findKey, run_underlying ht, run_underlying hk, MapKept.run_getObj_map h1, check_mp hk, hf, hz, e1, e2, Result.andThen]
 | some j =>
  rw [hi] at hf e1 e2; simp only [Option.map_some, Nat.zero_add] at hf
  simp [Instr.lookup, Instr.findKey, run_underlying ht, run_underlying hk, MapKept.run_getObj_map h1, check_mp hk, hf, e1, e2, Result.andThen]
theorem mapAt_set {w : World} {b : Nat} {es es' : Array MapEntry} {clock clock' : Nat} (hb : w.heap[b]? = some (.map es clock)) (h : es'.toList.map (fun e => (e.key, e.val)) = m.map pE) (hs : Stm es'.toList clock') : MapAt (ChangeMaps.setBlock w b (.map es' clock')) b m ∧ w.grownBy (ChangeMaps.setBlock w b (.map es' clock')) (some b) :=
 ⟨⟨es', clock', ChangeMaps.heap_setBlock_same hb _, h, hs⟩, ⟨rfl, rfl, rfl, by simp [ChangeMaps.setBlock], fun i _ hi => ChangeMaps.heap_setBlock_other hb _ (fun e => hi (by rw [e]))⟩⟩
theorem map_mod {es : List MapEntry} {j : Nat} {kv vv : Value} : (es.modify j fun e => { e with key := kv, val := vv }).map (fun e => (e.key, e.val)) = (es.map (fun e => (e.key, e.val))).set j (kv, vv) := by
 apply List.ext_getElem?
 intro i; rw [List.getElem?_map, List.getElem?_modify, List.getElem?_set, List.getElem?_map, List.length_map]
 by_cases e : j = i
 ·subst e
  by_cases hl : j < es.length
  ·simp [hl]
  ·simp [hl, List.getElem?_eq_none (show es.length ≤ j by omega)]
 ·simp [e]
theorem stm_push {es : List MapEntry} {clock : Nat} (h : Stm es clock) (k v : Value) : Stm (es ++ [{ key := k, val := v, born := clock }]) (clock + 1) := by
 refine ⟨?_, fun e he => ?_⟩
 ·rw [List.map_append, List.nodup_append]; refine ⟨h.1, by simp, fun a ha c hc => ?_⟩; obtain ⟨e, he, rfl⟩ := List.mem_map.1 ha
  simp at hc
  have := h.2 e he; omega
 ·rcases List.mem_append.1 he with he | he
  ·have := h.2 e he; omega
  ·simp at he; subst he; exact Nat.lt_succ_self _
theorem stm_mod {es : List MapEntry} {clock j : Nat} {f : MapEntry → MapEntry} (h : Stm es clock) (hf : ∀ e, (f e).born = e.born) : Stm (es.modify j f) clock := by
 have e1 : (es.modify j f).map (·.born) = es.map (·.born) := by
  apply List.ext_getElem?
  intro i; rw [List.getElem?_map, List.getElem?_modify, List.getElem?_map]
  by_cases e : j = i
  ·subst e; cases es[j]? with
   | none => rfl
   | some x => simp [hf]
  ·simp [e]
 refine ⟨by rw [e1]; exact h.1, fun e he => ?_⟩; have : e.born ∈ (es.modify j f).map (·.born) := List.mem_map.2 ⟨e, he, rfl⟩; rw [e1] at this; obtain ⟨x, hx, ex⟩ := List.mem_map.1 this; have := h.2 x hx; omega
theorem run_put (h : MapAt w b m) (ht : P.underlying t = some (.map kt et)) (hk : P.underlying kt = some (.int kd)) :
  ∃ w', (Instr.mapUpdate t (.map (some b)) (.int .i64 k) v).run P w = .ok () w' ∧ MapAt w' b (mpS m k v) ∧ w.grownBy w' (some b) := by
 obtain ⟨es, clock, h1, h2, h3⟩ := h; have hf := find_mp (kd := kd) k es.toList m 0 h2; have e1 := mpS_ix k v m; cases hi : m.findIdx? (fun p => k == p.1) with
 | none =>
  rw [hi] at hf e1; simp only [Option.map_none] at hf; refine ⟨_, by simp [Instr.mapUpdate, Instr.findKey, run_underlying ht, run_underlying hk, MapKept.run_getObj_map h1, check_mp hk, hf, MapKept.run_setObj_map _ h1, Result.andThen]; rfl, mapAt_set (clock' := clock + 1) h1 ?_ (by rw [Array.toList_push]; exact stm_push h3 _ _)⟩; rw [e1]
  simp [h2]
 | some j =>
  rw [hi] at hf e1; simp only [Option.map_some, Nat.zero_add] at hf; obtain ⟨hj, hp, _⟩ := List.findIdx?_eq_some_iff_getElem.1 hi; have hjl : j < es.size := by
   have := congrArg List.length h2
   simp at this; omega
  have hkey : es[j]?.map (·.key) = some (.int .i64 k) := by
   have h3 := congrArg (fun l => l[j]?) h2; simp only [List.getElem?_map, List.getElem?_eq_getElem hj, Option.map_some, Array.getElem?_toList] at h3; rw [Array.getElem?_eq_getElem hjl] at h3 ⊢; simp only [Option.map_some, Option.some.injEq, Prod.mk.injEq] at h3 ⊢; rw [h3.1]; have : k = m[j].1 := by simpa using hp
   rw [← this]
  have hst : (Instr.keyThatStays (.int .i64 k) (.int .i64 k)).run P w = .ok (.int .i64 k) w := by
   simp [Instr.keyThatStays, Instr.sameBits]
  refine ⟨_, by simp [Instr.mapUpdate, Instr.findKey, run_underlying ht, run_underlying hk, MapKept.run_getObj_map h1, check_mp hk, hf, hkey, hst, MapKept.run_setObj_map _ h1, Result.andThen]; rfl, mapAt_set (clock' := clock) h1 ?_ (by rw [Array.toList_modify]; exact stm_mod h3 fun _ => rfl)⟩; rw [e1, Array.toList_modify, map_mod, h2]; simp only [List.map_set]
end
def EachM {α : Type} (ok : α → Pr) (l : List (Int × α)) : Pr := fun S w => ∀ p ∈ l, ok p.2 S w
structure MapC {α : Type} (b : Nat) (f : α → Value) (ok : α → Pr) (l : List (Int × α)) (S : Nat → Prop) (w : World) : Prop where
 s : S b
 m : MapAt w b (mpM f l)
 e : EachM ok l S w
theorem EachM.to {α : Type} {ok : α → Pr} {l : List (Int × α)} {S S' : Nat → Prop} {w W : World} (m : Mv ok) (h : EachM ok l S w) (hS : ∀ g, S g → S' g) (hA : Ag S w W) : EachM ok l S' W := fun p hp => m _ _ _ _ _ (h p hp) hS hA
theorem MapC.to {α : Type} {b : Nat} {f : α → Value} {ok : α → Pr} {l : List (Int × α)} {S S' : Nat → Prop} {w W : World} (m : Mv ok) (h : MapC b f ok l S w) (hS : ∀ g, S g → S' g) (hA : Ag S w W) : MapC b f ok l S' W :=
 ⟨hS _ h.s, h.m.to (hA.block b h.s), h.e.to m hS hA⟩
section
variable {S0 S : Nat → Prop} {w0 w w' : World} {l : List Ik}
theorem Es.allocMp (h : Es S0 w0 w S l) : Es S0 w0 (w.alloc (.map #[] 0)) S (.mp w.heap.size [] :: l) := by
 have hb : Below w.heap.size w (w.alloc (.map #[] 0)) := (Below.refl _ _).alloc (Nat.le_refl _) _; have h' := h.same hb; refine ⟨h'.b, h'.e, h'.lt, fun y hy => ?_, List.pairwise_cons.2 ⟨fun y hy g hg hg' => ?_, h.p⟩⟩
 ·rcases List.mem_cons.1 hy with rfl | hy
  ·exact ⟨h.b.size, fun hs => Nat.lt_irrefl _ (h.lt _ hs), ⟨#[], 0, heap_alloc_new w _, rfl, by simp [Stm]⟩⟩
  ·exact h'.k y hy
 ·simp only [Ik.at, Option.some.injEq] at hg; subst hg; have := ((h.k y hy).lt hg').2; omega
end
section
variable {S0 S : Nat → Prop} {w0 w w' : World} {n : Nat} {K K' : List (Nat × Value)} {E E' : List Iz} {X : Act → World → Prop} {P : Program} {ops : Array Oper} {Q : Exit → Act → World → Prop} {o : Oper} {L : List Oper} {v v' : Value} {p q : Pr} {Kx : Act → World → Prop}
variable {α β : Type} {f : α → Value} {ok : α → Pr} {t kt et : TypeId} {kd : IntKind}
theorem mm [DSc] (d : Nat) (h : ∀ g, Ge S0 w0 n ((d, .map (some g)) :: K) (.mp g [] :: E) Kx) (he : ∀ J g, sn P g (execOp (rho K J) o) = some (.value (.map (some g)), .map #[] 0) := by intro J g; kernel_rfl) (hd : o.dst = some d := by kernel_rfl) (hn : Nat.blt d n = true := by kernel_rfl) :
  Ge S0 w0 n K E (oW P o Q Kx) := fun a w S hK hE => by
 unfold oW Oper.wp Oper.upon; rw [hK.eval, sn_run _ (he _ _), hd]; exact h _ _ _ _ (hK.put hn _) (Es.allocMp hE)
def mpOf (r : Operand → Value) (o : Oper) : Option (TypeId × Value × Value × Value) := match o.op with
 | .mapUpdate t m k x => some (t, r m, r k, r x)
 | .insert t m k x => some (t, r m, r k, r x)
 | _ => none
theorem mpOf_run {r : Operand → Value} {m k x : Value} (h : mpOf r o = some (t, m, k, x)) {w'} (hr : (Instr.mapUpdate t m k x).run P w = .ok () w') : (execOp r o).run P w = .ok .skip w' := by
 unfold mpOf at h; unfold execOp
 split at h
 ·next e => cases h; simp [e, hr, Result.andThen]
 ·next e => cases h; simp [e, hr, Result.andThen]
 ·cases h
theorem mu [DSc] (i b : Nat) (l : List (Int × α)) (k : Int) (x : α) (ht : P.underlying t = some (.map kt et)) (hk : P.underlying kt = some (.int kd)) (h : Ge S0 w0 n K (setz E i (.mp b (mpM f (mpS l k x)))) Kx)
  (hi : E[i]? = some (.mp b (mpM f l)) := by kernel_rfl) (ho : ∀ J, mpOf (rho K J) o = some (t, .map (some b), .int .i64 k, f x) := by intro J; kernel_rfl) (hd : o.dst = none := by kernel_rfl) : Ge S0 w0 n K E (oW P o Q Kx) := fun a w S hK hE => by
 have h1 := hE.at hi
 have hok := Es.k hE _ (List.mem_of_getElem? h1); obtain ⟨w', hr, hm, hg⟩ := run_put (k := k) (v := f x) hok.2.2 ht hk; unfold oW Oper.wp Oper.upon; rw [hK.eval, mpOf_run (ho _) hr, hd]; refine h _ _ S hK ?_; unfold Ez; rw [setz_map]; rw [mpS_M] at hm; exact Es.put hE i h1 (Es.b hE |>.grown hg (Es.b hE).size (fun k hk => by cases hk; exact hok.1)) (fun _ h => h) (fun _ h => .inl h) hg.size ⟨hok.1, hok.2.1, hm⟩ (fun _ h => .inl h) (fun k hk hne => hg.block k hk (fun e => hne e.symm))
theorem mur [DSc] (i b : Nat) (l : List (Int × α)) (k : Int) (x : α) {r : List (Int × α)} (hr : some (mpS l k x) = some r) (ht : P.underlying t = some (.map kt et)) (hk : P.underlying kt = some (.int kd)) (h : Ge S0 w0 n K (setz E i (.mp b (mpM f r))) Kx)
  (hi : E[i]? = some (.mp b (mpM f l)) := by kernel_rfl) (ho : ∀ J, mpOf (rho K J) o = some (t, .map (some b), .int .i64 k, f x) := by intro J; kernel_rfl) (hd : o.dst = none := by kernel_rfl) : Ge S0 w0 n K E (oW P o Q Kx) := by
 cases hr; exact mu i b l k x ht hk h hi ho hd
def lkOf (r : Operand → Value) (o : Oper) : Option (TypeId × Value × Value × Bool) := match o.op with
 | .lookup t m k c => some (t, r m, r k, c)
 | _ => none
theorem lkOf_run {r : Operand → Value} {m k : Value} {c : Bool} (h : lkOf r o = some (t, m, k, c)) (hr : (Instr.lookup t m k c).run P w = .ok v w) : (execOp r o).run P w = .ok (.value v) w := by
 unfold lkOf at h; unfold execOp
 split at h
 ·next e => cases h; simp [e, hr, Result.andThen]
 ·cases h
theorem lk0 [DSc] (d : Nat) (c : Bool) (b : Nat) (l : List (Int × α)) (k : Int) (z : α) (hm : ∀ w S, Ez S0 w0 w S E → MapAt w b (mpM f l)) (ht : P.underlying t = some (.map kt et)) (hk : P.underlying kt = some (.int kd)) (hz : ∀ w, (zeroValue et).run P w = .ok (f z) w)
  (h : Ge S0 w0 n ((d, if c = true then .tuple #[f (mpG l k z), .bool (mpH l k)] else f (mpG l k z)) :: K) E Kx) (ho : ∀ J, lkOf (rho K J) o = some (t, .map (some b), .int .i64 k, c)) (hd : o.dst = some d) (hn : Nat.blt d n = true) : Ge S0 w0 n K E (oW P o Q Kx) := fun a w S hK hE => by
 have hr := run_look (k := k) (hm w S hE) ht hk (hz w) c; unfold oW Oper.wp Oper.upon; rw [hK.eval, lkOf_run (ho _) hr, hd]; rw [mpG_M, mpH_M]; exact h _ _ S (hK.put hn _) hE
theorem mo [DSc] (d i b : Nat) (l : List (Int × α)) (k : Int) (z : α) (ht : P.underlying t = some (.map kt et)) (hk : P.underlying kt = some (.int kd)) (hz : ∀ w, (zeroValue et).run P w = .ok (f z) w)
  (h : Ge S0 w0 n ((d, f (mpG l k z)) :: K) E Kx) (hi : E[i]? = some (.mp b (mpM f l)) := by kernel_rfl) (ho : ∀ J, lkOf (rho K J) o = some (t, .map (some b), .int .i64 k, false) := by intro J; kernel_rfl) (hd : o.dst = some d := by kernel_rfl) (hn : Nat.blt d n = true := by kernel_rfl) : Ge S0 w0 n K E (oW P o Q Kx) :=
 lk0 d false b l k z (fun _ _ hE => (Es.k hE _ (List.mem_of_getElem? (hE.at hi))).2.2) ht hk hz h ho hd hn
theorem rp [DSc] (g : Nat) (cs : List Value) (hr : Fd E (fun S W => RecS S W g 0 cs)) (h : Ge S0 w0 n K (.rc g 0 cs :: E) X) : Ge S0 w0 n K E X := fun a w S hK hE => h a w S hK (Es.dat hE (hr _ _ _ _ hE))
end
section
variable {S0 S : Nat → Prop} {w0 : World} {n : Nat} {K : List (Nat × Value)} {E : List Iz} {P : Program} {Q : Exit → Act → World → Prop} {c : Code} {id : Nat} {o : Oper} {Kx : Act → World → Prop}
theorem lb [DSc] (h : Ge S0 w0 n K E (Q .normal)) : Ge S0 w0 n K E ((Code.label id).wp P Q) := fun a w S hK hE => wp_label (h a w S hK hE)
end
theorem iz {k : IntKind} {z j : Int} (h : (z == j) = true) : Value.int k z = .int k j := by rw [eq_of_beq h]
end Go.Proofs.Ytlfkgbideknkhaa
namespace Go.Proofs.Ytlfkgbideknkhaa
open Go.RowKit Go.Maps
abbrev Aw (l : List Value) : Value := .agg ⟨l⟩
def ns : Nat → List Value → List (Nat × Value)
 | _, [] => []
 | i, v :: l => (i, v) :: ns (i + 1) l
theorem oi {α : Type} {x y : α} (h : some x = some y) : x = y := Option.some.inj h
theorem bs {α β : Type} {x : Option α} {k : α → Option β} {r : β} (h : Option.bind x k = some r) : ∃ o, x = some o ∧ k o = some r := bind_some h
theorem ic {α : Type} {c : Bool} {x y : Option α} {r : α} (h : ifB c x y = some r) : (c = true ∧ x = some r) ∨ (c = false ∧ y = some r) := ifB_cases h
theorem el {α β γ : Type} {f : α → γ} {g : β → γ} {x : α} {r : γ} (h : Sum.elim f g (.inl x) = r) : f x = r := h
theorem b2 {α β γ : Type} {x : Option (α × β)} {k : α → β → Option γ} {r : γ} (h : Option.bind x (un2 k) = some r) : ∃ a b, x = some (a, b) ∧ k a b = some r := by
 obtain ⟨⟨a, b⟩, h1, h2⟩ := bs h; exact ⟨a, b, h1, h2⟩
theorem b3 {α β δ γ : Type} {x : Option (α × β × δ)} {k : α → β → δ → Option γ} {r : γ} (h : Option.bind x (un3 k) = some r) : ∃ a b c, x = some (a, b, c) ∧ k a b c = some r := by
 obtain ⟨⟨a, b, c⟩, h1, h2⟩ := bs h; exact ⟨a, b, c, h1, h2⟩
theorem fg {S0 : Nat → Prop} {w0 : World} {n : Nat} {K : List (Nat × Value)} {E : List Iz} {X : Act → World → Prop} {Q : Pr} (P : Pr) (i : Nat) (hq : ∀ S W, P S W → Q S W) (h : Ge S0 w0 n K (.dat Q :: E) X) (hi : E[i]? = some (.dat P) := by kernel_rfl) : Ge S0 w0 n K E X := fm Q (gm P i hq hi) h
end Go.Proofs.Ytlfkgbideknkhaa
