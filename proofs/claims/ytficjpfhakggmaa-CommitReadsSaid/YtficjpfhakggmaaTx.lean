/-
  Transactions and leaders as plain data: what slices of them read as.
-/
import Derived.Test.YtficjpfhakggmaaVs
namespace Go.Proofs.Ytficjpfhakggmaa
open Go.RowKit
theorem thenB {w w1 w' : World} (h : Below w.heap.size w w1) (hb : Below w1.heap.size w1 w') : Below w.heap.size w w' := h.trans (hb.mono h.size)
theorem VS.then_ {w w' : World} {A : Option Addr} {l : List Ver} (h : VS w A l) (hb : Below w.heap.size w w') : VS w' A l := h.below hb (Nat.le_refl _)
structure Sn where
  key : Int
  ts : Int
  deriving DecidableEq
structure Wr where
  key : Int
  value : Int
  gone : Bool
  deriving DecidableEq
/-- a transaction -/
structure Tx where
  id : Int
  ts : Int
  reads : List Sn
  writes : List Wr
  deriving DecidableEq
/-- a transaction, and where its lists lie -/
structure TxV where
  t : Tx
  ra : Option Addr
  rc : Nat
  wa : Option Addr
  wc : Nat
def Sn.cells (s : Sn) : List Value := [.int .i64 s.key, .int .i64 s.ts]
def Wr.cells (s : Wr) : List Value := [.int .i64 s.key, .int .i64 s.value, .bool s.gone]
def TxV.cells (v : TxV) : List Value := [.int .i64 v.t.id, .int .i64 v.t.ts, .slice v.ra v.t.reads.length v.rc, .slice v.wa v.t.writes.length v.wc]
def Tx.zero : Tx := ⟨0, 0, [], []⟩
/-- rows of records -/
def RS {α : Type} (f : α → List Value) (w : World) (A : Option Addr) (l : List α) : Prop := Rd w A (l.flatMap f)
section
variable {α : Type} {f : α → List Value} {m : Nat} {w w' : World} {A : Option Addr} {l : List α}
theorem RS.below {B : Nat} (h : RS f w A l) (hb : Below B w w') (hB : w.heap.size ≤ B) : RS f w' A l := Rd.below h hb hB
theorem RS.then_ (h : RS f w A l) (hb : Below w.heap.size w w') : RS f w' A l := Rd.below h hb (Nat.le_refl _)
theorem RS.alloc (h : RS f w A l) (o : Obj) : RS f (w.alloc o) A l := h.then_ ((Below.refl _ _).alloc (Nat.le_refl _) _)
theorem RS.nil : RS f w A [] := Rd.nil _ _
theorem RS.pre (h : RS f w A l) (i : Nat) : RS f w A (l.take i) := Rd.take h (take_flat f l i)
theorem RS.at_ (hm : ∀ x, (f x).length = m) (h0 : 0 < m) (h : RS f w A l) {k : Nat} (hk : k < l.length) : ∃ b o, A = some ⟨b, o, none⟩ ∧ b < w.heap.size ∧
    ∀ i (hi : i < l.length) j u, (f l[i])[j]? = some u → w.cell? ⟨b, o + i * m + j, none⟩ = some u := by
  have hl : l.flatMap f ≠ [] := by
    intro e
    have := flat_len f m hm l
    rw [e] at this
    simp only [List.length_nil] at this
    have := Nat.mul_pos (show 0 < l.length by omega) h0
    omega
  obtain ⟨b, o, rfl, hb, hc⟩ := h hl
  refine ⟨b, o, rfl, hb, fun i hi j u hu => ?_⟩
  have hj : j < m := by have := (List.getElem?_eq_some_iff.1 hu).1; rw [hm] at this; exact this
  have := hc (i * m + j) u (by rw [flat_get f m hm l i j hi hj]; exact hu)
  rw [Nat.add_assoc]; exact this
theorem RS.shift (hm : ∀ x, (f x).length = m) {b o i : Nat} (h : RS f w (some ⟨b, o, none⟩) l) (hi : i ≤ l.length) : RS f w (some ⟨b, o + i * m, none⟩) (l.drop i) := by
  have e : l.flatMap f = (l.take i).flatMap f ++ (l.drop i).flatMap f := by rw [← List.flatMap_append, List.take_append_drop]
  have hl : ((l.take i).flatMap f).length = i * m := by rw [flat_len f m hm, List.length_take, Nat.min_eq_left hi]
  unfold RS at h ⊢
  rw [e] at h
  have := Rd.shift h
  rw [hl] at this
  exact this
theorem RS.of_own {base : Nat} {e : TypeId} {n c : Nat} (h : w.ownsRow base e m (.slice A n c) n (l.flatMap f)) : RS f w A l := Rd.of_own h
end
/-- cells of records -/
def SnAt (w : World) (b o : Nat) (s : Sn) : Prop := w.cell? ⟨b, o, none⟩ = some (.int .i64 s.key) ∧ w.cell? ⟨b, o + 1, none⟩ = some (.int .i64 s.ts)
def WrAt (w : World) (b o : Nat) (s : Wr) : Prop := w.cell? ⟨b, o, none⟩ = some (.int .i64 s.key) ∧ w.cell? ⟨b, o + 1, none⟩ = some (.int .i64 s.value) ∧ w.cell? ⟨b, o + 2, none⟩ = some (.bool s.gone)
def TxAt (w : World) (b o : Nat) (v : TxV) : Prop :=
  w.cell? ⟨b, o, none⟩ = some (.int .i64 v.t.id) ∧ w.cell? ⟨b, o + 1, none⟩ = some (.int .i64 v.t.ts) ∧ w.cell? ⟨b, o + 2, none⟩ = some (.slice v.ra v.t.reads.length v.rc) ∧ w.cell? ⟨b, o + 3, none⟩ = some (.slice v.wa v.t.writes.length v.wc)
theorem cell_lt {w : World} {b o : Nat} {u : Value} (h : w.cell? ⟨b, o, none⟩ = some u) : b < w.heap.size := by
  rcases Nat.lt_or_ge b w.heap.size with hlt | hge
  · exact hlt
  · unfold World.cell? at h
    simp [Array.getElem?_eq_none hge] at h
section
variable {w w' : World} {b o B : Nat}
theorem SnAt.below {s : Sn} (h : SnAt w b o s) (hb : Below B w w') (hB : b < B) : SnAt w' b o s :=
  ⟨(hb.cell (p := ⟨b, o, none⟩) hB).trans h.1, (hb.cell (p := ⟨b, o + 1, none⟩) hB).trans h.2⟩
theorem WrAt.below {s : Wr} (h : WrAt w b o s) (hb : Below B w w') (hB : b < B) : WrAt w' b o s :=
  ⟨(hb.cell (p := ⟨b, o, none⟩) hB).trans h.1, (hb.cell (p := ⟨b, o + 1, none⟩) hB).trans h.2.1, (hb.cell (p := ⟨b, o + 2, none⟩) hB).trans h.2.2⟩
theorem TxAt.below {s : TxV} (h : TxAt w b o s) (hb : Below B w w') (hB : b < B) : TxAt w' b o s :=
  ⟨(hb.cell (p := ⟨b, o, none⟩) hB).trans h.1, (hb.cell (p := ⟨b, o + 1, none⟩) hB).trans h.2.1, (hb.cell (p := ⟨b, o + 2, none⟩) hB).trans h.2.2.1, (hb.cell (p := ⟨b, o + 3, none⟩) hB).trans h.2.2.2⟩
theorem SnAt.fut {s : Sn} (h : SnAt w b o s) (hB : b < B) (x : Fut B w) : SnAt x.v b o s := h.below x.h hB
theorem WrAt.fut {s : Wr} (h : WrAt w b o s) (hB : b < B) (x : Fut B w) : WrAt x.v b o s := h.below x.h hB
theorem TxAt.fut {s : TxV} (h : TxAt w b o s) (hB : b < B) (x : Fut B w) : TxAt x.v b o s := h.below x.h hB
theorem SnAt.new {s : Sn} {t : TypeId} : SnAt (w.alloc (.cells #[.int .i64 s.key, .int .i64 s.ts] t)) w.heap.size 0 s := by
  refine ⟨?_, ?_⟩ <;> (rw [cell_at _ _ _ _ _ rfl]; rfl)
theorem WrAt.new {s : Wr} {t : TypeId} : WrAt (w.alloc (.cells #[.int .i64 s.key, .int .i64 s.value, .bool s.gone] t)) w.heap.size 0 s := by
  refine ⟨?_, ?_, ?_⟩ <;> (rw [cell_at _ _ _ _ _ rfl]; rfl)
theorem TxAt.new {s : TxV} {t : TypeId} : TxAt (w.alloc (.cells #[.int .i64 s.t.id, .int .i64 s.t.ts, .slice s.ra s.t.reads.length s.rc, .slice s.wa s.t.writes.length s.wc] t)) w.heap.size 0 s := by
  refine ⟨?_, ?_, ?_, ?_⟩ <;> (rw [cell_at _ _ _ _ _ rfl]; rfl)
end
abbrev SnS := RS Sn.cells
abbrev WrS := RS Wr.cells
theorem SnS.at_ {w : World} {A : Option Addr} {l : List Sn} (h : RS Sn.cells w A l) {k : Nat} (hk : k < l.length) : ∃ b o, A = some ⟨b, o, none⟩ ∧ b < w.heap.size ∧ ∀ i (hi : i < l.length), SnAt w b (o + i * 2) l[i] := by
  obtain ⟨b, o, hA, hb, hc⟩ := RS.at_ (m := 2) (fun _ => rfl) (by decide) h hk
  exact ⟨b, o, hA, hb, fun i hi => ⟨hc i hi 0 _ rfl, hc i hi 1 _ rfl⟩⟩
theorem WrS.at_ {w : World} {A : Option Addr} {l : List Wr} (h : RS Wr.cells w A l) {k : Nat} (hk : k < l.length) : ∃ b o, A = some ⟨b, o, none⟩ ∧ b < w.heap.size ∧ ∀ i (hi : i < l.length), WrAt w b (o + i * 3) l[i] := by
  obtain ⟨b, o, hA, hb, hc⟩ := RS.at_ (m := 3) (fun _ => rfl) (by decide) h hk
  exact ⟨b, o, hA, hb, fun i hi => ⟨hc i hi 0 _ rfl, hc i hi 1 _ rfl, hc i hi 2 _ rfl⟩⟩
/-- what a transaction's lists read as -/
structure TxW (w : World) (v : TxV) : Prop where
  r : RS Sn.cells w v.ra v.t.reads
  s : RS Wr.cells w v.wa v.t.writes
  rl : v.t.reads.length ≤ v.rc
  rm : v.rc ≤ maxLen
  wl : v.t.writes.length ≤ v.wc
  wm : v.wc ≤ maxLen
theorem TxW.then_ {w w' : World} {v : TxV} (h : TxW w v) (hb : Below w.heap.size w w') : TxW w' v := ⟨h.r.then_ hb, h.s.then_ hb, h.rl, h.rm, h.wl, h.wm⟩
/-- a slice that reads as transactions -/
structure TS (w : World) (A : Option Addr) (l : List TxV) : Prop where
  row : RS TxV.cells w A l
  each : ∀ v ∈ l, TxW w v
section
variable {w w' : World} {A : Option Addr} {l : List TxV}
theorem TS.then_ (h : TS w A l) (hb : Below w.heap.size w w') : TS w' A l := ⟨h.row.then_ hb, fun v hv => (h.each v hv).then_ hb⟩
theorem TS.alloc (h : TS w A l) (o : Obj) : TS (w.alloc o) A l := h.then_ ((Below.refl _ _).alloc (Nat.le_refl _) _)
theorem TS.nil : TS w A [] := ⟨RS.nil, fun v hv => by cases hv⟩
theorem TS.pre (h : TS w A l) (i : Nat) : TS w A (l.take i) := ⟨h.row.pre i, fun v hv => h.each v (List.mem_of_mem_take hv)⟩
theorem TS.at_ (h : TS w A l) {k : Nat} (hk : k < l.length) : ∃ b o, A = some ⟨b, o, none⟩ ∧ b < w.heap.size ∧ ∀ i (hi : i < l.length), TxAt w b (o + i * 4) l[i] ∧ TxW w l[i] := by
  obtain ⟨b, o, hA, hb, hc⟩ := RS.at_ (m := 4) (fun _ => rfl) (by decide) h.row hk
  exact ⟨b, o, hA, hb, fun i hi => ⟨⟨hc i hi 0 _ rfl, hc i hi 1 _ rfl, hc i hi 2 _ rfl, hc i hi 3 _ rfl⟩, h.each _ (List.getElem_mem _)⟩⟩
theorem TS.shift {b o i : Nat} (h : TS w (some ⟨b, o, none⟩) l) (hi : i ≤ l.length) : TS w (some ⟨b, o + i * 4, none⟩) (l.drop i) := ⟨RS.shift (m := 4) (fun _ => rfl) h.row hi, fun v hv => h.each v (List.mem_of_mem_drop hv)⟩
end
/-- the transactions, without where they lie -/
def txs (l : List TxV) : List Tx := l.map TxV.t
/-- few transactions, and small ones -/
structure Small (l : List Tx) : Prop where
  len : l.length ≤ 2000
  each : ∀ t ∈ l, t.reads.length ≤ 100 ∧ t.writes.length ≤ 100
end Go.Proofs.Ytficjpfhakggmaa
