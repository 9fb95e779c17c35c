/-
  Texts joined: OpR, OpZ, Mb, Mc, Rg, Lw24, Md, Me, Mf, Na, Nb, Nc, Nd, TbL.
-/
import Derived.KernelRfl
import Derived.Test.YtiijddjfiojfaaaDoorRows
import Derived.Lib.LaidU8
import Derived.Test.YtiijddjfiojfaaaDoorK30
import Derived.Test.YtiijddjfiojfaaaDoorK31
import Derived.Test.YtiijddjfiojfaaaDoorK32
import Derived.Test.YtiijddjfiojfaaaDoorK33
namespace Go.Proofs.YtiijddjfiojfaaaDoor
open Go.ChangeShapes Go.WideShapes Go.ChangeAt Go.RowKit Go.Deep
def inKd (k : IntKind) (n : Int) : Prop := (Lit.int k n).wf = true
theorem inKd_i64 {n : Int} (h : inKd .i64 n) : -9223372036854775808 ≤ n ∧ n ≤ 9223372036854775807 := by
 have : IntKind.i64.min ≤ n ∧ n ≤ IntKind.i64.max := by simpa [inKd, Lit.wf] using h
 rwa [show IntKind.i64.min = -9223372036854775808 by decide, show IntKind.i64.max = 9223372036854775807 by decide] at this
theorem inKd_u64 {n : Int} (h : inKd .u64 n) : 0 ≤ n ∧ n ≤ 18446744073709551615 := by
 have : IntKind.u64.min ≤ n ∧ n ≤ IntKind.u64.max := by simpa [inKd, Lit.wf] using h
 rwa [show IntKind.u64.min = 0 by decide, show IntKind.u64.max = 18446744073709551615 by decide] at this
theorem inKd_u8 {n : Int} (h : inKd .u8 n) : 0 ≤ n ∧ n ≤ 255 := by
 have : IntKind.u8.min ≤ n ∧ n ≤ IntKind.u8.max := by simpa [inKd, Lit.wf] using h
 rwa [show IntKind.u8.min = 0 by decide, show IntKind.u8.max = 255 by decide] at this
theorem rowS_all {w : World} {A : Option Addr} {xs : List Value} (h : Rd w A xs) : RowS (fun g => g < w.heap.size) w A xs := ⟨h, fun hn => by obtain ⟨b, o, e, hb, _⟩ := h hn; exact ⟨b, o, e, hb⟩⟩
theorem choose_ltK {α : Type} [Inhabited α] {n : Nat} {p : Nat → α → Prop} (h : ∀ i, i < n → ∃ v, p i v) : ∃ V : Nat → α, ∀ i, i < n → p i (V i) := by
 have h' : ∀ i, ∃ v, i < n → p i v := fun i => by
  rcases Nat.lt_or_ge i n with hi | hi
  ·obtain ⟨v, hv⟩ := h i hi; exact ⟨v, fun _ => hv⟩
  ·exact ⟨default, fun h => absurd h (Nat.not_lt.2 hi)⟩
 exact ⟨fun i => Classical.choose (h' i), fun i => Classical.choose_spec (h' i)⟩
theorem fl_get {α : Type} (f : α → List Value) (m : Nat) (hm : ∀ x, (f x).length = m) : ∀ (l : List α) (k j : Nat) (hk : k < l.length), j < m → (l.flatMap f)[k * m + j]? = (f l[k])[j]?
 | [], k, j, hk, _ => absurd hk (Nat.not_lt_zero _)
 | x :: l, 0, j, _, hj => by
  rw [List.flatMap_cons, Nat.zero_mul, Nat.zero_add, List.getElem?_append_left (by rw [hm]; exact hj)]; rfl
 | x :: l, k + 1, j, hk, hj => by
  rw [List.flatMap_cons, List.getElem?_append_right (by rw [hm, Nat.add_mul]; omega), hm]; have := fl_get f m hm l k j (by simpa using hk) hj; rw [← show (k + 1) * m + j - m = k * m + j from by rw [Nat.add_mul]; omega] at this; exact this
theorem cell_ltK {w : World} {b o : Nat} {u : Value} (h : w.cell? ⟨b, o, none⟩ = some u) : b < w.heap.size := World.block_lt_of_cell? w ⟨b, o, none⟩ h
section
variable {α : Type} {f : α → List Value} {m : Nat} {w : World}
theorem rd_mk {b o : Nat} {l : List α} (hm : ∀ x, (f x).length = m) (h0 : 0 < m) (h : ∀ i (hi : i < l.length) j, j < m → w.cell? ⟨b, o + i * m + j, none⟩ = (f l[i])[j]?) : Rd w (some ⟨b, o, none⟩) (l.flatMap f) := fun hne => by
 have hl : 0 < l.length := by
  cases l with
  | nil => exact absurd rfl hne
  | cons _ _ => simp
 have hlen := fl_len f m hm l; refine ⟨b, o, rfl, ?_, fun j u hu => ?_⟩
 ·have h1 := h 0 hl 0 h0; have h2 : (f l[0])[0]? = some ((f l[0])[0]'(by rw [hm]; exact h0)) := List.getElem?_eq_getElem _; rw [h2] at h1; exact cell_ltK h1
 ·have hj : j < l.length * m := by
   have := (List.getElem?_eq_some_iff.1 hu).1
   rwa [hlen] at this
  have hi : j / m < l.length := Nat.div_lt_of_lt_mul (by rw [Nat.mul_comm]; exact hj); have hr : j % m < m := Nat.mod_lt _ h0; have he : j / m * m + j % m = j := by rw [Nat.mul_comm]; exact Nat.div_add_mod _ _
  have hg := fl_get f m hm l (j / m) (j % m) hi hr; rw [he] at hg; rw [hg] at hu; have := h (j / m) hi (j % m) hr; rw [Nat.add_assoc, he] at this; rw [this]; exact hu
end
section
variable {H : Type} {enc : TypeId × Value → H} {w : World} {base : Nat} {spare : Nat → Bool} {held : Bool}
theorem trod_rowS {α : Type} [Inhabited α] (f : α → List Value) {m : Nat} (h0 : 0 < m) (hm : ∀ x, (f x).length = m) {T E : TypeId} (hu : Tryd.prog.underlying T = some (.slice E)) (hc : Tryd.prog.cellsOf E = m) (Q : α → Prop)
  (hE : ∀ n cs x, DataW.trod enc Tryd.prog w base spare held n E cs = some x → ∃ v, cs = f v ∧ Q v) {fuel : Nat} {cs : List Value} {x : DataW H × List MemPlace} (h : DataW.trod enc Tryd.prog w base spare held fuel T cs = some x) :
  ∃ (A : Option Addr) (c : Nat) (l : List α), cs = [.slice A l.length c] ∧ l.length ≤ c ∧ c ≤ maxLen ∧ Rd w A (l.flatMap f) ∧ ∀ v ∈ l, Q v := by
 obtain ⟨d, p⟩ := x; rcases open_slice hu h with ⟨hcs, _⟩ | ⟨a, len, cap, mm, n, D, Pl, hcs, _, hl, hmx, hmm, _, hx⟩
 ·exact ⟨none, 0, [], hcs, Nat.le_refl _, Nat.zero_le _, Rd.nil _ _, fun v hv => by cases hv⟩
 ·have hlm : len ≤ mm := by rw [hmm]; split <;> omega
  have hex : ∀ i, i < len → ∃ v : α, (∀ j, j < m → w.cell? ((a.add (i * m)).add j) = (f v)[j]?) ∧ Q v := fun i hi => by
   obtain ⟨cs', h1, h2⟩ := hx i (by omega); rw [hc] at h1; obtain ⟨v, rfl, hq⟩ := hE _ _ _ h2; exact ⟨v, (World.cells?_some h1).2.2, hq⟩
  obtain ⟨V, hV⟩ := choose_ltK hex; refine ⟨some a, cap, (List.range len).map V, by rw [hcs]; simp, by simpa using hl, hmx, ?_, ?_⟩
  ·rcases Nat.eq_zero_or_pos len with h00 | h00
   ·subst h00; exact Rd.nil _ _
   obtain ⟨b, o, spot⟩ := a; have hs : spot = none := by
    have := (hV 0 h00).1 0 h0; simp only [Nat.zero_mul, Addr.add, if_true] at this; have h2 : (f (V 0))[0]? = some ((f (V 0))[0]'(by rw [hm]; exact h0)) := List.getElem?_eq_getElem _; rw [h2] at this; exact World.cell?_spot this
   subst hs; refine rd_mk hm h0 fun i hi j hj => ?_
   have hi' : i < len := by simpa using hi
   have e : ∀ j, (((⟨b, o, none⟩ : Addr).add (i * m)).add j) = ⟨b, o + i * m + j, none⟩ := fun j => by rw [add_addr, add_addr]
   have hcc := (hV i hi').1 j hj; rw [e] at hcc; simp only [List.getElem_map, List.getElem_range]; exact hcc
  ·intro v hv; obtain ⟨i, hi, rfl⟩ := List.mem_map.1 hv; exact (hV i (List.mem_range.1 hi)).2
end
end Go.Proofs.YtiijddjfiojfaaaDoor
namespace Go.Proofs.YtiijddjfiojfaaaDoor
open Go.ChangeShapes Go.WideShapes Go.ChangeAt Go.RowKit Go.Deep
theorem okWide_arr {P : Program} {w : World} {r : Reach} {base : Nat} {t e : TypeId} {n : Nat} {v : Value} (ht : P.underlying t = some (.array n e)) (h : Value.okWide P w r base t v) : ∃ cs, v = .agg cs ∧ cs.size = P.cellsOf t := by
 simp only [Value.okWide, ht] at h; obtain ⟨cs, h1, h2, _⟩ := h; exact ⟨cs, h1, h2⟩
section
variable {H : Type} {enc : TypeId × Value → H} {w : World} {base : Nat} {spare : Nat → Bool} {held : Bool}
set_option maxRecDepth 10000
theorem trod_int {n : Nat} {cs : List Value} {x : DataW H × List MemPlace} (h : DataW.trod enc Tryd.prog w base spare held n 3 cs = some x) : ∃ v : Int, cs = c_i64 v ∧ inKd .i64 v := by
 obtain ⟨a, e, _, hw⟩ := DataW.trod_int Tryd.underlying3 h; exact ⟨a, e, hw⟩
theorem cl_int : Tryd.prog.cellsOf 3 = 1 := by kernel_rfl
theorem trod_uint64 {n : Nat} {cs : List Value} {x : DataW H × List MemPlace} (h : DataW.trod enc Tryd.prog w base spare held n 25 cs = some x) : ∃ v : Int, cs = c_u64 v ∧ inKd .u64 v := by
 obtain ⟨a, e, _, hw⟩ := DataW.trod_int Tryd.underlying25 h; exact ⟨a, e, hw⟩
theorem cl_uint64 : Tryd.prog.cellsOf 25 = 1 := by kernel_rfl
theorem cl_api_Interval : Tryd.prog.cellsOf 34 = 2 := by kernel_rfl
structure KInterval.rng (x : KInterval) : Prop where
 r_Lo : inKd .i64 x.Lo
 r_Hi : inKd .i64 x.Hi
theorem tf_api_Interval : ∃ f0 f1 : Field, Tryd.prog.underlying 34 = some (.struct #[f0, f1]) ∧ (f0.offset = 0 ∧ f0.type = 3) ∧ (f1.offset = 1 ∧ f1.type = 3) := ⟨_, _, Tryd.underlying34, ⟨by kernel_rfl, by kernel_rfl⟩, ⟨by kernel_rfl, by kernel_rfl⟩⟩
theorem trod_api_Interval {n : Nat} {cs : List Value} {x : DataW H × List MemPlace} (h : DataW.trod enc Tryd.prog w base spare held n 34 cs = some x) : ∃ v : KInterval, cs = v.cells ∧ KInterval.rng v := by
 obtain ⟨f0, f1, hu, ⟨o0, t0⟩, ⟨o1, t1⟩⟩ := tf_api_Interval; obtain ⟨xs, n', _, _, hlen, hxl, hf⟩ := DataW.trod_struct hu h; rw [cl_api_Interval] at hlen
 match cs, hlen with
 | [c0, c1], _ =>
  have q0 := hf 0 f0 rfl; obtain ⟨y0, hy0⟩ : ∃ y, xs[0]? = some y := ⟨_, List.getElem?_eq_getElem (by rw [hxl]; exact (by decide : 0 < 2))⟩; rw [hy0, o0, t0, cl_int] at q0; obtain ⟨v0, e0, hg0⟩ := trod_int q0; replace e0 : [c0] = [I v0] := e0; simp only [List.cons.injEq, and_true] at e0; obtain rfl := e0; have q1 := hf 1 f1 rfl; obtain ⟨y1, hy1⟩ : ∃ y, xs[1]? = some y := ⟨_, List.getElem?_eq_getElem (by rw [hxl]; exact (by decide : 1 < 2))⟩; rw [hy1, o1, t1, cl_int] at q1; obtain ⟨v1, e1, hg1⟩ := trod_int q1; replace e1 : [c1] = [I v1] := e1; simp only [List.cons.injEq, and_true] at e1; obtain rfl := e1; exact ⟨⟨v0, v1⟩, rfl, ⟨hg0, hg1⟩⟩
theorem cl_api_Entry : Tryd.prog.cellsOf 36 = 3 := by kernel_rfl
structure KEntry.rng (x : KEntry) : Prop where
 r_Doc : inKd .u64 x.Doc
 r_Stamp : KInterval.rng x.Stamp
theorem tf_api_Entry : ∃ f0 f1 : Field, Tryd.prog.underlying 36 = some (.struct #[f0, f1]) ∧ (f0.offset = 0 ∧ f0.type = 25) ∧ (f1.offset = 1 ∧ f1.type = 34) := ⟨_, _, Tryd.underlying36, ⟨by kernel_rfl, by kernel_rfl⟩, ⟨by kernel_rfl, by kernel_rfl⟩⟩
theorem trod_api_Entry {n : Nat} {cs : List Value} {x : DataW H × List MemPlace} (h : DataW.trod enc Tryd.prog w base spare held n 36 cs = some x) : ∃ v : KEntry, cs = v.cells ∧ KEntry.rng v := by
 obtain ⟨f0, f1, hu, ⟨o0, t0⟩, ⟨o1, t1⟩⟩ := tf_api_Entry; obtain ⟨xs, n', _, _, hlen, hxl, hf⟩ := DataW.trod_struct hu h; rw [cl_api_Entry] at hlen
 match cs, hlen with
 | [c0, c1, c2], _ =>
  have q0 := hf 0 f0 rfl; obtain ⟨y0, hy0⟩ : ∃ y, xs[0]? = some y := ⟨_, List.getElem?_eq_getElem (by rw [hxl]; exact (by decide : 0 < 2))⟩; rw [hy0, o0, t0, cl_uint64] at q0; obtain ⟨v0, e0, hg0⟩ := trod_uint64 q0; replace e0 : [c0] = [U v0] := e0; simp only [List.cons.injEq, and_true] at e0; obtain rfl := e0; have q1 := hf 1 f1 rfl; obtain ⟨y1, hy1⟩ : ∃ y, xs[1]? = some y := ⟨_, List.getElem?_eq_getElem (by rw [hxl]; exact (by decide : 1 < 2))⟩; rw [hy1, o1, t1, cl_api_Interval] at q1; obtain ⟨v1, e1, hg1⟩ := trod_api_Interval q1; replace e1 : [c1, c2] = [I v1.Lo, I v1.Hi] := e1; simp only [List.cons.injEq, and_true] at e1; obtain ⟨rfl, rfl⟩ := e1; exact ⟨⟨v0, v1⟩, rfl, ⟨hg0, hg1⟩⟩
instance : Inhabited KEntry := ⟨⟨0, ⟨0, 0⟩⟩⟩
theorem trod_Sl_api_Entry {n : Nat} {cs : List Value} {x : DataW H × List MemPlace} (h : DataW.trod enc Tryd.prog w base spare held n 22 cs = some x) :
  ∃ (A : Option Addr) (c : Nat) (l : List KEntry), cs = [.slice A l.length c] ∧ RowC A c KEntry.cells tr l (fun g => g < w.heap.size) w ∧ (∀ y ∈ l, KEntry.rng y) := by
 obtain ⟨A, c, l, h1, h2, h3, h4, h5⟩ := trod_rowS KEntry.cells (m := 3) (by decide) (fun _ => rfl) Tryd.underlying22 cl_api_Entry (fun v : KEntry => KEntry.rng v) (fun _ _ _ hx => trod_api_Entry hx) h; exact ⟨A, c, l, h1, ⟨rowS_all h4, h2, fun _ _ => trivial⟩, h5⟩
theorem cl_Sl_api_Entry : Tryd.prog.cellsOf 22 = 1 := by kernel_rfl
theorem cl_api_Office : Tryd.prog.cellsOf 24 = 2 := by kernel_rfl
structure KOffice.rng (x : KOffice) : Prop where
 r_ID : inKd .i64 x.ID
 r_Entries : (fun l : List KEntry => ∀ y ∈ l, KEntry.rng y) x.Entries
theorem tf_api_Office : ∃ f0 f1 : Field, Tryd.prog.underlying 24 = some (.struct #[f0, f1]) ∧ (f0.offset = 0 ∧ f0.type = 3) ∧ (f1.offset = 1 ∧ f1.type = 22) := ⟨_, _, Tryd.underlying24, ⟨by kernel_rfl, by kernel_rfl⟩, ⟨by kernel_rfl, by kernel_rfl⟩⟩
theorem trod_api_Office {n : Nat} {cs : List Value} {x : DataW H × List MemPlace} (h : DataW.trod enc Tryd.prog w base spare held n 24 cs = some x) : ∃ v : KOfficeL, cs = v.cells ∧ KOfficeL.ok v (fun g => g < w.heap.size) w ∧ KOffice.rng v.p := by
 obtain ⟨f0, f1, hu, ⟨o0, t0⟩, ⟨o1, t1⟩⟩ := tf_api_Office; obtain ⟨xs, n', _, _, hlen, hxl, hf⟩ := DataW.trod_struct hu h; rw [cl_api_Office] at hlen
 match cs, hlen with
 | [c0, c1], _ =>
  have q0 := hf 0 f0 rfl; obtain ⟨y0, hy0⟩ : ∃ y, xs[0]? = some y := ⟨_, List.getElem?_eq_getElem (by rw [hxl]; exact (by decide : 0 < 2))⟩; rw [hy0, o0, t0, cl_int] at q0; obtain ⟨v0, e0, hg0⟩ := trod_int q0; replace e0 : [c0] = [I v0] := e0; simp only [List.cons.injEq, and_true] at e0; obtain rfl := e0; have q1 := hf 1 f1 rfl; obtain ⟨y1, hy1⟩ : ∃ y, xs[1]? = some y := ⟨_, List.getElem?_eq_getElem (by rw [hxl]; exact (by decide : 1 < 2))⟩; rw [hy1, o1, t1, cl_Sl_api_Entry] at q1; obtain ⟨A1, k1, v1, e1, hr1, hg1⟩ := trod_Sl_api_Entry q1; replace e1 : [c1] = [.slice A1 v1.length k1] := e1; simp only [List.cons.injEq, and_true] at e1; obtain rfl := e1; exact ⟨⟨v0, A1, k1, v1⟩, rfl, ⟨hr1⟩, ⟨hg0, hg1⟩⟩
theorem opn_api_Office {r : Reach} {b0 : Nat} {v : Value} {d : DataW H} {p : List MemPlace} (hv : Value.okWide Tryd.prog w r b0 24 v) (h : DataW.Trod enc Tryd.prog w base spare held 24 v d p) : ∃ x : KOfficeL, v = .agg #[I x.ID, .slice x.Entries_A x.Entries.length x.Entries_c] ∧ KOfficeL.ok x (fun g => g < w.heap.size) w ∧ KOffice.rng x.p := by
 obtain ⟨f0, f1, hu, _⟩ := tf_api_Office; obtain ⟨cs, rfl, hsz⟩ := okWide_struct hu hv; obtain ⟨fuel, hf⟩ := h; obtain ⟨x, hx, hw⟩ := trod_api_Office hf; refine ⟨x, congrArg Value.agg ?_, hw⟩; have : cs.toList = x.cells := by simpa [Value.cells] using hx
 rw [← Array.toArray_toList (xs := cs), this]; rfl
structure KSig.rng (x : KSig) : Prop where
 r_C : inKd .i64 x.C
 r_S : inKd .i64 x.S
structure KHead.rng (x : KHead) : Prop where
 r_Office : inKd .i64 x.Office
 r_Size : inKd .i64 x.Size
 r_Root : inKd .u64 x.Root
 r_Sig : KSig.rng x.Sig
theorem cl_2_uint64 : Tryd.prog.cellsOf 46 = 2 := by kernel_rfl
structure K2_uint64.rng (x : K2_uint64) : Prop where
 r_f0 : inKd .u64 x.f0
 r_f1 : inKd .u64 x.f1
theorem trod_2_uint64 {n : Nat} {cs : List Value} {x : DataW H × List MemPlace} (h : DataW.trod enc Tryd.prog w base spare held n 46 cs = some x) : ∃ v : K2_uint64, cs = v.cells ∧ K2_uint64.rng v := by
 obtain ⟨xs, n', _, _, hlen, hxl, hf⟩ := DataW.trod_array Tryd.underlying46 h; rw [cl_2_uint64] at hlen
 match cs, hlen with
 | [c0, c1], _ =>
  have q0 := hf 0 (by decide); obtain ⟨y0, hy0⟩ : ∃ y, xs[0]? = some y := ⟨_, List.getElem?_eq_getElem (by rw [hxl]; exact (by decide : 0 < 2))⟩; rw [hy0, cl_uint64] at q0; obtain ⟨v0, e0, hg0⟩ := trod_uint64 q0; replace e0 : [c0] = [U v0] := e0; simp only [List.cons.injEq, and_true] at e0; obtain rfl := e0; have q1 := hf 1 (by decide); obtain ⟨y1, hy1⟩ : ∃ y, xs[1]? = some y := ⟨_, List.getElem?_eq_getElem (by rw [hxl]; exact (by decide : 1 < 2))⟩; rw [hy1, cl_uint64] at q1; obtain ⟨v1, e1, hg1⟩ := trod_uint64 q1; replace e1 : [c1] = [U v1] := e1; simp only [List.cons.injEq, and_true] at e1; obtain rfl := e1; exact ⟨⟨v0, v1⟩, rfl, ⟨hg0, hg1⟩⟩
theorem opn_2_uint64 {r : Reach} {b0 : Nat} {v : Value} {d : DataW H} {p : List MemPlace} (hv : Value.okWide Tryd.prog w r b0 46 v) (h : DataW.Trod enc Tryd.prog w base spare held 46 v d p) : ∃ x : K2_uint64, v = .agg #[U x.f0, U x.f1] ∧ K2_uint64.rng x := by
 obtain ⟨cs, rfl, hsz⟩ := okWide_arr Tryd.underlying46 hv; obtain ⟨fuel, hf⟩ := h; obtain ⟨x, hx, hw⟩ := trod_2_uint64 hf; refine ⟨x, congrArg Value.agg ?_, hw⟩; have : cs.toList = x.cells := by simpa [Value.cells] using hx
 rw [← Array.toArray_toList (xs := cs), this]; rfl
theorem opn_uint8 {r : Reach} {b0 : Nat} {v : Value} {d : DataW H} {p : List MemPlace} (hv : Value.okWide Tryd.prog w r b0 5 v) (h : DataW.Trod enc Tryd.prog w base spare held 5 v d p) : ∃ x : Int, v = .int .u8 x ∧ inKd .u8 x := by
 obtain ⟨x, rfl, _, _, hw⟩ := open_int Tryd.underlying5 hv h; exact ⟨x, rfl, hw⟩
theorem opn_uint64 {r : Reach} {b0 : Nat} {v : Value} {d : DataW H} {p : List MemPlace} (hv : Value.okWide Tryd.prog w r b0 25 v) (h : DataW.Trod enc Tryd.prog w base spare held 25 v d p) : ∃ x : Int, v = .int .u64 x ∧ inKd .u64 x := by
 obtain ⟨x, rfl, _, _, hw⟩ := open_int Tryd.underlying25 hv h; exact ⟨x, rfl, hw⟩
end
end Go.Proofs.YtiijddjfiojfaaaDoor
namespace Go.Proofs.YtiijddjfiojfaaaDoor
open Go.RowKit
theorem wrap_i64_rng (n : Int) : -9223372036854775808 ≤ IntKind.i64.wrap n ∧ IntKind.i64.wrap n ≤ 9223372036854775807 := by rw [IntKind.wrap_i64]; omega
theorem wrap_u64_rng (n : Int) : 0 ≤ IntKind.u64.wrap n ∧ IntKind.u64.wrap n ≤ 18446744073709551615 := by rw [IntKind.wrap_u64]; omega
theorem sumB_rng (l : List Int) : 0 ≤ sumB l ∧ sumB l ≤ 18446744073709551615 := by
 unfold sumB; have key : ∀ (l : List Int) (b : Int), 0 ≤ b ∧ b ≤ 18446744073709551615 → 0 ≤ l.foldl sumF b ∧ l.foldl sumF b ≤ 18446744073709551615 := by
  intro l
  induction l with
  | nil => intro b h; exact h
  | cons x l ih => intro b _; exact ih _ (wrap_u64_rng _)
 exact key l _ (by omega)
theorem rootF_rng (l : List Int) : 0 ≤ rootF l ∧ rootF l ≤ 18446744073709551615 := by
 rcases Classical.em (2 ≤ l.length) with h | h
 ·rw [rootF, rootT_split h]; exact sumB_rng _
 ·rw [rootF, rootT_one h]; exact sumB_rng _
theorem dnext {d : Int} {l : List Int} (h : inI l) (h1 : 1 ≤ l.length) (h2 : l.length ≤ 10000) {F : Nat} (hF : 64 ≤ F) : G_digest_Next F d l = some (nextF d l) := by
 obtain ⟨F', rfl⟩ : ∃ F', F = F' + 1 := ⟨F - 1, by omega⟩; exact whenG_t (decide_eq_true ⟨h, h2, h1⟩)
theorem rnext {d : Int} {l : List Int} (h : inI l) (h1 : 1 ≤ l.length) (h2 : l.length ≤ 10000) {F : Nat} (hF : 64 ≤ F) : G_regulatorref03_Next F d l = some (nextF d l) := by
 obtain ⟨F', rfl⟩ : ∃ F', F = F' + 1 := ⟨F - 1, by omega⟩; exact whenG_t (decide_eq_true ⟨h, h2, h1⟩)
theorem dints {l : List Int} (h : inI l) (h2 : l.length ≤ 10000) {F : Nat} (hF : 64 ≤ F) : G_digest_Ints F l = some (intsF l) := by
 obtain ⟨F', rfl⟩ : ∃ F', F = F' + 1 := ⟨F - 1, by omega⟩; exact whenG_t (decide_eq_true ⟨h, by omega⟩)
def leafE (e : KEntry) : Int := nextF e.Doc [e.Stamp.Lo, e.Stamp.Hi]
theorem inI_two {a b : Int} (ha : inKd .i64 a) (hb : inKd .i64 b) : inI [a, b] := by
 intro z hz; rcases List.mem_cons.1 hz with rfl | hz
 ·exact inKd_i64 ha
 ·rcases List.mem_cons.1 hz with rfl | hz
  ·exact inKd_i64 hb
  ·cases hz
theorem leaf_p {e : KEntry} (h : e.rng) {F : Nat} (hF : 64 ≤ F) : G_office_Leaf F e = some (leafE e) := by
 unfold G_office_Leaf G_office_logged_value; rw [dnext (inI_two h.r_Stamp.r_Lo h.r_Stamp.r_Hi) (by simp) (by simp) hF]; rfl
theorem leaf_r {e : KEntry} (h : e.rng) {F : Nat} (hF : 64 ≤ F) : G_regulatorref25_Leaf F e = some (leafE e) := by
 unfold G_regulatorref25_Leaf; rw [rnext (inI_two h.r_Stamp.r_Lo h.r_Stamp.r_Hi) (by simp) (by simp) hF]; rfl
def eAt (l : List KEntry) (k : Nat) : KEntry := l.getD k ⟨0, ⟨0, 0⟩⟩
theorem eAt_get {l : List KEntry} {k : Nat} (h : k < l.length) : l[k]? = some (eAt l k) := by
 unfold eAt; rw [List.getD_eq_getElem?_getD, List.getElem?_eq_getElem h]; rfl
def okAt (l : List KEntry) (k : Nat) : Bool := vI (eAt l k).Stamp && !(decide (0 < k) && decide ((eAt l k).Stamp.Lo < (eAt l (k - 1)).Stamp.Lo))
def ordB (l : List KEntry) : Bool := frB (okAt l) l.length 0
def vO (o : KOffice) : Bool := ordB o.Entries && (decide (1 ≤ o.ID ∧ o.ID ≤ 16) && decide (o.Entries.length ≤ 4096))
theorem pred_w {k : Nat} (h : 0 < k) (h2 : k < 1000000) : IntKind.i64.wrap ((k : Int) - 1) = ((k - 1 : Nat) : Int) := by rw [IntKind.wrap_i64]; omega
theorem valid_p {o : KOffice} (hl : o.Entries.length ≤ 50) {F : Nat} (hF : 64 ≤ F) : G_office_Valid F o = some (vO o) := by
 unfold G_office_Valid; rw [iter_all o.Entries.length (okAt o.Entries) (.inl ()) (.inr ()) ?_ ?_ (by omega)]
 ·unfold vO; rw [btw_p]
  show _ = some (ordB o.Entries && _)
  unfold ordB; cases frB (okAt o.Entries) o.Entries.length 0 with
  | true =>
   simp only [if_true, ob_some, Sum.elim_inl, Bool.true_and]
   by_cases h1 : 1 ≤ o.ID ∧ o.ID ≤ 16 <;> by_cases h2 : o.Entries.length ≤ 4096 <;> simp [ifB, h1, h2] <;> omega
  | false => rfl
 ·rw [show decide ((o.Entries.length : Int) < ((o.Entries.length : Nat) : Int)) = false from decide_eq_false (by omega)]; rfl
 ·intro k hk; rw [show decide ((k : Int) < ((o.Entries.length : Nat) : Int)) = true from decide_eq_true (by omega), ifB_t, ixI_nat, eAt_get hk]; simp only [ob_some, logged_p]; unfold okAt; rw [w64_nat (by omega)]; cases hv : vI (eAt o.Entries k).Stamp with
  | false => rfl
  | true =>
   rw [ifB_t]
   by_cases h0 : 0 < k
   ·rw [show decide ((k : Int) > 0) = true from decide_eq_true (by omega), ifB_t, pred_w h0 (by omega), ixI_nat, eAt_get (by omega)]; simp only [ob_some]; rw [show decide (0 < k) = true from decide_eq_true h0]; cases decide ((eAt o.Entries k).Stamp.Lo < (eAt o.Entries (k - 1)).Stamp.Lo) <;> rfl
   ·rw [show decide ((k : Int) > 0) = false from decide_eq_false (by omega), ifB_f, show decide (0 < k) = false from decide_eq_false h0]; rfl
theorem valid_r {o : KOffice} (hl : o.Entries.length ≤ 50) {F : Nat} (hF : 64 ≤ F) : G_regulatorref25_Valid F o = some (vO o) := by
 unfold G_regulatorref25_Valid; have h4 : decide (((o.Entries.length : Nat) : Int) > 4096) = false := decide_eq_false (by omega); have h4' : decide (o.Entries.length ≤ 4096) = true := decide_eq_true (by omega); rw [h4]
 by_cases hid : 1 ≤ o.ID ∧ o.ID ≤ 16
 ·rw [show decide (o.ID < 1) = false from decide_eq_false (by omega), show decide (o.ID > 16) = false from decide_eq_false (by omega)]; simp only [ifB_f, ob_some]; rw [iter_all o.Entries.length (okAt o.Entries) (.inl ()) (.inr ()) ?_ ?_ (by omega)]
  ·unfold vO ordB; rw [h4', show decide (1 ≤ o.ID ∧ o.ID ≤ 16) = true from decide_eq_true hid]; cases frB (okAt o.Entries) o.Entries.length 0 <;> rfl
  ·rw [show decide ((o.Entries.length : Int) < ((o.Entries.length : Nat) : Int)) = false from decide_eq_false (by omega)]; rfl
  ·intro k hk; rw [show decide ((k : Int) < ((o.Entries.length : Nat) : Int)) = true from decide_eq_true (by omega), ifB_t, ixI_nat, eAt_get hk]; simp only [ob_some, vI_r]; unfold okAt; rw [w64_nat (by omega)]; cases hv : vI (eAt o.Entries k).Stamp with
   | false => rfl
   | true =>
    rw [ifB_t]
    by_cases h0 : 0 < k
    ·rw [show decide ((k : Int) > 0) = true from decide_eq_true (by omega), ifB_t, pred_w h0 (by omega), ixI_nat, eAt_get (by omega)]; simp only [ob_some]; rw [show decide (0 < k) = true from decide_eq_true h0]; cases decide ((eAt o.Entries k).Stamp.Lo < (eAt o.Entries (k - 1)).Stamp.Lo) <;> rfl
    ·rw [show decide ((k : Int) > 0) = false from decide_eq_false (by omega), ifB_f, show decide (0 < k) = false from decide_eq_false h0]; rfl
 ·have hv : vO o = false := by unfold vO; rw [show decide (1 ≤ o.ID ∧ o.ID ≤ 16) = false from decide_eq_false hid]; simp
  rw [hv]
  by_cases h1 : o.ID < 1
  ·rw [show decide (o.ID < 1) = true from decide_eq_true h1]; rfl
  ·rw [show decide (o.ID < 1) = false from decide_eq_false h1, show decide (o.ID > 16) = true from decide_eq_true (by omega)]; rfl
def valsF (o : KOffice) (n : Nat) : List Int := (o.Entries.take n).map leafE
theorem take_map_succ {l : List KEntry} {k : Nat} (h : k < l.length) : (l.take (k + 1)).map leafE = (l.take k).map leafE ++ [leafE (eAt l k)] := by
 rw [List.take_add_one, eAt_get h]
 simp
theorem vals_r {o : KOffice} (hr : o.rng) {n : Nat} (hn : n ≤ o.Entries.length) (hl : n ≤ 60) {F : Nat} (hF : 64 ≤ F) : G_regulatorref25_Values F o (n : Int) = some (valsF o n) := by
 unfold G_regulatorref25_Values valsF; rw [show (([] : List Int), (0 : Int)) = (fun k : Nat => ((o.Entries.take k).map leafE, (k : Int))) 0 from rfl]; rw [iter_seq (fun k : Nat => ((o.Entries.take k).map leafE, (k : Int))) n ((o.Entries.take n).map leafE) ?_ ?_ (by omega)]
 ·rfl
 ·intro k hk; simp only [un2]; have hk' : k < o.Entries.length := by omega
  rw [show decide ((k : Int) < (n : Int)) = true from decide_eq_true (by omega), ifB_t, ixI_nat, eAt_get hk']; simp only [ob_some]; rw [leaf_r (hr.r_Entries _ (List.mem_of_getElem? (eAt_get hk'))) hF]; simp only [ob_some]; rw [apG_ok (by simp only [List.length_map, List.length_take, List.length_cons, List.length_nil]; omega), w64_nat (by omega), take_map_succ hk']; rfl
 ·simp only [un2]; rw [show decide ((n : Int) < (n : Int)) = false from decide_eq_false (by omega)]; rfl
theorem coll_p {l : List KEntry} (hr : ∀ e ∈ l, e.rng) (hl : l.length ≤ 60) {F : Nat} (hF : 64 ≤ F) : iter (σ := Int × (List Int)) (ρ := (List Int)) (un2 fun (v_43 : Int) (v_44 : (List Int)) => 
          (ifB (decide (v_43 < ((l.length : Nat) : Int)))
            (Option.bind (ixI l v_43) (fun v_52 =>
            Option.bind (G_office_Leaf F v_52) (fun v_59 =>
            Option.bind (apG 8 v_44 ([v_59] : List Int)) (fun v_61 =>
            some (.inl (IntKind.i64.wrap (v_43 + 1), v_61))))))
            (some (.inr v_44)) : Option ((Int × (List Int)) ⊕ (List Int)))) F (0, ([] : List Int)) = some (l.map leafE) := by
  rw [show ((0 : Int), ([] : List Int)) = (fun k : Nat => ((k : Int), (l.take k).map leafE)) 0 from rfl]
  rw [iter_seq (fun k : Nat => ((k : Int), (l.take k).map leafE)) l.length (l.map leafE) ?_ ?_ (by omega)]
  · intro k hk
    simp only [un2]
    rw [show decide ((k : Int) < ((l.length : Nat) : Int)) = true from decide_eq_true (by omega), ifB_t, ixI_nat, eAt_get hk]
    simp only [ob_some]
    rw [leaf_p (hr _ (List.mem_of_getElem? (eAt_get hk))) hF]
    simp only [ob_some]
    rw [apG_ok (by simp only [List.length_map, List.length_take, List.length_cons, List.length_nil]; omega), w64_nat (by omega), take_map_succ hk]
    rfl
  · simp only [un2]
    rw [show decide ((l.length : Int) < ((l.length : Nat) : Int)) = false from decide_eq_false (by omega), List.take_length]
    rfl
theorem root_p {o : KOffice} (hr : o.rng) {n : Nat} (hn : n ≤ o.Entries.length) (hl : n ≤ 60) {F : Nat} (hF : 64 ≤ F) : G_office_root F o (n : Int) = some (rootS (valsF o n)) := by
 obtain ⟨F', rfl⟩ : ∃ F', F = F' + 1 := ⟨F - 1, by omega⟩; unfold G_office_root; rw [show (0 : Int) = ((0 : Nat) : Int) from rfl, slI_ok (Nat.zero_le n) hn]; simp only [ob_some, List.drop_zero]; rw [show ((0 : Nat) : Int) = 0 from rfl, coll_p (fun e he => hr.r_Entries e (List.mem_of_mem_take he)) (by rw [List.length_take]; omega) hF]; rfl
theorem valsF_len {o : KOffice} {n : Nat} (hn : n ≤ o.Entries.length) : (valsF o n).length = n := by unfold valsF; rw [List.length_map, List.length_take]; omega
end Go.Proofs.YtiijddjfiojfaaaDoor
namespace Go.Proofs.YtiijddjfiojfaaaDoor
open Go.RowKit
def chF (b p : Int) (m : List Int) : Int := intsF ([b, p] ++ m) % 1073741789
theorem chF_rng (b p : Int) (m : List Int) : 0 ≤ chF b p m ∧ chF b p m < 1073741789 := by unfold chF; omega
theorem ch_w (l : List Int) : IntKind.i64.wrap (Int.tmod (intsF l) 1073741789) = intsF l % 1073741789 := by
 have := sumB_rng (textL l); unfold intsF; rw [Int.tmod_eq_emod_of_nonneg this.1, w64_id (by omega) (by omega)]
theorem ch_p {b p : Int} {m : List Int} (h : inI ([b, p] ++ m)) (hl : m.length ≤ 100) {F : Nat} (hF : 64 ≤ F) : G_group_challenge F b p m = some (chF b p m) := by
 unfold G_group_challenge; rw [apG_ok (by simp; omega)]; simp only [ob_some]; rw [dints h (by simp; omega) hF]; simp only [ob_some]; rw [ch_w]; rfl
theorem inI_app {a b : List Int} (ha : inI a) (hb : inI b) : inI (a ++ b) := fun z hz => by
 rcases List.mem_append.1 hz with hz | hz
 ·exact ha z hz
 ·exact hb z hz
theorem inI_pair {a b : Int} (ha : -9223372036854775808 ≤ a ∧ a ≤ 9223372036854775807) (hb : -9223372036854775808 ≤ b ∧ b ≤ 9223372036854775807) : inI [a, b] := by
 intro z hz; rcases List.mem_cons.1 hz with rfl | hz
 ·exact ha
 ·rcases List.mem_cons.1 hz with rfl | hz
  ·exact hb
  ·cases hz
theorem inI_msg {h : KHead} (h1 : inKd .i64 h.Office) (h2 : inKd .i64 h.Size) : inI (msgF h) := by
 show inI ([h.Office, h.Size] ++ [_, _])
 exact inI_app (inI_pair (inKd_i64 h1) (inKd_i64 h2)) (inI_pair (wrap_i64_rng _) (wrap_i64_rng _))
theorem pw_rng (a x : Nat) : -9223372036854775808 ≤ ((pw a x : Nat) : Int) ∧ ((pw a x : Nat) : Int) ≤ 9223372036854775807 := by have := pw_lt a x; omega
def isK (n : Int) : Bool := decide (1 ≤ n ∧ n < 1073741789)
def sigS (key once : Int) (m : List Int) : KSig × Int :=
 if isK key && isK once then (⟨chF ((pw 4 once.toNat : Nat) : Int) ((pw 4 key.toNat : Nat) : Int) m, (once + chF ((pw 4 once.toNat : Nat) : Int) ((pw 4 key.toNat : Nat) : Int) m * key) % 1073741789⟩, 0) else (⟨0, 0⟩, 1)
theorem pow4 (n : Int) (h0 : 0 ≤ n) (h1 : n ≤ 1073741789) {F : Nat} (hF : 64 ≤ F) : G_group_power F 4 n = some ((pw 4 n.toNat : Nat) : Int) ∧ G_regulatorref06_Power F 4 n 2147483579 = some ((pw 4 n.toNat : Nat) : Int) := by
  have hX : n.toNat < 2 ^ 62 := by have : (2 : Nat) ^ 62 = 4611686018427387904 := by decide
                                   omega
  have h1' := pow_pn 4 n.toNat (by decide) hX hF
  have h2' := pow_rn 4 n.toNat (by decide) hX hF
  rw [show ((n.toNat : Nat) : Int) = n by omega] at h1' h2'
  exact ⟨h1', h2'⟩
theorem sum_w {o c k : Int} (ho : 0 ≤ o ∧ o < 1073741789) (hc : 0 ≤ c ∧ c < 1073741789) (hk : 0 ≤ k ∧ k < 1073741789) : Int.tmod (IntKind.i64.wrap (o + IntKind.i64.wrap (c * k))) 1073741789 = (o + c * k) % 1073741789 := by
 have h1 : 0 ≤ c * k := Int.mul_nonneg hc.1 hk.1; have h2 : c * k ≤ 1073741789 * 1073741789 := Int.mul_le_mul (by omega) (by omega) hk.1 (by omega); rw [w64_id (n := c * k) (by omega) (by omega), w64_id (by omega) (by omega), Int.tmod_eq_emod_of_nonneg (by omega)]
theorem sig_p {key once : Int} {m : List Int} (hm : inI m) (hl : m.length ≤ 100) {F : Nat} (hF : 64 ≤ F) : G_group_Sign F key once m = some (sigS key once m) := by
 unfold G_group_Sign sigS isK; simp only [within_p, ob_some]
 by_cases h1 : 1 ≤ key ∧ key < 1073741789
 ·by_cases h2 : 1 ≤ once ∧ once < 1073741789
  ·simp only [h1, h2, and_self, decide_true, ifB_t, ob_some, Bool.not_true, ifB_f, Bool.and_self, if_true]; rw [(pow4 once (by omega) (by omega) hF).1, (pow4 key (by omega) (by omega) hF).1]; simp only [ob_some]; rw [ch_p (inI_app (inI_pair (pw_rng _ _) (pw_rng _ _)) hm) hl hF]; simp only [ob_some]; rw [sum_w ⟨by omega, h2.2⟩ (chF_rng _ _ _) ⟨by omega, h1.2⟩]
  ·simp only [h1, h2, and_self, decide_true, decide_false, ifB_t, ob_some, Bool.not_false, Bool.and_false, Bool.false_eq_true, if_false]
 ·simp only [h1, decide_false, ifB_f, ob_some, ifB_t, Bool.false_and, Bool.false_eq_true, if_false]
def begS (pub : Int) (s : KSig) : Nat := pw 4 s.S.toNat * pw pub.toNat (1073741789 - s.C.toNat) % 2147483579
def expB (s : KSig) : Bool := decide ((0 ≤ s.C ∧ s.C < 1073741789) ∧ (0 ≤ s.S ∧ s.S < 1073741789))
def verS (pub : Int) (s : KSig) (m : List Int) : Bool × Int :=
 if memB pub && expB s then (decide (chF (begS pub s : Int) pub m = s.C), 0) else (false, 1)
theorem memB_spec {a : Int} (h : memB a = true) : 0 < a ∧ a < 2147483579 ∧ pw a.toNat 1073741789 = 1 := of_decide_eq_true h
theorem mem_rng {a : Int} (h : memB a = true) : -9223372036854775808 ≤ a ∧ a ≤ 9223372036854775807 := by have := memB_spec h; omega
theorem beg_w (x y : Nat) (hx : x < 2147483579) (hy : y < 2147483579) : Int.tmod (IntKind.i64.wrap ((x : Int) * (y : Int))) 2147483579 = ((x * y % 2147483579 : Nat) : Int) := by rw [mul_in hx hy, mod_in]
theorem ver_p {pub : Int} {s : KSig} {m : List Int} (hm : inI m) (hl : m.length ≤ 100) {F : Nat} (hF : 64 ≤ F) : G_group_Verify F pub s m = some (verS pub s m) := by
  unfold G_group_Verify verS expB
  rw [mem_p pub hF]
  simp only [within_p, ob_some]
  cases hb : memB pub with
  | false => simp only [ifB_f, ifB_t, ob_some, Bool.false_and, Bool.false_eq_true, if_false]
  | true =>
    obtain ⟨m1, m2, m3⟩ := memB_spec hb
    by_cases h1 : 0 ≤ s.C ∧ s.C < 1073741789
    · by_cases h2 : 0 ≤ s.S ∧ s.S < 1073741789
      · simp only [h1, h2, and_self, decide_true, ifB_t, ob_some, Bool.not_true, ifB_f, Bool.and_self, if_true]
        have hp := pow_pn pub.toNat (1073741789 - s.C.toNat) (by omega) (by have : (2 : Nat) ^ 62 = 4611686018427387904 := by decide
                                                                            omega) hF
        rw [show ((pub.toNat : Nat) : Int) = pub by omega, show (((1073741789 - s.C.toNat : Nat)) : Int) = IntKind.i64.wrap (1073741789 - s.C) by rw [w64_id (by omega) (by omega)]; omega] at hp
        rw [(pow4 s.S (by omega) (by omega) hF).1, hp]
        simp only [ob_some]
        rw [beg_w _ _ (pw_lt _ _) (pw_lt _ _), ch_p (inI_app (inI_pair (by have := Nat.mod_lt (pw 4 s.S.toNat * pw pub.toNat (1073741789 - s.C.toNat)) (show 0 < 2147483579 by decide); omega) (mem_rng hb)) hm) hl hF]
        simp only [ob_some]
        congr 2
        rw [decide_eq_decide]
        constructor
        · intro h
          have := congrArg KSig.C h
          exact this.symm
        · intro h
          cases s
          simp only [KSig.mk.injEq, and_true]
          exact h.symm
      · simp only [h1, h2, and_self, and_false, decide_true, decide_false, ifB_t, ob_some, Bool.not_false, Bool.and_false, Bool.false_eq_true, if_false]
    · simp only [h1, false_and, decide_false, ifB_t, ifB_f, ob_some, Bool.and_false, Bool.false_eq_true, if_false]
def rightS (pub : Int) (h : KHead) : Bool × Int := if pubB pub && fH h then ((verS pub h.Sig (msgF h)).1, 0) else (false, 1)
theorem pub_mem' {a : Int} (h : pubB a = true) : memB a = true := by unfold pubB at h; simp at h; exact h.1
theorem fH_exp {h : KHead} (hh : fH h = true) : expB h.Sig = true := by
 have := of_decide_eq_true hh; exact decide_eq_true ⟨this.2.2.1, this.2.2.2⟩
theorem verS_ok {pub : Int} {s : KSig} {m : List Int} (h1 : memB pub = true) (h2 : expB s = true) : verS pub s m = (decide (chF (begS pub s : Int) pub m = s.C), 0) := by unfold verS; rw [h1, h2]; rfl
theorem right_p {pub : Int} {h : KHead} (h1 : inKd .i64 h.Office) (h2 : inKd .i64 h.Size) {F : Nat} (hF : 64 ≤ F) : G_office_Right F pub h = some (rightS pub h) := by
 unfold G_office_Right rightS; rw [pub_p pub hF]; simp only [fH_p, ob_some]; cases hp : pubB pub with
 | false => simp only [ifB_f, ifB_t, ob_some, Bool.false_and, Bool.false_eq_true, if_false]
 | true =>
  cases hh : fH h with
  | false => simp only [ifB_t, ob_some, Bool.not_false, Bool.and_false, Bool.false_eq_true, if_false]
  | true =>
   simp only [ifB_t, ob_some, Bool.not_true, ifB_f, Bool.and_self, if_true, msg_p]; rw [ver_p (inI_msg h1 h2) (by simp [msgF]) hF, verS_ok (pub_mem' hp) (fH_exp hh)]; rfl
end Go.Proofs.YtiijddjfiojfaaaDoor
namespace Go.Proofs.YtiijddjfiojfaaaDoor
open Go.RowKit
end Go.Proofs.YtiijddjfiojfaaaDoor
namespace Go.Proofs.YtiijddjfiojfaaaDoor
open Go.RowKit
theorem growS_O {a b : Int} {m n : Nat} {path : List Int} (h1 : 1 ≤ m) (hm : m ≤ n) (hn : n ≤ 4096) : growS a b m n path = decide (growO pairF a m n true path = some (a, b)) := by
 unfold growS; rw [if_neg (by omega), Int.toNat_natCast, Int.toNat_natCast]
theorem growO_law {l : List Int} {m : Nat} (h1 : 1 ≤ m) (hm : m ≤ l.length) : growO pairF (rootF (l.take m)) m l.length true (extF l m true) = some (rootF (l.take m), rootF l) := by
 unfold growO extF rootF; rw [grow_ext l.length l rfl m true _ h1 hm (fun _ => rfl)]; rfl
theorem growS_other {l : List Int} {m : Nat} {o : Int} (h1 : 1 ≤ m) (hm : m ≤ l.length) (hn : l.length ≤ 4096) (h : ¬isPow m ∨ m = l.length) (ho : o ≠ rootF (l.take m)) : growS o (rootF l) m l.length (extF l m true) = false := by
 rw [growS_O h1 hm hn]
 by_cases he : m = l.length
 ·have h2 : extF l m true = [] := extF_end (by omega); rw [h2, ← he, growO_mark, if_pos rfl]; rw [List.take_of_length_le (by omega)] at ho
  simp [ho]
 ·have hp := h.resolve_right he; have h2 := growO_other (a := o) (path := extF l m true) h1 hp (show m < l.length by omega); have h3 := growO_other (a := rootF (l.take m)) (path := extF l m true) h1 hp (show m < l.length by omega); have h4 : growO pairF o m l.length false (extF l m true) = growO pairF (rootF (l.take m)) m l.length false (extF l m true) := by
   unfold growO; rw [growJ_any l.length o (rootF (l.take m))]
  rw [h2, h4, ← h3, growO_law h1 hm]
  simp
  intro e; exact absurd e.symm ho
theorem extF_le {l : List Int} {m : Nat} {mark : Bool} (h : l.length ≤ 4096) : (extF l m mark).length ≤ 13 := by
 unfold extF; rw [ext_len l.length l rfl m mark]; exact glen_le 12 _ _ _ h
theorem rootS_ok {l : List Int} (h1 : 1 ≤ l.length) (h2 : l.length ≤ 4096) : rootS l = (rootF l, 0) := by
 have hc : checkS l = 0 := by unfold checkS; rw [if_neg (by omega), if_neg (by omega)]
 unfold rootS; rw [if_neg (by simp [hc])]
theorem extS_ok {l : List Int} {m : Nat} (h1 : 1 ≤ m) (h : m ≤ l.length) (h2 : l.length ≤ 4096) : extS l m = (extF l m true, 0) := by
 have hc : checkS l = 0 := by unfold checkS; rw [if_neg (by omega), if_neg (by omega)]
 unfold extS; rw [if_neg (by simp [hc]), if_neg (by omega), Int.toNat_natCast]
end Go.Proofs.YtiijddjfiojfaaaDoor
namespace Go.Proofs.YtiijddjfiojfaaaDoor
open Go.RowKit
theorem inKd_w {n : Int} (h0 : -9223372036854775808 ≤ n) (h1 : n ≤ 9223372036854775807) : inKd .i64 n := by
 have : IntKind.i64.min ≤ n ∧ n ≤ IntKind.i64.max := by
  rw [show IntKind.i64.min = -9223372036854775808 by decide, show IntKind.i64.max = 9223372036854775807 by decide]; exact ⟨h0, h1⟩
 simpa [inKd, Lit.wf] using this
theorem inKd_wu {n : Int} (h0 : 0 ≤ n) (h1 : n ≤ 18446744073709551615) : inKd .u64 n := by
 have : IntKind.u64.min ≤ n ∧ n ≤ IntKind.u64.max := by
  rw [show IntKind.u64.min = 0 by decide, show IntKind.u64.max = 18446744073709551615 by decide]; exact ⟨h0, h1⟩
 simpa [inKd, Lit.wf] using this
def bareF (o : KOffice) (n : Nat) : KHead := ⟨o.ID, n, rootF (valsF o n), ⟨0, 0⟩⟩
def signS (o : KOffice) (n key once : Int) : KHead × Int :=
 if vO o && decide (1 ≤ n ∧ n ≤ o.Entries.length) && (isK key && isK once) then
  (⟨o.ID, n, rootF (valsF o n.toNat), (sigS key once (msgF (bareF o n.toNat))).1⟩, 0)
 else (⟨0, 0, 0, ⟨0, 0⟩⟩, 1)
theorem sigS_ok {k o : Int} {m : List Int} (h : (isK k && isK o) = true) : sigS k o m = ((sigS k o m).1, 0) := by unfold sigS; rw [h]; rfl
theorem sigS_no {k o : Int} {m : List Int} (h : (isK k && isK o) = false) : sigS k o m = (⟨0, 0⟩, 1) := by unfold sigS; rw [h]; rfl
theorem inI_bare {o : KOffice} (hr : o.rng) {k : Nat} (hk : k ≤ 1000) : inI (msgF (bareF o k)) := inI_msg hr.r_ID (show inKd .i64 (k : Int) from inKd_w (by omega) (by omega))
theorem sign_p {o : KOffice} (hr : o.rng) (hl : o.Entries.length ≤ 50) {n key once : Int} {F : Nat} (hF : 64 ≤ F) : G_office_Sign F o n key once = some (signS o n key once) := by
 unfold G_office_Sign signS; rw [valid_p hl hF]; simp only [ob_some]; cases hv : vO o with
 | false => simp only [ifB_f, ifB_t, ob_some, Bool.false_and, Bool.false_eq_true, if_false]
 | true =>
  rw [ifB_t, btw_p]; simp only [ob_some]
  by_cases hn : 1 ≤ n ∧ n ≤ (o.Entries.length : Int)
  ·rw [show decide (1 ≤ n ∧ n ≤ ((o.Entries.length : Nat) : Int)) = true from decide_eq_true hn]; obtain ⟨k, rfl⟩ : ∃ k : Nat, n = k := ⟨n.toNat, by omega⟩; simp only [Bool.not_true, ifB_f, Bool.true_and]; rw [root_p hr (by omega) (by omega) hF, rootS_ok (by rw [valsF_len (by omega)]; omega) (by rw [valsF_len (by omega)]; omega)]; simp only [un2, msg_p, ob_some, beq_self_eq_true, ifB_t, Int.toNat_natCast]; rw [show (⟨o.ID, (k : Int), rootF (valsF o k), ⟨0, 0⟩⟩ : KHead) = bareF o k from rfl, sig_p (inI_bare hr (by omega)) (by simp [msgF]) hF]; cases hk : (isK key && isK once) with
   | true =>
    rw [sigS_ok hk]; rfl
   | false =>
    rw [sigS_no hk]; rfl
  ·rw [show decide (1 ≤ n ∧ n ≤ ((o.Entries.length : Nat) : Int)) = false from decide_eq_false hn]; simp only [ifB_t, Bool.not_false, Bool.true_and, Bool.false_and, Bool.false_eq_true, if_false]
end Go.Proofs.YtiijddjfiojfaaaDoor
namespace Go.Proofs.YtiijddjfiojfaaaDoor
open Go.RowKit
theorem rightS_ok {pub : Int} {h : KHead} (h1 : pubB pub = true) (h2 : fH h = true) : rightS pub h = ((verS pub h.Sig (msgF h)).1, 0) := by unfold rightS; rw [h1, h2]; rfl
end Go.Proofs.YtiijddjfiojfaaaDoor
namespace Go.Proofs.YtiijddjfiojfaaaDoor
open Go.RowKit
theorem few_eq (F : Nat) (o : KOffice) : G_regulatorref25_Few F o = some (decide (((o.Entries.length : Nat) : Int) ≤ 40)) := rfl
theorem vO_iff {o : KOffice} : vO o = true ↔ (∀ j, j < o.Entries.length → okAt o.Entries j = true) ∧ (1 ≤ o.ID ∧ o.ID ≤ 16) ∧ o.Entries.length ≤ 4096 := by
 unfold vO ordB; simp only [Bool.and_eq_true, decide_eq_true_eq, frB_iff]; constructor
 ·rintro ⟨h1, h2, h3⟩; exact ⟨fun j hj => h1 j (Nat.zero_le _) (by omega), h2, h3⟩
 ·rintro ⟨h1, h2, h3⟩; exact ⟨fun j _ hj => h1 j (by omega), h2, h3⟩
theorem modL {s L : Nat} (hs : s ≤ 65535) : Int.tmod (IntKind.i64.wrap ((s : Nat) : Int)) ((L : Nat) : Int) = ((s % L : Nat) : Int) := by rw [w64_id (by omega) (by omega)]; rfl
theorem pickL {s L : Nat} (hs : s ≤ 65535) (h0 : 0 < L) (hL : L ≤ 5000) : IntKind.i64.wrap (1 + Int.tmod (IntKind.i64.wrap ((s : Nat) : Int)) ((L : Nat) : Int)) = ((1 + s % L : Nat) : Int) := by
 rw [modL hs]; have := Nat.mod_lt s h0; rw [w64_id (by omega) (by omega)]; omega
theorem inKd_nat8 {n : Int} (h : inKd .u8 n) : ∃ s : Nat, n = s ∧ s ≤ 65535 := by have := inKd_u8 h; exact ⟨n.toNat, by omega, by omega⟩
def secF (n : Int) : Int := n % 1073741788 + 1
theorem sec_eq {n : Int} (h : inKd .u64 n) (F : Nat) : G_regulatorref06_Secret F n = some (secF n) := by
 have := inKd_u64 h; unfold G_regulatorref06_Secret secF; rw [Int.tmod_eq_emod_of_nonneg this.1, w64_id (n := n % 1073741788) (by omega) (by omega), w64_id (by omega) (by omega), Int.add_comm]
theorem sec_isK (n : Int) : isK (secF n) = true := decide_eq_true (by unfold secF; omega)
theorem isK_spec {k : Int} (h : isK k = true) : 1 ≤ k ∧ k < 1073741789 := of_decide_eq_true h
def pubF (k : Int) : Int := ((pw 4 k.toNat : Nat) : Int)
theorem pubF_eq {k : Int} (h : isK k = true) {F : Nat} (hF : 64 ≤ F) : G_regulatorref06_Public F k = some (pubF k) := by
 have := isK_spec h; unfold G_regulatorref06_Public; rw [(pow4 k (by omega) (by omega) hF).2]; rfl
theorem pubF_mem (k : Int) : memB (pubF k) = true := by
 have h1 := pub_pos k.toNat; have h2 := pw_lt 4 k.toNat; exact decide_eq_true ⟨by unfold pubF; omega, by unfold pubF; omega, by unfold pubF; rw [Int.toNat_natCast]; exact pub_mem _⟩
theorem pubF_pub {k : Int} (h : isK k = true) : pubB (pubF k) = true := by
 have hk := isK_spec h; have h1 := pub_ne (k := k.toNat) (by omega) (by omega); unfold pubB; rw [pubF_mem, show (pubF k == 1) = false from beq_eq_false_iff_ne.2 (by unfold pubF; omega)]; rfl
theorem sig_C {k m : Int} {l : List Int} (h : (isK k && isK m) = true) : (sigS k m l).1 = ⟨chF (pubF m) (pubF k) l, (m + chF (pubF m) (pubF k) l * k) % 1073741789⟩ := by unfold sigS; rw [h]; rfl
theorem sig_exp {k m : Int} {l : List Int} (h : (isK k && isK m) = true) : expB (sigS k m l).1 = true := by
 rw [sig_C h]; have := chF_rng (pubF m) (pubF k) l; refine decide_eq_true ⟨this, ?_⟩; constructor <;> simp only <;> omega
theorem sig_beg {k m : Int} {l : List Int} (h : (isK k && isK m) = true) : (begS (pubF k) (sigS k m l).1 : Int) = pubF m := by
 rw [sig_C h]; have hk : isK k = true ∧ isK m = true := by simpa using h
 have h1 := isK_spec hk.1; have h2 := isK_spec hk.2; have hc := chF_rng (pubF m) (pubF k) l; generalize chF (pubF m) (pubF k) l = c at hc; obtain ⟨C, rfl⟩ : ∃ C : Nat, c = C := ⟨c.toNat, by omega⟩; obtain ⟨K, rfl⟩ : ∃ K : Nat, k = K := ⟨k.toNat, by omega⟩; obtain ⟨M, rfl⟩ : ∃ M : Nat, m = M := ⟨m.toNat, by omega⟩; unfold begS pubF; simp only [Int.toNat_natCast]; have e : (((M : Int) + (C : Int) * (K : Int)) % 1073741789).toNat = (M + C * K) % 1073741789 := by
  rw [show ((M : Int) + (C : Int) * (K : Int)) % 1073741789 = (((M + C * K) % 1073741789 : Nat) : Int) by rw [Int.natCast_emod, Int.natCast_add, Int.natCast_mul]; rfl, Int.toNat_natCast]
 rw [e, sig_back K M C (by omega)]
theorem ver_own {k m : Int} {l : List Int} (h : (isK k && isK m) = true) : verS (pubF k) (sigS k m l).1 l = (true, 0) := by
 rw [verS_ok (pubF_mem k) (sig_exp h), sig_beg h]; rw [sig_C h]
 simp
def headF (o : KOffice) (n : Nat) (k m : Int) : KHead := ⟨o.ID, n, rootF (valsF o n), (sigS k m (msgF (bareF o n))).1⟩
theorem sign_ok {o : KOffice} {n : Nat} {k m : Int} (hv : vO o = true) (h1 : 1 ≤ n) (h2 : n ≤ o.Entries.length) (h : (isK k && isK m) = true) : signS o n k m = (headF o n k m, 0) := by
 unfold signS; rw [hv, h, show decide (1 ≤ (n : Int) ∧ (n : Int) ≤ ((o.Entries.length : Nat) : Int)) = true from decide_eq_true (by omega)]; rfl
theorem msg_head (o : KOffice) (n : Nat) (k m : Int) : msgF (headF o n k m) = msgF (bareF o n) := rfl
theorem headF_fH {o : KOffice} {n : Nat} {k m : Int} (hv : vO o = true) (h1 : 1 ≤ n) (h2 : n ≤ 4096) (h : (isK k && isK m) = true) : fH (headF o n k m) = true := by
 have hi := (vO_iff.1 hv).2.1; have he : expB (headF o n k m).Sig = true := sig_exp h; have he := of_decide_eq_true he; exact decide_eq_true ⟨hi, ⟨by show 1 ≤ (n : Int); omega, by show (n : Int) ≤ 4096; omega⟩, he.1, he.2⟩
theorem hF : 64 ≤ 300 := by decide
theorem un2_p {a b c : Type} (f : a → b → c) (p : a × b) : un2 f p = f p.1 p.2 := rfl
theorem both {k m : Int} (h1 : isK k = true) (h2 : isK m = true) : (isK k && isK m) = true := by rw [h1, h2]; rfl
theorem nz {n : Nat} (h : 0 < n) : (!(((n : Nat) : Int) == 0)) = true := by
 rw [show (((n : Nat) : Int) == 0) = false from beq_eq_false_iff_ne.2 (by omega)]; rfl
theorem pext (l : List Int) (i : Int) {F : Nat} (hF : 64 ≤ F) : G_tree_Extend F l i = some (extS l i) := by
 obtain ⟨F', rfl⟩ : ∃ F', F = F' + 1 := ⟨F - 1, by omega⟩; rfl
theorem pgrow (a b m n : Int) (l : List Int) (hl : l.length ≤ 1000) {F : Nat} (hF : 64 ≤ F) : G_tree_Extended F a b m n l = some (growS a b m n l) := by
 obtain ⟨F', rfl⟩ : ∃ F', F = F' + 1 := ⟨F - 1, by omega⟩; exact whenG_t (decide_eq_true hl)
theorem valsF_take {o : KOffice} {m n : Nat} (h : m ≤ n) : (valsF o n).take m = valsF o m := by
 unfold valsF; rw [← List.map_take, List.take_take, Nat.min_eq_left h]
end Go.Proofs.YtiijddjfiojfaaaDoor
namespace Go.Proofs.YtiijddjfiojfaaaDoor
open Go.RowKit
section
variable {ρ : Type}
end
theorem rightS_e {pub : Int} {h : KHead} : ((rightS pub h).2 == 0) = (pubB pub && fH h) := by
 unfold rightS; cases pubB pub && fH h <;> rfl
def frkS (pub : Int) (a b : KHead) (path : List Int) : Bool × Int :=
  if pubB pub && (fH a && (fH b && decide (path.length ≤ 21))) then
    (if (rightS pub a).1 && ((rightS pub b).1 && (decide (a.Office = b.Office) && !decide (a.Size > b.Size))) then
      (if a.Size = b.Size then (decide (path.length = 0) && !(a.Root == b.Root), 0)
       else match path with
        | [] => (false, 0)
        | x :: l => (if x == a.Root then (false, 0) else (growS x b.Root a.Size b.Size l, 0)))
    else (false, 0))
  else (false, 1)
theorem frk_p {pub : Int} {a b : KHead} {path : List Int} (ha : a.rng) (hb : b.rng) {F : Nat} (hF : 64 ≤ F) : G_cross_Forks F pub a b path = some (frkS pub a b path) := by
 unfold G_cross_Forks frkS; rw [right_p ha.r_Office ha.r_Size hF, right_p hb.r_Office hb.r_Size hF, ob_some, un2_p, ob_some, un2_p]; rw [rightS_e, rightS_e]; cases h1 : pubB pub with
 | false => rfl
 | true =>
 cases h2 : fH a with
 | false => rfl
 | true =>
 cases h3 : fH b with
 | false => rfl
 | true =>
 by_cases h4 : path.length ≤ 21
 ·rw [show decide (((path.length : Nat) : Int) > 21) = false from decide_eq_false (by omega), show decide (path.length ≤ 21) = true from decide_eq_true h4]; simp only [ifB_t, ifB_f, ob_some, Bool.and_self, if_true]; cases (rightS pub a).1 with
  | false => rfl
  | true =>
  cases (rightS pub b).1 with
  | false => rfl
  | true =>
  by_cases h5 : a.Office = b.Office
  ·rw [show (a.Office == b.Office) = true from beq_iff_eq.2 h5, show decide (a.Office = b.Office) = true from decide_eq_true h5]; cases decide (a.Size > b.Size) with
   | true => rfl
   | false =>
    simp only [ifB_t, ifB_f, ob_some, Bool.not_false, Bool.and_self, if_true]
    by_cases h6 : a.Size = b.Size
    ·rw [show (a.Size == b.Size) = true from beq_iff_eq.2 h6, if_pos h6, ifB_t]; cases path with
     | nil => rfl
     | cons x l => rfl
    ·rw [show (a.Size == b.Size) = false from beq_eq_false_iff_ne.2 h6, if_neg h6, ifB_f]; cases path with
     | nil => rfl
     | cons x l =>
      rw [show ((((x :: l).length : Nat) : Int) == 0) = false from beq_eq_false_iff_ne.2 (by simp only [List.length_cons]; omega)]; rw [show ixI (x :: l) 0 = some x from rfl]; simp only [ifB_f, ob_some]; cases (x == a.Root) with
      | true => rfl
      | false =>
       simp only [List.length_cons] at h4; simp only [ifB_f, ob_some, Bool.false_eq_true, if_false]; rw [show slI (x :: l) 1 (((x :: l).length : Nat) : Int) = some l from by
        rw [show (1 : Int) = ((1 : Nat) : Int) from rfl, slI_ok (by simp) (Nat.le_refl _)]
        simp]
       simp only [ob_some]; rw [pgrow _ _ _ _ _ (by omega) hF]; rfl
  ·rw [show (a.Office == b.Office) = false from beq_eq_false_iff_ne.2 h5, show decide (a.Office = b.Office) = false from decide_eq_false h5]; rfl
 ·rw [show decide (((path.length : Nat) : Int) > 21) = true from decide_eq_true (by omega), show decide (path.length ≤ 21) = false from decide_eq_false h4]; rfl
end Go.Proofs.YtiijddjfiojfaaaDoor
namespace Go.Proofs.YtiijddjfiojfaaaDoor
open Go.RowKit
theorem headF_rng {o : KOffice} (hr : o.rng) {n : Nat} (hn : n ≤ 5000) {k m : Int} (h : (isK k && isK m) = true) : (headF o n k m).rng := by
 have he := of_decide_eq_true (sig_exp (l := msgF (bareF o n)) h); have hR := rootF_rng (valsF o n); exact ⟨hr.r_ID, inKd_w (by show -9223372036854775808 ≤ (n : Int); omega) (by show (n : Int) ≤ 9223372036854775807; omega), inKd_wu hR.1 hR.2, ⟨inKd_w (by show -9223372036854775808 ≤ (sigS k m (msgF (bareF o n))).1.C; omega) (by show (sigS k m (msgF (bareF o n))).1.C ≤ 9223372036854775807; omega), inKd_w (by show -9223372036854775808 ≤ (sigS k m (msgF (bareF o n))).1.S; omega) (by show (sigS k m (msgF (bareF o n))).1.S ≤ 9223372036854775807; omega)⟩⟩
theorem right_own {o : KOffice} {n : Nat} {k m : Int} (hv : vO o = true) (h1 : 1 ≤ n) (h2 : n ≤ 4096) (h : (isK k && isK m) = true) : rightS (pubF k) (headF o n k m) = (true, 0) := by
 have hk : isK k = true := by simp only [Bool.and_eq_true] at h; exact h.1
 rw [rightS_ok (pubF_pub hk) (headF_fH hv h1 h2 h), msg_head, show (headF o n k m).Sig = (sigS k m (msgF (bareF o n))).1 from rfl, ver_own h]
theorem pubF_ne {k : Int} (h : isK k = true) : (pubF k == 1) = false := by
 have := pubF_pub h; unfold pubB at this; cases hc : (pubF k == 1) with
 | true => rw [hc] at this; simp at this
 | false => rfl
theorem head26 : G_regulatorlaw26_head 300 = some true := by kernel_rfl
end Go.Proofs.YtiijddjfiojfaaaDoor
namespace Go.Proofs.YtiijddjfiojfaaaDoor
open Go.RowKit
def frkB (ra rb sa sb : Int) (path : List Int) : Bool := if sa = sb then (decide (path.length = 0) && !(ra == rb)) else match path with
 | [] => false
 | x :: l => (!(x == ra) && growS x rb sa sb l)
theorem frk_ok {pub : Int} {a b : KHead} {path : List Int} (h1 : pubB pub = true) (h2 : fH a = true) (h3 : fH b = true) (h4 : path.length ≤ 21) (h5 : (rightS pub a).1 = true) (h6 : (rightS pub b).1 = true) (h7 : a.Office = b.Office) (h8 : a.Size ≤ b.Size) :
  frkS pub a b path = (frkB a.Root b.Root a.Size b.Size path, 0) := by
 unfold frkS frkB; rw [h1, h2, h3, h5, h6, show decide (path.length ≤ 21) = true from decide_eq_true h4, show decide (a.Office = b.Office) = true from decide_eq_true h7, show decide (a.Size > b.Size) = false from decide_eq_false (by omega)]; simp only [Bool.and_self, if_true, Bool.not_false]
 by_cases e : a.Size = b.Size
 ·rw [if_pos e, if_pos e]
 ·rw [if_neg e, if_neg e]; cases path with
  | nil => rfl
  | cons x l =>
   show (if (x == a.Root) = true then ((false, 0) : Bool × Int) else (growS x b.Root a.Size b.Size l, 0)) = (!(x == a.Root) && growS x b.Root a.Size b.Size l, 0)
   cases (x == a.Root) <;> rfl
theorem law26_honest {o : KOffice} {m n x : Int} {ks : K2_uint64} (hr : o.rng) (hm : inKd .u8 m) (hn : inKd .u8 n) (hk : ks.rng) (hx : inKd .u64 x) : G_regulatorlaw26_CrossHonest 300 o m n ks x = some true := by
 unfold G_regulatorlaw26_CrossHonest; rw [head26, few_eq]; simp only [ob_some]
 by_cases hl : o.Entries.length ≤ 40
 ·rw [show decide (((o.Entries.length : Nat) : Int) ≤ 40) = true from decide_eq_true (by omega), ifB_t, valid_r (by omega) hF]; simp only [ob_some]; cases hv : vO o with
  | false => rfl
  | true =>
  by_cases hz : 0 < o.Entries.length
  ·rw [show ((((o.Entries.length : Nat) : Int)) == 0) = false from beq_eq_false_iff_ne.2 (by omega)]; obtain ⟨m, rfl, hm'⟩ := inKd_nat8 hm; obtain ⟨n, rfl, hn'⟩ := inKd_nat8 hn; rw [pickL hn' hz (by omega)]; have hLe : 1 + n % o.Entries.length ≤ o.Entries.length := by have := Nat.mod_lt n hz; omega
   have hN : 1 ≤ 1 + n % o.Entries.length := by omega
   generalize 1 + n % o.Entries.length = N at hLe hN; simp only [ifB_t, ob_some, un2, ifB_f, Bool.not_false]; rw [whenG_t rfl, ob_some]; rw [pickL hm' (by omega) (by omega)]; have hSe : 1 + m % N ≤ N := by have := Nat.mod_lt m (show 0 < N by omega); omega
   generalize hs : 1 + m % N = s at hSe; have h1 : 1 ≤ s := by omega
   rw [whenG_t (nz hN), ob_some, sec_eq hk.r_f0, sec_eq hk.r_f1, ob_some, ob_some]; have hK := sec_isK ks.f0; have hM := sec_isK ks.f1; generalize secF ks.f0 = K at hK; generalize secF ks.f1 = M at hM; have hbb := both hK hM; have hL : (valsF o N).length = N := valsF_len (by omega); rw [sign_p hr (by omega) hF, sign_ok hv h1 (by omega) hbb, ob_some, un2_p, sign_p hr (by omega) hF, sign_ok hv hN (by omega) hbb, ob_some, un2_p, vals_r hr (by omega) (by omega) hF, ob_some, pext _ _ hF, extS_ok h1 (by rw [hL]; omega) (by rw [hL]; omega), ob_some, un2_p, pubF_eq hK hF, ob_some, pubF_ne hK, ifB_f]; have hfa := headF_fH (n := s) hv h1 (by omega) hbb; have hfb := headF_fH (n := N) hv hN (by omega) hbb; have hra := right_own (n := s) hv h1 (by omega) hbb; have hrb := right_own (n := N) hv hN (by omega) hbb; have hga := headF_rng hr (n := s) (by omega) hbb; have hgb := headF_rng hr (n := N) (by omega) hbb; have hle := extF_le (l := valsF o N) (m := s) (mark := true) (by omega); rw [apG_ok (by simp only [List.length_cons, List.length_nil]; omega), ob_some, frk_p hga hgb hF, ob_some, un2_p, frk_p hga hgb hF, ob_some, un2_p]; have hno : (frkS (pubF K) (headF o s K M) (headF o N K M) []) = (false, 0) := by
    rw [frk_ok (pubF_pub hK) hfa hfb (by simp) (by rw [hra]) (by rw [hrb]) rfl (by show (s : Int) ≤ (N : Int); omega)]; unfold frkB
    by_cases e : s = N
    ·rw [if_pos (show (headF o s K M).Size = (headF o N K M).Size from by show (s : Int) = (N : Int); omega), e]
     simp
    ·rw [if_neg (show ¬(headF o s K M).Size = (headF o N K M).Size from by show ¬(s : Int) = (N : Int); omega)]
   rw [hno, frk_ok (pubF_pub hK) hfa hfb (by simp only [List.length_append, List.length_cons, List.length_nil]; omega) (by rw [hra]) (by rw [hrb]) rfl (by show (s : Int) ≤ (N : Int); omega)]; unfold frkB
   by_cases e : s = N
   ·rw [if_pos (show (headF o s K M).Size = (headF o N K M).Size from by show (s : Int) = (N : Int); omega), show decide ((s : Int) < (N : Int)) = false from decide_eq_false (by omega)]; rfl
   ·rw [if_neg (show ¬(headF o s K M).Size = (headF o N K M).Size from by show ¬(s : Int) = (N : Int); omega), show decide ((s : Int) < (N : Int)) = true from decide_eq_true (by omega)]; simp only [List.cons_append, List.nil_append]; cases hxe : (x == (headF o s K M).Root) with
    | true => rfl
    | false =>
     simp only [Bool.false_eq_true, if_false, beq_self_eq_true, ifB_t, ifB_f, ob_some]; rw [pgrow _ _ _ _ _ (by omega) hF]; simp only [ob_some]; rw [show growS x (headF o N K M).Root (headF o s K M).Size (headF o N K M).Size (extF (valsF o N) s true) = growS x (headF o N K M).Root (s : Int) (N : Int) (extF (valsF o N) s true) from rfl]; cases hgr : growS x (headF o N K M).Root (s : Int) (N : Int) (extF (valsF o N) s true) with
     | false => rfl
     | true =>
      have hpow : isPow s := by
       by_cases hp : isPow s
       ·exact hp
       ·have hne : x ≠ rootF ((valsF o N).take s) := by
         rw [valsF_take hSe]; exact fun h => by rw [h] at hxe; rw [show ((headF o s K M).Root) = rootF (valsF o s) from rfl, beq_self_eq_true] at hxe; cases hxe
        have := growS_other (l := valsF o N) (m := s) (o := x) h1 (by rw [hL]; omega) (by rw [hL]; omega) (.inl hp) hne; rw [hL] at this; rw [show rootF (valsF o N) = (headF o N K M).Root from rfl, hgr] at this; cases this
      rw [w64_id (n := (s : Int) - 1) (by omega) (by omega), and_pred h1 (by omega), (isPow_iff h1 (by omega)).1 hpow]; rfl
  ·rw [show ((((o.Entries.length : Nat) : Int)) == 0) = true from beq_iff_eq.2 (by omega)]; rfl
 ·rw [show decide (((o.Entries.length : Nat) : Int) ≤ 40) = false from decide_eq_false (by omega)]; rfl
end Go.Proofs.YtiijddjfiojfaaaDoor
namespace Go.Proofs.YtiijddjfiojfaaaDoor
open Go.RowKit
structure Mk (a b : KOffice) (K M : Int) : Prop where
 ha : a.rng
 hb : b.rng
 va : vO a = true
 vb : vO b = true
 la : a.Entries.length ≤ 40
 lb : b.Entries.length ≤ 40
 z : 0 < a.Entries.length
 id : (a.ID == b.ID) = false
 k : isK K = true
 m : isK M = true
end Go.Proofs.YtiijddjfiojfaaaDoor
namespace Go.Proofs.YtiijddjfiojfaaaDoor
open Go.RowKit
theorem tb_of {W : World} {L : List (String × DataW Unit)} (h : laidMet Tryd.prog L W) (hm : ("internal/strconv.uint64pow10", Rows.laid_internal_strconv_uint64pow10) ∈ L) : Tb W := by
 refine Lib.tabBelow_of_tabIs ?_; obtain ⟨g, t, cs, fuel, p, hg, ht, hvar, hd⟩ := Lib.laidMet.reads h hm; have h1 : (Tryd.prog.globalNamed "internal/strconv.uint64pow10").bind (fun g => (Tryd.prog.globals[g]?).map (·.type)) = some 144 := by kernel_rfl
 rw [hg] at h1; obtain rfl : t = 144 := Option.some.inj (ht.symm.trans h1); unfold Lib.TabIs; rw [hvar, ← Lib.cells_of_tab (k := .u64) (zs := Lib.pow10Tab) Tryd.underlying144 Tryd.underlying25 (by kernel_rfl) (by kernel_rfl) hd]
end Go.Proofs.YtiijddjfiojfaaaDoor
