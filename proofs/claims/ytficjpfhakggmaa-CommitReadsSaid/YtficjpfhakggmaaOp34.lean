/-
  Arguments opened: rows of records with rows inside them; a transaction, a leader, an interval.
-/
import Derived.Test.YtficjpfhakggmaaOpA
import Derived.Test.YtficjpfhakggmaaIv34
namespace Go.Proofs.Ytficjpfhakggmaa
open Go.ChangeShapes Go.WideShapes Go.ChangeAt Go.RowKit Go.Deep
section
variable {α : Type} {f : α → List Value} {m : Nat} {w : World}
theorem RS.mk {b o : Nat} {l : List α} (hm : ∀ x, (f x).length = m) (h0 : 0 < m) (h : ∀ i (hi : i < l.length) j, j < m → w.cell? ⟨b, o + i * m + j, none⟩ = (f l[i])[j]?) : RS f w (some ⟨b, o, none⟩) l := fun hne => by
  have hl : 0 < l.length := by
    cases l with
    | nil => exact absurd rfl hne
    | cons _ _ => simp
  have hlen := flat_len f m hm l
  refine ⟨b, o, rfl, ?_, fun j u hu => ?_⟩
  · have h1 := h 0 hl 0 h0
    have h2 : (f l[0])[0]? = some ((f l[0])[0]'(by rw [hm]; exact h0)) := List.getElem?_eq_getElem _
    rw [h2] at h1
    exact cell_lt h1
  · have hj : j < l.length * m := by
      have := (List.getElem?_eq_some_iff.1 hu).1
      rwa [hlen] at this
    have hi : j / m < l.length := Nat.div_lt_of_lt_mul (by rw [Nat.mul_comm]; exact hj)
    have hr : j % m < m := Nat.mod_lt _ h0
    have he : j / m * m + j % m = j := by rw [Nat.mul_comm]; exact Nat.div_add_mod _ _
    have hg := flat_get f m hm l (j / m) (j % m) hi hr
    rw [he] at hg
    rw [hg] at hu
    have := h (j / m) hi (j % m) hr
    rw [Nat.add_assoc, he] at this
    rw [this]
    exact hu
end
section
variable {H : Type} {enc : TypeId × Value → H} {w : World} {base : Nat} {spare : Nat → Bool} {held : Bool}
/-- a row of records that is read as data -/
theorem trod_row {α : Type} [Inhabited α] (f : α → List Value) {m : Nat} (h0 : 0 < m) (hm : ∀ x, (f x).length = m) {T E : TypeId} (hu : Try.prog.underlying T = some (.slice E)) (hc : Try.prog.cellsOf E = m) (Q : α → Prop)
    (hE : ∀ n cs x, DataW.trod enc Try.prog w base spare held n E cs = some x → ∃ v, cs = f v ∧ Q v) {fuel : Nat} {cs : List Value} {x : DataW H × List MemPlace} (h : DataW.trod enc Try.prog w base spare held fuel T cs = some x) :
    ∃ (A : Option Addr) (c : Nat) (l : List α), cs = [.slice A l.length c] ∧ l.length ≤ c ∧ c ≤ maxLen ∧ RS f w A l ∧ ∀ v ∈ l, Q v := by
  obtain ⟨d, p⟩ := x
  rcases open_slice hu h with ⟨hcs, _⟩ | ⟨a, len, cap, mm, n, D, Pl, hcs, _, hl, hmx, hmm, _, hx⟩
  · exact ⟨none, 0, [], hcs, Nat.le_refl _, Nat.zero_le _, RS.nil, fun v hv => by cases hv⟩
  · have hlm : len ≤ mm := by rw [hmm]; split <;> omega
    have hex : ∀ i, i < len → ∃ v : α, (∀ j, j < m → w.cell? ((a.add (i * m)).add j) = (f v)[j]?) ∧ Q v := fun i hi => by
      obtain ⟨cs', h1, h2⟩ := hx i (by omega)
      rw [hc] at h1
      obtain ⟨v, rfl, hq⟩ := hE _ _ _ h2
      exact ⟨v, (World.cells?_some h1).2.2, hq⟩
    obtain ⟨V, hV⟩ := choose_lt hex
    refine ⟨some a, cap, (List.range len).map V, by rw [hcs]; simp, by simpa using hl, hmx, ?_, ?_⟩
    · rcases Nat.eq_zero_or_pos len with h00 | h00
      · subst h00; exact RS.nil
      obtain ⟨b, o, spot⟩ := a
      have hs : spot = none := by
        have := (hV 0 h00).1 0 h0
        simp only [Nat.zero_mul, Addr.add, if_true] at this
        have h2 : (f (V 0))[0]? = some ((f (V 0))[0]'(by rw [hm]; exact h0)) := List.getElem?_eq_getElem _
        rw [h2] at this
        exact World.cell?_spot this
      subst hs
      refine RS.mk hm h0 fun i hi j hj => ?_
      have hi' : i < len := by simpa using hi
      have e : ∀ j, (((⟨b, o, none⟩ : Addr).add (i * m)).add j) = ⟨b, o + i * m + j, none⟩ := fun j => by
        rw [add_add]
        unfold Addr.add
        split
        all_goals (simp; try omega)
      have hcc := (hV i hi').1 j hj
      rw [e] at hcc
      simp only [List.getElem_map, List.getElem_range]
      exact hcc
    · intro v hv
      obtain ⟨i, hi, rfl⟩ := List.mem_map.1 hv
      exact (hV i (List.mem_range.1 hi)).2
end
section
variable {H : Type} {enc : TypeId × Value → H} {w : World} {base : Nat} {spare : Nat → Bool} {held : Bool}
set_option maxRecDepth 10000
theorem trod_sn_fields : ∃ f0 f1 : Field, Try.prog.underlying 65 = some (.struct #[f0, f1]) ∧ oneCellFields Try.prog #[f0, f1] = true ∧ Try.prog.underlying f0.type = some (.int .i64) ∧ Try.prog.underlying f1.type = some (.int .i64) :=
  ⟨_, _, Try.underlying65, by kernel_rfl, by kernel_rfl, by kernel_rfl⟩
theorem trod_sn_cells : Try.prog.cellsOf 65 = 2 := by kernel_rfl
theorem trod_sn {n : Nat} {cs : List Value} {x : DataW H × List MemPlace} (h : DataW.trod enc Try.prog w base spare held n 65 cs = some x) : ∃ v : Sn, cs = v.cells := by
  obtain ⟨f0, f1, hu, hone, k0, k1⟩ := trod_sn_fields
  obtain ⟨xs, n', _, _, hlen, hxl, hf⟩ := DataW.trod_struct hu h
  rw [trod_sn_cells] at hlen
  match cs, hlen with
  | [c0, c1], _ =>
    have q : ∀ (j : Nat) (f : Field), #[f0, f1][j]? = some f → ∃ y, DataW.trod enc Try.prog w base spare held n' f.type (([c0, c1].drop j).take 1) = some y := fun j f hj => by
      obtain ⟨ho, hk⟩ := hone_of hone j f hj
      have h1 := hf j f hj
      rw [ho, hk] at h1
      have hjl : j < 2 := (Array.getElem?_eq_some_iff.1 hj).1
      exact ⟨xs[j]'(by rw [hxl]; exact hjl), by rw [h1]; exact List.getElem?_eq_getElem _⟩
    obtain ⟨y0, h0⟩ := q 0 f0 rfl
    obtain ⟨y1, h1⟩ := q 1 f1 rfl
    obtain ⟨a0, e0, _⟩ := DataW.trod_int k0 h0
    simp at e0
    subst e0
    obtain ⟨a1, e1, _⟩ := DataW.trod_int k1 h1
    simp at e1
    subst e1
    exact ⟨⟨a0, a1⟩, rfl⟩
theorem trod_wr_fields : ∃ f0 f1 f2 : Field, Try.prog.underlying 60 = some (.struct #[f0, f1, f2]) ∧ oneCellFields Try.prog #[f0, f1, f2] = true ∧ Try.prog.underlying f0.type = some (.int .i64) ∧ Try.prog.underlying f1.type = some (.int .i64) ∧ Try.prog.underlying f2.type = some .bool :=
  ⟨_, _, _, Try.underlying60, by kernel_rfl, by kernel_rfl, by kernel_rfl, by kernel_rfl⟩
theorem trod_wr_cells : Try.prog.cellsOf 60 = 3 := by kernel_rfl
theorem trod_wr {n : Nat} {cs : List Value} {x : DataW H × List MemPlace} (h : DataW.trod enc Try.prog w base spare held n 60 cs = some x) : ∃ v : Wr, cs = v.cells := by
  obtain ⟨f0, f1, f2, hu, hone, k0, k1, k2⟩ := trod_wr_fields
  obtain ⟨xs, n', _, _, hlen, hxl, hf⟩ := DataW.trod_struct hu h
  rw [trod_wr_cells] at hlen
  match cs, hlen with
  | [c0, c1, c2], _ =>
    have q : ∀ (j : Nat) (f : Field), #[f0, f1, f2][j]? = some f → ∃ y, DataW.trod enc Try.prog w base spare held n' f.type (([c0, c1, c2].drop j).take 1) = some y := fun j f hj => by
      obtain ⟨ho, hk⟩ := hone_of hone j f hj
      have h1 := hf j f hj
      rw [ho, hk] at h1
      have hjl : j < 3 := (Array.getElem?_eq_some_iff.1 hj).1
      exact ⟨xs[j]'(by rw [hxl]; exact hjl), by rw [h1]; exact List.getElem?_eq_getElem _⟩
    obtain ⟨y0, h0⟩ := q 0 f0 rfl
    obtain ⟨y1, h1⟩ := q 1 f1 rfl
    obtain ⟨y2, h2⟩ := q 2 f2 rfl
    obtain ⟨a0, e0, _⟩ := DataW.trod_int k0 h0
    simp at e0
    subst e0
    obtain ⟨a1, e1, _⟩ := DataW.trod_int k1 h1
    simp at e1
    subst e1
    obtain ⟨a2, e2, _⟩ := DataW.trod_bool k2 h2
    simp at e2
    subst e2
    exact ⟨⟨a0, a1, a2⟩, rfl⟩
theorem trod_ve_fields : ∃ f0 f1 f2 f3 : Field, Try.prog.underlying 44 = some (.struct #[f0, f1, f2, f3]) ∧ oneCellFields Try.prog #[f0, f1, f2, f3] = true ∧ Try.prog.underlying f0.type = some (.int .i64) ∧ Try.prog.underlying f1.type = some (.int .i64) ∧ Try.prog.underlying f2.type = some (.int .i64) ∧ Try.prog.underlying f3.type = some .bool :=
  ⟨_, _, _, _, Try.underlying44, by kernel_rfl, by kernel_rfl, by kernel_rfl, by kernel_rfl, by kernel_rfl⟩
theorem trod_ve_cells : Try.prog.cellsOf 44 = 4 := by kernel_rfl
theorem trod_ve {n : Nat} {cs : List Value} {x : DataW H × List MemPlace} (h : DataW.trod enc Try.prog w base spare held n 44 cs = some x) : ∃ v : Ver, cs = v.cells := by
  obtain ⟨f0, f1, f2, f3, hu, hone, k0, k1, k2, k3⟩ := trod_ve_fields
  obtain ⟨xs, n', _, _, hlen, hxl, hf⟩ := DataW.trod_struct hu h
  rw [trod_ve_cells] at hlen
  match cs, hlen with
  | [c0, c1, c2, c3], _ =>
    have q : ∀ (j : Nat) (f : Field), #[f0, f1, f2, f3][j]? = some f → ∃ y, DataW.trod enc Try.prog w base spare held n' f.type (([c0, c1, c2, c3].drop j).take 1) = some y := fun j f hj => by
      obtain ⟨ho, hk⟩ := hone_of hone j f hj
      have h1 := hf j f hj
      rw [ho, hk] at h1
      have hjl : j < 4 := (Array.getElem?_eq_some_iff.1 hj).1
      exact ⟨xs[j]'(by rw [hxl]; exact hjl), by rw [h1]; exact List.getElem?_eq_getElem _⟩
    obtain ⟨y0, h0⟩ := q 0 f0 rfl
    obtain ⟨y1, h1⟩ := q 1 f1 rfl
    obtain ⟨y2, h2⟩ := q 2 f2 rfl
    obtain ⟨y3, h3⟩ := q 3 f3 rfl
    obtain ⟨a0, e0, _⟩ := DataW.trod_int k0 h0
    simp at e0
    subst e0
    obtain ⟨a1, e1, _⟩ := DataW.trod_int k1 h1
    simp at e1
    subst e1
    obtain ⟨a2, e2, _⟩ := DataW.trod_int k2 h2
    simp at e2
    subst e2
    obtain ⟨a3, e3, _⟩ := DataW.trod_bool k3 h3
    simp at e3
    subst e3
    exact ⟨⟨a0, a1, a2, a3⟩, rfl⟩
theorem trod_iv_fields : ∃ f0 f1 : Field, Try.prog.underlying 31 = some (.struct #[f0, f1]) ∧ oneCellFields Try.prog #[f0, f1] = true ∧ Try.prog.underlying f0.type = some (.int .i64) ∧ Try.prog.underlying f1.type = some (.int .i64) :=
  ⟨_, _, Try.underlying31, by kernel_rfl, by kernel_rfl, by kernel_rfl⟩
theorem trod_iv_cells : Try.prog.cellsOf 31 = 2 := by kernel_rfl
theorem trod_iv {n : Nat} {cs : List Value} {x : DataW H × List MemPlace} (h : DataW.trod enc Try.prog w base spare held n 31 cs = some x) : ∃ lo hi : Int, cs = [.int .i64 lo, .int .i64 hi] := by
  obtain ⟨f0, f1, hu, hone, k0, k1⟩ := trod_iv_fields
  obtain ⟨xs, n', _, _, hlen, hxl, hf⟩ := DataW.trod_struct hu h
  rw [trod_iv_cells] at hlen
  match cs, hlen with
  | [c0, c1], _ =>
    have q : ∀ (j : Nat) (f : Field), #[f0, f1][j]? = some f → ∃ y, DataW.trod enc Try.prog w base spare held n' f.type (([c0, c1].drop j).take 1) = some y := fun j f hj => by
      obtain ⟨ho, hk⟩ := hone_of hone j f hj
      have h1 := hf j f hj
      rw [ho, hk] at h1
      have hjl : j < 2 := (Array.getElem?_eq_some_iff.1 hj).1
      exact ⟨xs[j]'(by rw [hxl]; exact hjl), by rw [h1]; exact List.getElem?_eq_getElem _⟩
    obtain ⟨y0, h0⟩ := q 0 f0 rfl
    obtain ⟨y1, h1⟩ := q 1 f1 rfl
    obtain ⟨a0, e0, _⟩ := DataW.trod_int k0 h0
    simp at e0
    subst e0
    obtain ⟨a1, e1, _⟩ := DataW.trod_int k1 h1
    simp at e1
    subst e1
    exact ⟨a0, a1, rfl⟩
instance : Inhabited Sn := ⟨⟨0, 0⟩⟩
instance : Inhabited Wr := ⟨⟨0, 0, false⟩⟩
instance : Inhabited Ver := ⟨Ver.zero⟩
instance : Inhabited TxV := ⟨⟨Tx.zero, none, 0, none, 0⟩⟩
theorem rows_sn {n : Nat} {cs : List Value} {x : DataW H × List MemPlace} (h : DataW.trod enc Try.prog w base spare held n 26 cs = some x) : ∃ (A : Option Addr) (c : Nat) (l : List Sn), cs = [.slice A l.length c] ∧ l.length ≤ c ∧ c ≤ maxLen ∧ RS Sn.cells w A l ∧ ∀ v ∈ l, True :=
  trod_row Sn.cells (m := 2) (by decide) (fun _ => rfl) Try.underlying26 (by kernel_rfl) (fun _ => True) (fun _ _ _ h => by obtain ⟨v, hv⟩ := trod_sn h; exact ⟨v, hv, trivial⟩) h
theorem rows_wr {n : Nat} {cs : List Value} {x : DataW H × List MemPlace} (h : DataW.trod enc Try.prog w base spare held n 27 cs = some x) : ∃ (A : Option Addr) (c : Nat) (l : List Wr), cs = [.slice A l.length c] ∧ l.length ≤ c ∧ c ≤ maxLen ∧ RS Wr.cells w A l ∧ ∀ v ∈ l, True :=
  trod_row Wr.cells (m := 3) (by decide) (fun _ => rfl) Try.underlying27 (by kernel_rfl) (fun _ => True) (fun _ _ _ h => by obtain ⟨v, hv⟩ := trod_wr h; exact ⟨v, hv, trivial⟩) h
theorem rows_ve {n : Nat} {cs : List Value} {x : DataW H × List MemPlace} (h : DataW.trod enc Try.prog w base spare held n 22 cs = some x) : ∃ (A : Option Addr) (c : Nat) (l : List Ver), cs = [.slice A l.length c] ∧ l.length ≤ c ∧ c ≤ maxLen ∧ RS Ver.cells w A l ∧ ∀ v ∈ l, True :=
  trod_row Ver.cells (m := 4) (by decide) (fun _ => rfl) Try.underlying22 (by kernel_rfl) (fun _ => True) (fun _ _ _ h => by obtain ⟨v, hv⟩ := trod_ve h; exact ⟨v, hv, trivial⟩) h
theorem trod_tx_fields : ∃ f0 f1 f2 f3 : Field, Try.prog.underlying 29 = some (.struct #[f0, f1, f2, f3]) ∧ oneCellFields Try.prog #[f0, f1, f2, f3] = true ∧ Try.prog.underlying f0.type = some (.int .i64) ∧ Try.prog.underlying f1.type = some (.int .i64) ∧ f2.type = 26 ∧ f3.type = 27 :=
  ⟨_, _, _, _, Try.underlying29, by kernel_rfl, by kernel_rfl, by kernel_rfl, by kernel_rfl, by kernel_rfl⟩
theorem trod_tx_cells : Try.prog.cellsOf 29 = 4 := by kernel_rfl
theorem trod_tx {n : Nat} {cs : List Value} {x : DataW H × List MemPlace} (h : DataW.trod enc Try.prog w base spare held n 29 cs = some x) : ∃ v : TxV, cs = v.cells ∧ TxW w v := by
  obtain ⟨f0, f1, f2, f3, hu, hone, k0, k1, k2, k3⟩ := trod_tx_fields
  obtain ⟨xs, n', _, _, hlen, hxl, hf⟩ := DataW.trod_struct hu h
  rw [trod_tx_cells] at hlen
  match cs, hlen with
  | [c0, c1, c2, c3], _ =>
    have q : ∀ (j : Nat) (f : Field), #[f0, f1, f2, f3][j]? = some f → ∃ y, DataW.trod enc Try.prog w base spare held n' f.type (([c0, c1, c2, c3].drop j).take 1) = some y := fun j f hj => by
      obtain ⟨ho, hk⟩ := hone_of hone j f hj
      have h1 := hf j f hj
      rw [ho, hk] at h1
      have hjl : j < 4 := (Array.getElem?_eq_some_iff.1 hj).1
      exact ⟨xs[j]'(by rw [hxl]; exact hjl), by rw [h1]; exact List.getElem?_eq_getElem _⟩
    obtain ⟨y0, h0⟩ := q 0 f0 rfl
    obtain ⟨y1, h1⟩ := q 1 f1 rfl
    obtain ⟨y2, h2⟩ := q 2 f2 rfl
    obtain ⟨y3, h3⟩ := q 3 f3 rfl
    obtain ⟨a0, e0, _⟩ := DataW.trod_int k0 h0
    simp at e0
    subst e0
    obtain ⟨a1, e1, _⟩ := DataW.trod_int k1 h1
    simp at e1
    subst e1
    rw [k2] at h2
    obtain ⟨A2, C2, l2, e2, q2, m2, r2, z2⟩ := rows_sn h2
    simp at e2
    subst e2
    rw [k3] at h3
    obtain ⟨A3, C3, l3, e3, q3, m3, r3, z3⟩ := rows_wr h3
    simp at e3
    subst e3
    exact ⟨⟨⟨a0, a1, l2, l3⟩, A2, C2, A3, C3⟩, rfl, ⟨r2, r3, q2, m2, q3, m3⟩⟩
theorem rows_tx {n : Nat} {cs : List Value} {x : DataW H × List MemPlace} (h : DataW.trod enc Try.prog w base spare held n 23 cs = some x) : ∃ (A : Option Addr) (c : Nat) (l : List TxV), cs = [.slice A l.length c] ∧ l.length ≤ c ∧ c ≤ maxLen ∧ RS TxV.cells w A l ∧ ∀ v ∈ l, TxW w v :=
  trod_row TxV.cells (m := 4) (by decide) (fun _ => rfl) Try.underlying23 (by kernel_rfl) (fun v => TxW w v) (fun _ _ _ h => trod_tx h) h
theorem trod_ld_fields : ∃ f0 f1 f2 : Field, Try.prog.underlying 25 = some (.struct #[f0, f1, f2]) ∧ oneCellFields Try.prog #[f0, f1, f2] = true ∧ Try.prog.underlying f0.type = some (.int .i64) ∧ f1.type = 22 ∧ f2.type = 23 :=
  ⟨_, _, _, Try.underlying25, by kernel_rfl, by kernel_rfl, by kernel_rfl, by kernel_rfl⟩
theorem trod_ld_cells : Try.prog.cellsOf 25 = 3 := by kernel_rfl
theorem trod_ld {n : Nat} {cs : List Value} {x : DataW H × List MemPlace} (h : DataW.trod enc Try.prog w base spare held n 25 cs = some x) : ∃ L : LdV, cs = [.int .i64 L.last, .slice L.sa L.st.length L.sc, .slice L.oa L.op.length L.oc] ∧ LdW w L := by
  obtain ⟨f0, f1, f2, hu, hone, k0, k1, k2⟩ := trod_ld_fields
  obtain ⟨xs, n', _, _, hlen, hxl, hf⟩ := DataW.trod_struct hu h
  rw [trod_ld_cells] at hlen
  match cs, hlen with
  | [c0, c1, c2], _ =>
    have q : ∀ (j : Nat) (f : Field), #[f0, f1, f2][j]? = some f → ∃ y, DataW.trod enc Try.prog w base spare held n' f.type (([c0, c1, c2].drop j).take 1) = some y := fun j f hj => by
      obtain ⟨ho, hk⟩ := hone_of hone j f hj
      have h1 := hf j f hj
      rw [ho, hk] at h1
      have hjl : j < 3 := (Array.getElem?_eq_some_iff.1 hj).1
      exact ⟨xs[j]'(by rw [hxl]; exact hjl), by rw [h1]; exact List.getElem?_eq_getElem _⟩
    obtain ⟨y0, h0⟩ := q 0 f0 rfl
    obtain ⟨y1, h1⟩ := q 1 f1 rfl
    obtain ⟨y2, h2⟩ := q 2 f2 rfl
    obtain ⟨a0, e0, _⟩ := DataW.trod_int k0 h0
    simp at e0
    subst e0
    rw [k1] at h1
    obtain ⟨A1, C1, l1, e1, q1, m1, r1, z1⟩ := rows_ve h1
    simp at e1
    subst e1
    rw [k2] at h2
    obtain ⟨A2, C2, l2, e2, q2, m2, r2, z2⟩ := rows_tx h2
    simp at e2
    subst e2
    exact ⟨⟨a0, A1, C1, l1, A2, C2, l2⟩, rfl, ⟨r1, ⟨r2, z2⟩, q1, m1, q2, m2⟩⟩
theorem open_ld {r : Reach} {b0 : Nat} {v : Value} {d : DataW H} {p : List MemPlace} (hv : Value.okWide Try.prog w r b0 25 v) (h : DataW.Trod enc Try.prog w base spare held 25 v d p) : ∃ L : LdV, v = .agg #[.int .i64 L.last, .slice L.sa L.st.length L.sc, .slice L.oa L.op.length L.oc] ∧ LdW w L := by
  obtain ⟨f0, f1, f2, hu, _⟩ := trod_ld_fields
  obtain ⟨cs, rfl, hsz⟩ := okWide_struct hu hv
  obtain ⟨fuel, hf⟩ := h
  obtain ⟨L, hx, hw⟩ := trod_ld hf
  refine ⟨L, congrArg Value.agg ?_, hw⟩
  have : cs.toList = [.int .i64 L.last, .slice L.sa L.st.length L.sc, .slice L.oa L.op.length L.oc] := by simpa [Value.cells] using hx
  rw [← Array.toArray_toList (xs := cs), this]
theorem open_tx {r : Reach} {b0 : Nat} {v : Value} {d : DataW H} {p : List MemPlace} (hv : Value.okWide Try.prog w r b0 29 v) (h : DataW.Trod enc Try.prog w base spare held 29 v d p) : ∃ x : TxV, v = .agg #[.int .i64 x.t.id, .int .i64 x.t.ts, .slice x.ra x.t.reads.length x.rc, .slice x.wa x.t.writes.length x.wc] ∧ TxW w x := by
  obtain ⟨f0, f1, f2, f3, hu, _⟩ := trod_tx_fields
  obtain ⟨cs, rfl, hsz⟩ := okWide_struct hu hv
  obtain ⟨fuel, hf⟩ := h
  obtain ⟨x, hx, hw⟩ := trod_tx hf
  refine ⟨x, congrArg Value.agg ?_, hw⟩
  have : cs.toList = x.cells := by simpa [Value.cells] using hx
  rw [← Array.toArray_toList (xs := cs), this]; rfl
theorem open_iv {r : Reach} {b0 : Nat} {v : Value} {d : DataW H} {p : List MemPlace} (hv : Value.okWide Try.prog w r b0 31 v) (h : DataW.Trod enc Try.prog w base spare held 31 v d p) : ∃ lo hi : Int, v = .agg #[.int .i64 lo, .int .i64 hi] := by
  obtain ⟨f0, f1, hu, _⟩ := trod_iv_fields
  obtain ⟨cs, rfl, hsz⟩ := okWide_struct hu hv
  obtain ⟨fuel, hf⟩ := h
  obtain ⟨lo, hi, hx⟩ := trod_iv hf
  refine ⟨lo, hi, congrArg Value.agg ?_⟩
  have : cs.toList = [.int .i64 lo, .int .i64 hi] := by simpa [Value.cells] using hx
  rw [← Array.toArray_toList (xs := cs), this]
end
end Go.Proofs.Ytficjpfhakggmaa

namespace Go.Proofs.Ytficjpfhakggmaa
open Go.ChangeShapes Go.WideShapes Go.ChangeAt Go.RowKit Go.Deep
section
variable {H : Type} {enc : TypeId × Value → H} {w : World} {base : Nat} {spare : Nat → Bool} {held : Bool}
set_option maxRecDepth 10000
theorem okWide_arr {P : Program} {w : World} {r : Reach} {b0 : Nat} {T e : TypeId} {n : Nat} {v : Value} (hu : P.underlying T = some (.array n e)) (h : Value.okWide P w r b0 T v) : ∃ cs, v = .agg cs ∧ cs.size = P.cellsOf T := by
  simp only [Value.okWide, hu] at h
  obtain ⟨cs, h1, h2, _⟩ := h
  exact ⟨cs, h1, h2⟩
theorem trod_int1 : Try.prog.cellsOf 3 = 1 := by kernel_rfl
theorem trod_at {T : TypeId} {n : Nat} (hu : Try.prog.underlying T = some (.array n 3)) {cs : List Value} {x : DataW H × List MemPlace} {fuel : Nat} (h : DataW.trod enc Try.prog w base spare held fuel T cs = some x) : cs.length = Try.prog.cellsOf T ∧ ∀ i, i < n → ∃ a : Int, (cs.drop i).take 1 = [.int .i64 a] := by
  obtain ⟨xs, m, _, _, hl, hn, hx⟩ := DataW.trod_array hu h
  refine ⟨hl, fun i hi => ?_⟩
  have h1 := hx i hi
  rw [trod_int1, Nat.mul_one, List.getElem?_eq_getElem (by omega)] at h1
  obtain ⟨a, e1, _⟩ := DataW.trod_int Try.underlying3 h1
  exact ⟨a, e1⟩
theorem open_arr2 {T : TypeId} (hu : Try.prog.underlying T = some (.array 2 3)) (hc : Try.prog.cellsOf T = 2) {r : Reach} {b0 : Nat} {v : Value} {d : DataW H} {p : List MemPlace} (hv : Value.okWide Try.prog w r b0 T v) (h : DataW.Trod enc Try.prog w base spare held T v d p) : ∃ a b : Int, v = .agg #[.int .i64 a, .int .i64 b] := by
  obtain ⟨cs, rfl, hsz⟩ := okWide_arr hu hv
  obtain ⟨fuel, hf⟩ := h
  obtain ⟨hl, hx⟩ := trod_at hu hf
  rw [hc] at hl
  obtain ⟨cs⟩ := cs
  simp only [Value.cells] at hl hx
  match cs, hl with
  | [c0, c1], _ =>
    obtain ⟨a, ha⟩ := hx 0 (by decide)
    obtain ⟨b, hb⟩ := hx 1 (by decide)
    simp at ha hb
    exact ⟨a, b, by rw [ha, hb]⟩
theorem open_arr3 {T : TypeId} (hu : Try.prog.underlying T = some (.array 3 3)) (hc : Try.prog.cellsOf T = 3) {r : Reach} {b0 : Nat} {v : Value} {d : DataW H} {p : List MemPlace} (hv : Value.okWide Try.prog w r b0 T v) (h : DataW.Trod enc Try.prog w base spare held T v d p) : ∃ a b c : Int, v = .agg #[.int .i64 a, .int .i64 b, .int .i64 c] := by
  obtain ⟨cs, rfl, hsz⟩ := okWide_arr hu hv
  obtain ⟨fuel, hf⟩ := h
  obtain ⟨hl, hx⟩ := trod_at hu hf
  rw [hc] at hl
  obtain ⟨cs⟩ := cs
  simp only [Value.cells] at hl hx
  match cs, hl with
  | [c0, c1, c2], _ =>
    obtain ⟨a, ha⟩ := hx 0 (by decide)
    obtain ⟨b, hb⟩ := hx 1 (by decide)
    obtain ⟨c, hc⟩ := hx 2 (by decide)
    simp at ha hb hc
    exact ⟨a, b, c, by rw [ha, hb, hc]⟩
end
end Go.Proofs.Ytficjpfhakggmaa
