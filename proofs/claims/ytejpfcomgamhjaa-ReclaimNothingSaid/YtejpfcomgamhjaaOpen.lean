/-
  Arguments opened: a slice of versions, a version; what a law's row asks at the end.
-/
import Derived.Test.YtejpfcomgamhjaaRows
import Derived.Test.YtejpfcomgamhjaaVs
import Derived.ProofKit
import Derived.OpenShut
import Derived.Carry
import Derived.ChangeSame
import Derived.Deep.Slices
import Derived.Lib.SmallJoins
namespace Go.Proofs.Ytejpfcomgamhjaa
open Go.ChangeShapes Go.WideShapes Go.ChangeAt Go.RowKit Go.Deep
theorem own : ownKnob Try.prog.godebug = none := by kernel_rfl
theorem laidOut : laidOutB Try.prog = true := by kernel_rfl
section
variable {H : Type} {enc : TypeId × Value → H}
theorem trodAll_below {P : Program} (hl : laidOutB P = true) {W W' : World} (hb : Below W.heap.size W W') : ∀ {ts : List TypeId} {vs : List Value} {ds : List (DataW H)} {ps : List MemPlace},
    (∀ t ∈ ts, P.readableRec t = true ∧ t < P.types.size) → DataW.TrodAll enc P W 0 (fun _ => true) true ts vs ds ps → (∀ x ∈ ps, x.block < W.heap.size) →
    DataW.TrodAll enc P W' 0 (fun b => decide (b < W.heap.size)) true ts vs ds ps
  | [], vs, ds, ps, _, h, _ => by
    obtain ⟨rfl, rfl, rfl⟩ := trodAll_nil h
    rfl
  | t :: ts, vs, ds, ps, hr, h, hlt => by
    obtain ⟨v, vs', d, ds', p, q, rfl, rfl, rfl, h1, h2⟩ := trodAll_cons h
    have h0 := hr t (by simp)
    exact trodAll_cons_mk (Below.trod hl h0.1 h0.2 h1 hb (fun x hx => hlt x (by simp [hx]))) (trodAll_below hl hb (fun t ht => hr t (by simp [ht])) h2 (fun x hx => hlt x (by simp [hx])))
/-- what a law's row asks of a call that answers true and keeps all old memory -/
theorem post_true {P : Program} {fn : Func} {s : ChangeSpec} {W W' : World} {args : Array Value} {ds gs : List (DataW H)} {before : List MemPlace} {b : TypeId} (hl : laidOutB P = true)
    (hr : ∀ t ∈ fn.params.toList, P.readableRec t = true ∧ t < P.types.size) (hb4 : P.underlying b = some .bool) (hrt : fn.resultTypes = #[b]) (hs : s.vars = [])
    (hW : DataW.Whole enc P fn.params.toList s.vars false W args.toList ds gs before) (hres : (s.fn H (ds ++ gs)).results = [.lit (.bool true)]) (hargs : (s.fn H (ds ++ gs)).args = ds) (hvs : (s.fn H (ds ++ gs)).vars = [])
    (hb : Below W.heap.size W W') : s.post enc P fn false true false false W args (.bool true) W' := by
  have hW' := hW
  obtain ⟨p, q, hA, hV, rfl, _, _⟩ := hW
  rw [hs] at hV
  obtain ⟨rfl, rfl⟩ := trodVars_none hV
  refine ⟨_, _, _, [], p, [], hW', ?_, ?_, ?_, hb.frame _, fun h => by cases h⟩
  · rw [hres, hrt]
    exact trodAll_mk1 (shut_bool hb4 true)
  · rw [hargs]
    exact trodAll_below hl hb hr hA (fun x hx => by simpa using hW'.lt x (by simp [hx]))
  · rw [hvs, hs]; rfl
end
/-- versions in cells, one by one -/
theorem VS.mk {w : World} {b o : Nat} {l : List Ver} (h : ∀ i (hi : i < l.length), VAt w b (o + i * 4) l[i]) : VS w (some ⟨b, o, none⟩) l := fun hne => by
  have hl : 0 < l.length := by
    cases l with
    | nil => exact absurd rfl hne
    | cons _ _ => simp
  refine ⟨b, o, rfl, (h 0 hl).lt, fun j u hu => ?_⟩
  have hj : j < l.length * 4 := by
    have := (List.getElem?_eq_some_iff.1 hu).1
    rwa [flat_len Ver.cells 4 (fun _ => rfl)] at this
  have hi : j / 4 < l.length := by omega
  have hr : j % 4 < 4 := by omega
  have hg := flat_get Ver.cells 4 (fun _ => rfl) l (j / 4) (j % 4) hi hr
  have he : j / 4 * 4 + j % 4 = j := by omega
  rw [he] at hg
  rw [hg] at hu
  have hv := h (j / 4) hi
  have ho : o + j = o + j / 4 * 4 + j % 4 := by omega
  rw [ho]
  generalize j % 4 = r at hu hr ⊢
  unfold VAt at hv
  match r, hr with
  | 0, _ => simp [Ver.cells] at hu; subst hu; exact hv.1
  | 1, _ => simp [Ver.cells] at hu; subst hu; exact hv.2.1
  | 2, _ => simp [Ver.cells] at hu; subst hu; exact hv.2.2.1
  | 3, _ => simp [Ver.cells] at hu; subst hu; exact hv.2.2.2
section
variable {H : Type} {enc : TypeId × Value → H} {w : World} {base : Nat} {spare : Nat → Bool} {held : Bool}
theorem vfields : ∃ f0 f1 f2 f3 : Field, Try.prog.underlying 40 = some (.struct #[f0, f1, f2, f3]) ∧ oneCellFields Try.prog #[f0, f1, f2, f3] = true ∧ Try.prog.underlying f0.type = some (.int .i64) ∧ Try.prog.underlying f1.type = some (.int .i64) ∧ Try.prog.underlying f2.type = some (.int .i64) ∧ Try.prog.underlying f3.type = some .bool :=
  ⟨_, _, _, _, Try.underlying40, by kernel_rfl, by kernel_rfl, by kernel_rfl, by kernel_rfl, by kernel_rfl⟩
theorem cellsV : Try.prog.cellsOf 40 = 4 := by kernel_rfl
/-- the four cells of a version that is read as data -/
theorem trod_ver {n : Nat} {cs : List Value} {x : DataW H × List MemPlace} (h : DataW.trod enc Try.prog w base spare held n 40 cs = some x) : ∃ v : Ver, cs = v.cells := by
  obtain ⟨f0, f1, f2, f3, hu, hone, k0, k1, k2, k3⟩ := vfields
  obtain ⟨xs, n', _, _, hlen, hxl, hf⟩ := DataW.trod_struct hu h
  rw [cellsV] at hlen
  match cs, hlen with
  | [c0, c1, c2, c3], _ =>
    have q : ∀ (j : Nat) (f : Field), #[f0, f1, f2, f3][j]? = some f → ∃ y, DataW.trod enc Try.prog w base spare held n' f.type (([c0, c1, c2, c3].drop j).take 1) = some y := fun j f hj => by
      obtain ⟨ho, hk⟩ := hone_of hone j f hj
      have h1 := hf j f hj
      rw [ho, hk] at h1
      have hjl : j < 4 := (Array.getElem?_eq_some_iff.1 hj).1
      exact ⟨xs[j]'(by rw [hxl]; exact hjl), by rw [h1]; exact List.getElem?_eq_getElem _⟩
    obtain ⟨y0, h0⟩ := q 0 f0 rfl
    obtain ⟨y1, h1⟩ := q 1 f1 rfl
    obtain ⟨y2, h2⟩ := q 2 f2 rfl
    obtain ⟨y3, h3⟩ := q 3 f3 rfl
    obtain ⟨a0, e0, _⟩ := DataW.trod_int k0 h0
    obtain ⟨a1, e1, _⟩ := DataW.trod_int k1 h1
    obtain ⟨a2, e2, _⟩ := DataW.trod_int k2 h2
    obtain ⟨a3, e3, _⟩ := DataW.trod_bool k3 h3
    simp at e0 e1 e2 e3
    subst e0; subst e1; subst e2; subst e3
    exact ⟨⟨a0, a1, a2, a3⟩, rfl⟩
/-- an argument that is a slice of versions -/
theorem open_vs {r : Reach} {b0 : Nat} {v : Value} {d : DataW H} {p : List MemPlace} (hv : Value.okWide Try.prog w r b0 22 v) (h : DataW.Trod enc Try.prog w base spare held 22 v d p) :
    ∃ (A : Option Addr) (c : Nat) (l : List Ver), v = .slice A l.length c ∧ l.length ≤ c ∧ c ≤ maxLen ∧ VS w A l := by
  obtain ⟨a0, len0, cap0, rfl⟩ := okWide_slice Try.underlying22 hv
  obtain ⟨fuel, hf⟩ := h
  rcases open_slice Try.underlying22 hf with ⟨hcs, _⟩ | ⟨a, len, cap, m, n, D, Pl, hcs, _, hl, hm, hmm, _, hx⟩
  · simp [Value.cells] at hcs
    obtain ⟨rfl, rfl, rfl⟩ := hcs
    exact ⟨none, 0, [], rfl, Nat.le_refl _, Nat.zero_le _, Rd.nil _ _⟩
  · simp [Value.cells] at hcs
    obtain ⟨rfl, rfl, rfl⟩ := hcs
    have hlm : len0 ≤ m := by rw [hmm]; split <;> omega
    have hex : ∀ i, i < len0 → ∃ v : Ver, ∀ j, j < 4 → w.cell? ((a.add (i * 4)).add j) = v.cells[j]? := fun i hi => by
      obtain ⟨cs', h1, h2⟩ := hx i (by omega)
      rw [cellsV] at h1
      obtain ⟨v, rfl⟩ := trod_ver h2
      exact ⟨v, (World.cells?_some h1).2.2⟩
    haveI : Inhabited Ver := ⟨Ver.zero⟩
    obtain ⟨V, hV⟩ := choose_lt hex
    refine ⟨some a, cap0, (List.range len0).map V, by simp, by simpa using hl, hm, ?_⟩
    rcases Nat.eq_zero_or_pos len0 with h0 | h0
    · subst h0; exact Rd.nil _ _
    obtain ⟨b, o, spot⟩ := a
    have hs : spot = none := by
      have := hV 0 h0 0 (by omega)
      simp only [Nat.zero_mul, Addr.add, if_true] at this
      exact World.cell?_spot (v := _) (by rw [this]; rfl)
    subst hs
    refine VS.mk fun i hi => ?_
    have hi' : i < len0 := by simpa using hi
    have e : ∀ j, (((⟨b, o, none⟩ : Addr).add (i * 4)).add j) = ⟨b, o + i * 4 + j, none⟩ := fun j => by
      rw [add_add]
      unfold Addr.add
      split <;> (simp; try omega)
    have hc := hV i hi'
    simp only [e] at hc
    simp only [List.getElem_map, List.getElem_range]
    exact ⟨hc 0 (by omega), hc 1 (by omega), hc 2 (by omega), hc 3 (by omega)⟩
/-- an argument that is a version -/
theorem open_ver {r : Reach} {b0 : Nat} {v : Value} {d : DataW H} {p : List MemPlace} (hv : Value.okWide Try.prog w r b0 40 v) (h : DataW.Trod enc Try.prog w base spare held 40 v d p) :
    ∃ x : Ver, v = .agg #[.int .i64 x.key, .int .i64 x.ts, .int .i64 x.value, .bool x.gone] := by
  obtain ⟨f0, f1, f2, f3, hu, _⟩ := vfields
  obtain ⟨cs, rfl, hsz⟩ := okWide_struct hu hv
  obtain ⟨fuel, hf⟩ := h
  obtain ⟨x, hx⟩ := trod_ver hf
  refine ⟨x, congrArg Value.agg ?_⟩
  have : cs.toList = x.cells := by simpa [Value.cells] using hx
  rw [← Array.toArray_toList (xs := cs), this]; rfl
end
end Go.Proofs.Ytejpfcomgamhjaa
