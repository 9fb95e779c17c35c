/-
  What a law's row asks at the end, whatever the program.
-/
import Derived.Test.YtficjpfhakggmaaRows
import Derived.ProofKit
import Derived.OpenShut
import Derived.Carry
import Derived.ChangeSame
import Derived.Deep.Slices
import Derived.Lib.SmallJoins
namespace Go.Proofs.Ytficjpfhakggmaa
open Go.ChangeShapes Go.WideShapes Go.ChangeAt Go.RowKit Go.Deep
theorem own : ownKnob Try.prog.godebug = none := by kernel_rfl
theorem laidOut : laidOutB Try.prog = true := by kernel_rfl
section
variable {H : Type} {enc : TypeId × Value → H}
theorem trodAll_below {P : Program} (hl : laidOutB P = true) {W W' : World} (hb : Below W.heap.size W W') : ∀ {ts : List TypeId} {vs : List Value} {ds : List (DataW H)} {ps : List MemPlace},
    (∀ t ∈ ts, P.readableRec t = true ∧ t < P.types.size) → DataW.TrodAll enc P W 0 (fun _ => true) true ts vs ds ps → (∀ x ∈ ps, x.block < W.heap.size) →
    DataW.TrodAll enc P W' 0 (fun b => decide (b < W.heap.size)) true ts vs ds ps
  | [], vs, ds, ps, _, h, _ => by
    obtain ⟨rfl, rfl, rfl⟩ := trodAll_nil h
    rfl
  | t :: ts, vs, ds, ps, hr, h, hlt => by
    obtain ⟨v, vs', d, ds', p, q, rfl, rfl, rfl, h1, h2⟩ := trodAll_cons h
    have h0 := hr t (by simp)
    exact trodAll_cons_mk (Below.trod hl h0.1 h0.2 h1 hb (fun x hx => hlt x (by simp [hx]))) (trodAll_below hl hb (fun t ht => hr t (by simp [ht])) h2 (fun x hx => hlt x (by simp [hx])))
/-- what a law's row asks of a call that answers true and keeps all old memory -/
theorem post_true {P : Program} {fn : Func} {s : ChangeSpec} {W W' : World} {args : Array Value} {ds gs : List (DataW H)} {before : List MemPlace} {b : TypeId} (hl : laidOutB P = true)
    (hr : ∀ t ∈ fn.params.toList, P.readableRec t = true ∧ t < P.types.size) (hb4 : P.underlying b = some .bool) (hrt : fn.resultTypes = #[b]) (hs : s.vars = [])
    (hW : DataW.Whole enc P fn.params.toList s.vars false W args.toList ds gs before) (hres : (s.fn H (ds ++ gs)).results = [.lit (.bool true)]) (hargs : (s.fn H (ds ++ gs)).args = ds) (hvs : (s.fn H (ds ++ gs)).vars = [])
    (hb : Below W.heap.size W W') : s.post enc P fn false true false false W args (.bool true) W' := by
  have hW' := hW
  obtain ⟨p, q, hA, hV, rfl, _, _⟩ := hW
  rw [hs] at hV
  obtain ⟨rfl, rfl⟩ := trodVars_none hV
  refine ⟨_, _, _, [], p, [], hW', ?_, ?_, ?_, hb.frame _, fun h => by cases h⟩
  · rw [hres, hrt]
    exact trodAll_mk1 (shut_bool hb4 true)
  · rw [hargs]
    exact trodAll_below hl hb hr hA (fun x hx => by simpa using hW'.lt x (by simp [hx]))
  · rw [hvs, hs]; rfl
end
end Go.Proofs.Ytficjpfhakggmaa
