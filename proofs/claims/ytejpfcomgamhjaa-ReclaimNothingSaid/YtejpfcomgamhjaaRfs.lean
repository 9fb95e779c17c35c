/-
  Own law: a range over a function whose iterator writes a cell of its own between two rounds, and whose body never leaves early.
-/
import Derived.RangeFuncNested
import Derived.RangeFuncBox
import Derived.RangeFuncBound
import Derived.RangeFuncCalls
import Derived.RangeFuncLeaves
namespace Go.Proofs.Ytejpfcomgamhjaa
open Go.RowKit
/-- an invariant that abides new blocks, and a turn of block s -/
def StaysAt {α : Type} (s : Nat) (J : List α → World → Prop) : Prop := ∀ xs A B row, J xs A → A.grownBy B row → (∀ r, row = some r → r = s) → J xs B
/-- the contract of an iterator that hands over just the list xs, and writes no block of before but s -/
def SeqAt {α : Type} (F : Fence) (n : Nat) (P : Program) (g : Nat) (lb : Array Value) (enc : α → Value) (Kp : World → World → Prop) (s : Nat) (xs : List α) (w : World) : Prop :=
  ∀ (l : Nat) (J : List α → World → Prop) (W : World), Below w.heap.size w W → StaysAt s J →
    (∀ pre x W1, J pre W1 → pre ++ [x] <+: xs → YieldAt F (n - 1) P l #[enc x] W1 fun e W' => e = .returned (.bool true) ∧ J (pre ++ [x]) W' ∧ Kp W1 W') →
    J [] W → CallsIn F n P g (#[.func (.yield l) #[] #[]] ++ lb) W fun e W' => (∃ v, e = .returned v) ∧ J xs W'
theorem wpIn_range_at {F : Fence} {n : Nat} {P : Program} {α : Type} {g : Operand} {p : Tmp} {assign body : Code} {Q : Exit → Act → World → Prop} {a : Act} {w : World}
    (hro : F.round = none) (h1 : 1 ≤ n) {gf : Nat} {lb : Array Value} (hg : a.eval g = .func (.func gf) #[] lb) (hF : F.fn gf) (eg : ∀ args w, (callFunc gf args).run P w = .ok (.enter gf args) w)
    {enc : α → Value} {Kp : World → World → Prop} {s : Nat} {xs : List α} (hseq : SeqAt F (n - 1) P gf lb enc Kp s xs w) (hs : s < w.heap.size)
    (hKt : ∀ {A B C : World}, Kp A B → Kp B C → Kp A C) (hKb : ∀ (W : World) (l : Nat) (o o' : Obj), w.heap.size ≤ l → W.heap[l]? = some o → o.isCells = false → Kp W (W.putObj l o'))
    (I : List α → World → Prop) (hI : ∀ ys A B row, I ys A → A.grownBy B row → (∀ r, row = some r → r = s ∨ w.heap.size ≤ r ∧ ∃ o : Obj, A.heap[r]? = some o ∧ o.isCells = false) → I ys B)
    (Ax : α → Act → World → Prop) (hAx : ∀ x a' A B row, Ax x a' A → A.grownBy B row → (∀ r, row = some r → w.heap.size ≤ r ∧ ∃ o : Obj, A.heap[r]? = some o ∧ o.isCells = false) → Ax x a' B)
    (h0 : I [] w)
    (hassign : ∀ (l : Nat) (pre : List α) (x : α) (W : World) (K : Act → World → Prop), I pre W → pre ++ [x] <+: xs → w.heap.size ≤ W.heap.size →
      (∀ a' W', KeepsFrom w.heap.size W W' → Kp W W' → I pre W' → Ax x a' W' → K a' W') →
      assign.wpIn (F.inRound l) (n - 1 - 1) P (Exit.then K (fun _ _ _ => False)) { tmps := (#[p].zip #[enc x]).foldl (fun t (p, v) => t.setIfInBounds p v) a.tmps, defers := [] } W)
    (hbody : ∀ (l : Nat) (pre : List α) (x : α) (a' : Act) (W : World), I pre W → Ax x a' W → pre ++ [x] <+: xs → w.heap.size ≤ W.heap.size →
      body.wpIn (F.inRound l) (n - 1 - 1) P (ownPostG w.heap.size Kp I (fun _ _ _ => False) (pre ++ [x]) W) a' W)
    (hdone : ∀ (D : Nat) (W : World), w.heap.size ≤ D → I xs W → W.heap[D]? = some (.deferred (some [])) → Q .normal { a with defers := { target := .collected D, args := #[] } :: a.defers } W) :
    (Code.rangeFunc g #[p] assign body).wpIn F n P Q a w := by
  refine wpIn_rangeFunc fun fn hfn => ?_
  rw [hro]
  obtain ⟨rc, hrc⟩ : ∃ rc : LoopState → Loop, rc = fun st => { state := st, pending := none, fn, tmps := a.tmps, params := #[p], assign, body, defers := w.heap.size } := ⟨_, rfl⟩
  obtain ⟨W1, hW1⟩ : ∃ W1, (w.alloc (.deferred (some []))).alloc (.loop (rc .ready)) = W1 := ⟨_, rfl⟩
  have hb1 : Below w.heap.size w W1 := by rw [← hW1]; exact ((Below.refl _ w).alloc (Nat.le_refl _) _).alloc (by simp) _
  have g1 : w.grownBy W1 none := by
    have ga := World.grownBy_alloc w (.deferred (some [])) none
    have gb := World.grownBy_alloc (w.alloc (.deferred (some []))) (.loop (rc .ready)) none
    rw [hW1] at gb
    exact ⟨gb.os.trans ga.os, gb.tape.trans ga.tape, gb.output.trans ga.output, Nat.le_trans ga.size gb.size, fun k hk hr => (gb.block k (Nat.lt_of_lt_of_le hk ga.size) hr).trans (ga.block k hk hr)⟩
  have hD1 : W1.heap[w.heap.size]? = some (.deferred (some [])) := by
    rw [← hW1]; exact (Below.heap_alloc _ _ _ (by simp)).trans (World.alloc_heap_new w _)
  have hL1 : W1.heap[w.heap.size + 1]? = some (.loop (rc .ready)) := by
    rw [← hW1]
    have := World.alloc_heap_new (w.alloc (.deferred (some []))) (.loop (rc .ready))
    rwa [World.size_alloc] at this
  -- what a turn of the loop's record leaves
  have turn : ∀ {ys : List α} {W : World} {o : Obj} (o' : Obj), I ys W → W.heap[w.heap.size + 1]? = some o → o.isCells = false → I ys (W.putObj (w.heap.size + 1) o') := fun o' hi ho hc =>
    hI _ _ _ _ hi (grownBy_putObj' _ _ o') (fun r e => by cases e; exact .inr ⟨Nat.le_succ _, _, ho, hc⟩)
  refine ⟨w.heap.size + 1, [{ target := .collected w.heap.size, args := #[] }], W1, { target := .fn (.func gf) lb, args := #[.func (.yield (w.heap.size + 1)) #[] #[]] }, W1, gf,
    #[.func (.yield (w.heap.size + 1)) #[] #[]] ++ lb, W1, ?_, ?_, ?_, ?_, fun _ => h1, ?_⟩
  · rw [← hW1, hrc]; exact run_enterLoop_outer _ _ _ _ _
  · simp only [resolve, hg]
    simp [go_sem]
  · intro f' hf'; simp [Target.leads] at hf'; subst hf'; exact hF
  · simp [invoke, go_sem, eg]
  · refine (hseq (w.heap.size + 1) (fun ys W => I ys W ∧ W.heap[w.heap.size + 1]? = some (.loop (rc .ready)) ∧ W.heap[w.heap.size]? = some (.deferred (some []))) W1 hb1 ?_ ?_
      ⟨hI _ _ _ _ h0 g1 (fun r e => by cases e), hL1, hD1⟩).mono ?_
    · rintro ys A B row ⟨hi, hl, hd⟩ hgr hrow
      have keep : ∀ {k : Nat} {o : Obj}, s < k → A.heap[k]? = some o → B.heap[k]? = some o := fun hk ho =>
        (hgr.block _ (Array.getElem?_eq_some_iff.1 ho).1 (fun e => by have := hrow _ e.symm; omega)).trans ho
      exact ⟨hI _ _ _ _ hi hgr (fun r e => .inl (hrow r e)), keep (by omega) hl, keep hs hd⟩
    · rintro pre x W ⟨hi, hl, hd⟩ hpre
      have hsz : w.heap.size + 1 < W.heap.size := (Array.getElem?_eq_some_iff.1 hl).1
      have hy := run_yield (P := P) (args := #[enc x]) hl (by rw [hrc]; rfl)
      rw [hrc] at hy
      refine ⟨fn, _, assign, body, hy, roundIn_of_wpIn hfn (hassign _ pre x W _ hi hpre (by omega) fun a' W' hkf hkp hi' hax => ?_)⟩
      have hl' := hkf.same _ _ (by omega) hl rfl
      have hd' := hkf.same _ _ (by omega) hd rfl
      have hbr := run_beginRound (P := P) hl' (by rw [hrc])
      refine ⟨_, hbr, ?_⟩
      obtain ⟨W2, hW2⟩ : ∃ W2, W'.putObj (w.heap.size + 1) (.loop { rc .ready with state := .busy }) = W2 := ⟨_, rfl⟩
      have hlt' : w.heap.size + 1 < W'.heap.size := (Array.getElem?_eq_some_iff.1 hl').1
      have hi2 : I pre W2 := by rw [← hW2]; exact turn _ hi' hl' rfl
      have hax2 : Ax x a' W2 := by rw [← hW2]; exact hAx _ _ _ _ _ hax (grownBy_putObj' _ _ _) (fun r e => by cases e; exact ⟨Nat.le_succ _, _, hl', rfl⟩)
      have hkp2 : Kp W W2 := hKt hkp (by rw [← hW2]; exact hKb _ _ _ _ (Nat.le_succ _) hl' rfl)
      have hl2 : W2.heap[w.heap.size + 1]? = some (.loop { rc .ready with state := .busy }) := by rw [← hW2]; exact World.putObj_heap_same hlt'
      have hd2 : W2.heap[w.heap.size]? = some (.deferred (some [])) := by rw [← hW2]; exact (World.putObj_heap_other (by omega)).trans hd'
      have hsz2 : w.heap.size ≤ W2.heap.size := by have := (Array.getElem?_eq_some_iff.1 hl2).1; omega
      rw [hW2]
      refine wpIn_mono (hbody _ pre x a' W2 hi2 hax2 hpre hsz2) fun e a3 W3 hp => ?_
      cases e with
      | normal =>
        obtain ⟨hk3, hkp3, hi3⟩ := hp
        have hl3 := hk3.same _ _ (by omega) hl2 rfl
        have hd3 := hk3.same _ _ (by omega) hd2 rfl
        have hr := run_endRound (P := P) none hl3
        have hlt3 : w.heap.size + 1 < W3.heap.size := (Array.getElem?_eq_some_iff.1 hl3).1
        have e3 : ({ { rc .ready with state := .busy } with state := if (none : Option Code).isNone = true then LoopState.ready else .done, pending := none } : Loop) = rc .ready := by rw [hrc]; rfl
        rw [e3] at hr
        exact ⟨_, _, hr, rfl, ⟨turn _ hi3 hl3 rfl, World.putObj_heap_same hlt3, (World.putObj_heap_other (by omega)).trans hd3⟩, hKt (hKt hkp2 hkp3) (hKb _ _ _ _ (Nat.le_succ _) hl3 rfl)⟩
      | ret => exact hp.2.elim
      | exit id => exact hp.2.elim
      | goto t => exact hp.2.elim
      | panic ch => exact hp.elim
      | outgrown => exact hp.elim
    · rintro e W2 ⟨⟨v, rfl⟩, hi, hl, hd⟩
      have hr := run_endLoop (P := P) hl (by rw [hrc]; simp)
      exact ⟨none, _, by rw [hrc] at hr; exact hr, hdone _ _ (Nat.le_refl _) (turn _ hi hl rfl) ((World.putObj_heap_other (by omega)).trans hd)⟩
end Go.Proofs.Ytejpfcomgamhjaa
