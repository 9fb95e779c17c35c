/-
  The walk of the closure fail of commit.Stamp.
-/
import Derived.Test.YtficjpfhakggmaaRw34
import Derived.Test.YtficjpfhakggmaaPm34
import Derived.Test.YtficjpfhakggmaaStep
namespace Go.Proofs.Ytficjpfhakggmaa
open Go.RowKit
section
variable {P : Program} {fn : Func} {p q v : Tmp} {ty tz : TypeId}
theorem results_bb1 (h : fn.results = #[.cell p ty, .cell q tz, .tmp v]) (tmps : Array Value) (w : World) (g g' : Nat) (t t' : TypeId) (cs cs' : Array Value) (d d' : TypeDesc)
    (hp : tmps.getD p undef = .pointer (some ⟨g, 0, none⟩)) (hq : tmps.getD q undef = .pointer (some ⟨g', 0, none⟩)) (hg : Blk w g t cs) (hg' : Blk w g' t' cs') (hu : P.underlying ty = some d) (hu' : P.underlying tz = some d')
    (hd : (match d with | .struct _ | .array _ _ => true | _ => false) = true) (hd' : (match d' with | .struct _ | .array _ _ => true | _ => false) = true) (hi : (P.info? ty).map (·.size) = some cs.size) (hi' : (P.info? tz).map (·.size) = some cs'.size) :
    (results fn tmps).run P w = .ok (.tuple #[.agg cs, .agg cs', tmps.getD v undef]) w := by
  have hp' : tmps[p]?.getD undef = .pointer (some ⟨g, 0, none⟩) := by simpa using hp
  have hq' : tmps[q]?.getD undef = .pointer (some ⟨g', 0, none⟩) := by simpa using hq
  simp [results, h, hp', hq', asAddr, run_loadVar_row w g t ty cs (0, 0) d hg hu hd hi, run_loadVar_row w g' t' tz cs' (0, 0) d' hg' hu' hd' hi']
end
set_option maxHeartbeats 4000000 in
theorem fail_any (x : Int) (w : World) :
    Calls Try.prog 42 #[.int .i64 x] w fun e w' => e = .returned (.tuple #[LdV.zero.agg, TxV.agg ⟨Tx.zero, none, 0, none, 0⟩, .int .i64 x]) ∧ Below w.heap.size w w' := by
  go_enter Try.func42, Try.ntmps42
  go_wp2
  have h1 := (Blk.new w 25 #[.int .i64 0, .slice none 0 0, .slice none 0 0]).alloc (.cells #[.int .i64 0, .int .i64 0, .slice none 0 0, .slice none 0 0] 29)
  have h2 := Blk.new (w.alloc (.cells #[.int .i64 0, .slice none 0 0, .slice none 0 0] 25)) 29 #[.int .i64 0, .int .i64 0, .slice none 0 0, .slice none 0 0]
  rw [World.size_alloc] at h2
  exact bodyPost_ret (results_bb1 rfl _ _ w.heap.size (w.heap.size + 1) 25 29 _ _ _ _ rfl rfl h1 h2 Try.underlying25 Try.underlying29 rfl rfl (by kernel_rfl) (by kernel_rfl)) rfl ⟨rfl, ((Below.refl _ _).alloc (Nat.le_refl _) _).alloc (by simp) _⟩
end Go.Proofs.Ytficjpfhakggmaa

namespace Go.Proofs.Ytficjpfhakggmaa
open Go.RowKit Go.Maps
theorem fail_lit (x : Int) (w : World) : Calls Try.prog 42 #[.int .i64 x] w fun e w' => e = .returned (.tuple #[.agg #[.int .i64 0, .slice none 0 0, .slice none 0 0], .agg #[.int .i64 0, .int .i64 0, .slice none 0 0, .slice none 0 0], .int .i64 x]) ∧ Below w.heap.size w w' := fail_any x w
/-- the boxes of Stamp -/
structure StK (w w' : World) (tl tt ti : TypeId) (L : LdV) (v : TxV) (lo hi : Int) : Prop where
  k0 : Blk w' w.heap.size tl #[.int .i64 L.last, .slice L.sa L.st.length L.sc, .slice L.oa L.op.length L.oc]
  k1 : Blk w' (w.heap.size + 1) tt #[.int .i64 v.t.id, .int .i64 v.t.ts, .slice v.ra v.t.reads.length v.rc, .slice v.wa v.t.writes.length v.wc]
  k2 : Blk w' (w.heap.size + 2) ti #[.int .i64 lo, .int .i64 hi]
  k3 : Blk w' (w.heap.size + 3) tl #[.int .i64 0, .slice none 0 0, .slice none 0 0]
  k4 : Blk w' (w.heap.size + 4) tt #[.int .i64 0, .int .i64 0, .slice none 0 0, .slice none 0 0]
  b : Below w.heap.size w w'
def StC (w : World) (g : Nat) (L : LdV) (v : TxV) (lo hi : Int) : Prop :=
  (w.cell? ⟨g, 0, none⟩ = some (.int .i64 L.last) ∧ w.cell? ⟨g, 1, none⟩ = some (.slice L.sa L.st.length L.sc) ∧ w.cell? ⟨g, 2, none⟩ = some (.slice L.oa L.op.length L.oc)) ∧
  (w.cell? ⟨g + 1, 0, none⟩ = some (.int .i64 v.t.id) ∧ w.cell? ⟨g + 1, 1, none⟩ = some (.int .i64 v.t.ts) ∧ w.cell? ⟨g + 1, 2, none⟩ = some (.slice v.ra v.t.reads.length v.rc) ∧ w.cell? ⟨g + 1, 3, none⟩ = some (.slice v.wa v.t.writes.length v.wc)) ∧
  (w.cell? ⟨g + 2, 0, none⟩ = some (.int .i64 lo) ∧ w.cell? ⟨g + 2, 1, none⟩ = some (.int .i64 hi))
def StD (w : World) (g : Nat) : Prop := (∀ i, w.cell? ⟨g + 3, i, none⟩ = #[.int .i64 0, .slice none 0 0, .slice none 0 0][i]?) ∧ (∀ i, w.frozen? ⟨g + 3, i, none⟩ = false) ∧ (∀ i, w.cell? ⟨g + 4, i, none⟩ = #[.int .i64 0, .int .i64 0, .slice none 0 0, .slice none 0 0][i]?) ∧ (∀ i, w.frozen? ⟨g + 4, i, none⟩ = false)
section
variable {w w' w'' : World} {tl tt ti : TypeId} {L : LdV} {v : TxV} {lo hi : Int}
theorem StK.then_ (h : StK w w' tl tt ti L v lo hi) (hb : Below w'.heap.size w' w'') : StK w w'' tl tt ti L v lo hi :=
  ⟨h.k0.below hb h.k0.lt, h.k1.below hb h.k1.lt, h.k2.below hb h.k2.lt, h.k3.below hb h.k3.lt, h.k4.below hb h.k4.lt, thenB h.b hb⟩
theorem StK.c (h : StK w w' tl tt ti L v lo hi) : StC w' w.heap.size L v lo hi := ⟨⟨h.k0.cell 0, h.k0.cell 1, h.k0.cell 2⟩, ⟨h.k1.cell 0, h.k1.cell 1, h.k1.cell 2, h.k1.cell 3⟩, ⟨h.k2.cell 0, h.k2.cell 1⟩⟩
theorem StK.d (h : StK w w' tl tt ti L v lo hi) : StD w' w.heap.size := ⟨h.k3.cell, h.k3.frozen, h.k4.cell, h.k4.frozen⟩
theorem StK.lt (h : StK w w' tl tt ti L v lo hi) : w.heap.size + 4 < w'.heap.size := h.k4.lt
theorem StK.new : StK w (((((w.alloc (.cells #[.int .i64 L.last, .slice L.sa L.st.length L.sc, .slice L.oa L.op.length L.oc] tl)).alloc (.cells #[.int .i64 v.t.id, .int .i64 v.t.ts, .slice v.ra v.t.reads.length v.rc, .slice v.wa v.t.writes.length v.wc] tt)).alloc (.cells #[.int .i64 lo, .int .i64 hi] ti)).alloc (.cells #[.int .i64 0, .slice none 0 0, .slice none 0 0] tl)).alloc (.cells #[.int .i64 0, .int .i64 0, .slice none 0 0, .slice none 0 0] tt)) tl tt ti L v lo hi := by
  refine ⟨?_, ?_, ?_, ?_, ?_, ?_⟩
  · exact ((((Blk.new _ _ _).alloc _).alloc _).alloc _).alloc _
  · have h := (((Blk.new (w.alloc (.cells #[.int .i64 L.last, .slice L.sa L.st.length L.sc, .slice L.oa L.op.length L.oc] tl)) tt #[.int .i64 v.t.id, .int .i64 v.t.ts, .slice v.ra v.t.reads.length v.rc, .slice v.wa v.t.writes.length v.wc]).alloc (.cells #[.int .i64 lo, .int .i64 hi] ti)).alloc (.cells #[.int .i64 0, .slice none 0 0, .slice none 0 0] tl)).alloc (.cells #[.int .i64 0, .int .i64 0, .slice none 0 0, .slice none 0 0] tt)
    simpa using h
  · have h := ((Blk.new ((w.alloc (.cells #[.int .i64 L.last, .slice L.sa L.st.length L.sc, .slice L.oa L.op.length L.oc] tl)).alloc (.cells #[.int .i64 v.t.id, .int .i64 v.t.ts, .slice v.ra v.t.reads.length v.rc, .slice v.wa v.t.writes.length v.wc] tt)) ti #[.int .i64 lo, .int .i64 hi]).alloc (.cells #[.int .i64 0, .slice none 0 0, .slice none 0 0] tl)).alloc (.cells #[.int .i64 0, .int .i64 0, .slice none 0 0, .slice none 0 0] tt)
    simpa using h
  · have h := (Blk.new (((w.alloc (.cells #[.int .i64 L.last, .slice L.sa L.st.length L.sc, .slice L.oa L.op.length L.oc] tl)).alloc (.cells #[.int .i64 v.t.id, .int .i64 v.t.ts, .slice v.ra v.t.reads.length v.rc, .slice v.wa v.t.writes.length v.wc] tt)).alloc (.cells #[.int .i64 lo, .int .i64 hi] ti)) tl #[.int .i64 0, .slice none 0 0, .slice none 0 0]).alloc (.cells #[.int .i64 0, .int .i64 0, .slice none 0 0, .slice none 0 0] tt)
    simpa using h
  · have h := Blk.new ((((w.alloc (.cells #[.int .i64 L.last, .slice L.sa L.st.length L.sc, .slice L.oa L.op.length L.oc] tl)).alloc (.cells #[.int .i64 v.t.id, .int .i64 v.t.ts, .slice v.ra v.t.reads.length v.rc, .slice v.wa v.t.writes.length v.wc] tt)).alloc (.cells #[.int .i64 lo, .int .i64 hi] ti)).alloc (.cells #[.int .i64 0, .slice none 0 0, .slice none 0 0] tl)) tt #[.int .i64 0, .int .i64 0, .slice none 0 0, .slice none 0 0]
    simpa using h
  · exact (((((Below.refl _ _).alloc (Nat.le_refl _) _).alloc (by simp) _).alloc (by simp; omega) _).alloc (by simp; omega) _).alloc (by simp; omega) _
/-- the two result boxes, written -/
def stW (w1 : World) (g : Nat) (a b c p q r s : Value) : World := (((((((w1.setCell ⟨g + 3, 0, none⟩ a).setCell ⟨g + 3, 1, none⟩ b).setCell ⟨g + 3, 2, none⟩ c).setCell ⟨g + 4, 0, none⟩ p).setCell ⟨g + 4, 1, none⟩ q).setCell ⟨g + 4, 2, none⟩ r).setCell ⟨g + 4, 3, none⟩ s)
theorem stW_other (w1 : World) (g : Nat) (a b c p q r s : Value) : w1.heap.size ≤ (stW w1 g a b c p q r s).heap.size ∧ ∀ k, k ≠ g + 3 → k ≠ g + 4 → (stW w1 g a b c p q r s).heap[k]? = w1.heap[k]? := by
  unfold stW
  refine ⟨by simp [World.setCell], fun k h3 h4 => ?_⟩
  rw [Below.heap_setCell _ ⟨g + 4, 3, none⟩ _ k h4, Below.heap_setCell _ ⟨g + 4, 2, none⟩ _ k h4, Below.heap_setCell _ ⟨g + 4, 1, none⟩ _ k h4, Below.heap_setCell _ ⟨g + 4, 0, none⟩ _ k h4, Below.heap_setCell _ ⟨g + 3, 2, none⟩ _ k h3, Below.heap_setCell _ ⟨g + 3, 1, none⟩ _ k h3, Below.heap_setCell _ ⟨g + 3, 0, none⟩ _ k h3]
theorem stW_out {w1 : World} (b0 : Below w.heap.size w w1) (k3 : Blk w1 (w.heap.size + 3) tl #[.int .i64 0, .slice none 0 0, .slice none 0 0]) (k4 : Blk w1 (w.heap.size + 4) tt #[.int .i64 0, .int .i64 0, .slice none 0 0, .slice none 0 0]) (a b c p q r s : Value) :
    Blk (stW w1 w.heap.size a b c p q r s) (w.heap.size + 3) tl #[a, b, c] ∧ Blk (stW w1 w.heap.size a b c p q r s) (w.heap.size + 4) tt #[p, q, r, s] ∧ Below w.heap.size w (stW w1 w.heap.size a b c p q r s) := by
  refine ⟨?_, ?_, ?_⟩
  · have h := ((k3.set_ 0 a).set_ 1 b).set_ 2 c
    exact ((((h.far (p := ⟨w.heap.size + 4, 0, none⟩) (by show w.heap.size + 3 ≠ w.heap.size + 4; omega) p).far (p := ⟨w.heap.size + 4, 1, none⟩) (by show w.heap.size + 3 ≠ w.heap.size + 4; omega) q).far (p := ⟨w.heap.size + 4, 2, none⟩) (by show w.heap.size + 3 ≠ w.heap.size + 4; omega) r).far (p := ⟨w.heap.size + 4, 3, none⟩) (by show w.heap.size + 3 ≠ w.heap.size + 4; omega) s)
  · have h := ((k4.far (p := ⟨w.heap.size + 3, 0, none⟩) (by show w.heap.size + 4 ≠ w.heap.size + 3; omega) a).far (p := ⟨w.heap.size + 3, 1, none⟩) (by show w.heap.size + 4 ≠ w.heap.size + 3; omega) b).far (p := ⟨w.heap.size + 3, 2, none⟩) (by show w.heap.size + 4 ≠ w.heap.size + 3; omega) c
    exact (((h.set_ 0 p).set_ 1 q).set_ 2 r).set_ 3 s
  · exact set4 (set3 b0 (by omega)) (by omega)
theorem Rd.at_ {W W' : World} {A : Option Addr} {cs : List Value} (h : Rd W A cs) (hs : W.heap.size ≤ W'.heap.size) (hk : ∀ a, A = some a → W'.heap[a.block]? = W.heap[a.block]?) : Rd W' A cs := fun hne => by
  obtain ⟨b, o, rfl, hlt, hce⟩ := h hne
  exact ⟨b, o, rfl, by omega, fun j u hu => (World.cell?_of_block (a := ⟨b, o + j, none⟩) (hk ⟨b, o, none⟩ rfl)).trans (hce j u hu)⟩
end
def RetLXE (w : World) (r : LD × Tx × Int) (e : Ending) (w' : World) : Prop :=
  ∃ (M : LdV) (v : TxV), e = .returned (.tuple #[M.agg, v.agg, .int .i64 r.2.2]) ∧ M.d = r.1 ∧ v.t = r.2.1 ∧ LdW w' M ∧ TxW w' v ∧ Below w.heap.size w w'
/-- the rows lie above B -/
def FrX (B : Nat) (M : LdV) (v : TxV) : Prop :=
  (∀ a, M.sa = some a → B ≤ a.block) ∧ (∀ a, M.oa = some a → B ≤ a.block) ∧ (∀ x ∈ M.op, (∀ a, x.ra = some a → B ≤ a.block) ∧ ∀ a, x.wa = some a → B ≤ a.block) ∧ (∀ a, v.ra = some a → B ≤ a.block) ∧ ∀ a, v.wa = some a → B ≤ a.block
def RetLXF (w : World) (r : LD × Tx × Int) (e : Ending) (w' : World) : Prop :=
  ∃ (M : LdV) (v : TxV), e = .returned (.tuple #[M.agg, v.agg, .int .i64 r.2.2]) ∧ M.d = r.1 ∧ v.t = r.2.1 ∧ LdW w' M ∧ TxW w' v ∧ FrX w.heap.size M v ∧ Below w.heap.size w w'
theorem RetLXF.e {w w' : World} {r : LD × Tx × Int} {e : Ending} (h : RetLXF w r e w') : RetLXE w r e w' := by
  obtain ⟨M, v, h1, h2, h3, h4, h5, _, h7⟩ := h
  exact ⟨M, v, h1, h2, h3, h4, h5, h7⟩
theorem TxW.zero (w : World) : TxW w ⟨Tx.zero, none, 0, none, 0⟩ := ⟨RS.nil, RS.nil, Nat.le_refl _, by simp [maxLen], Nat.le_refl _, by simp [maxLen]⟩
theorem RetLXE.fail {w W : World} {r : LD × Tx × Int} {x : Int} (hr : r = (LD.zero, Tx.zero, x)) (hb : Below w.heap.size w W) :
    RetLXE w r (.returned (.tuple #[.agg #[.int .i64 0, .slice none 0 0, .slice none 0 0], .agg #[.int .i64 0, .int .i64 0, .slice none 0 0, .slice none 0 0], .int .i64 x])) W := by
  subst hr
  exact ⟨LdV.zero, ⟨Tx.zero, none, 0, none, 0⟩, rfl, rfl, rfl, LdW.zero _, TxW.zero _, hb⟩
theorem RetLXF.fail {w W : World} {r : LD × Tx × Int} {x : Int} (hr : r = (LD.zero, Tx.zero, x)) (hb : Below w.heap.size w W) :
    RetLXF w r (.returned (.tuple #[.agg #[.int .i64 0, .slice none 0 0, .slice none 0 0], .agg #[.int .i64 0, .int .i64 0, .slice none 0 0, .slice none 0 0], .int .i64 x])) W := by
  subst hr
  refine ⟨LdV.zero, ⟨Tx.zero, none, 0, none, 0⟩, rfl, rfl, rfl, LdW.zero _, TxW.zero _, ⟨fun a ha => (by cases ha), fun a ha => (by cases ha), fun x hx => (by cases hx), fun a ha => (by cases ha), fun a ha => (by cases ha)⟩, hb⟩
theorem stk_all {w w' : World} {tl tt ti : TypeId} {L : LdV} {v : TxV} {lo hi : Int} (h : StK w w' tl tt ti L v lo hi) : StK w w' tl tt ti L v lo hi ∧ (w'.cell? ⟨w.heap.size, 0, none⟩ = some (.int .i64 L.last) ∧ w'.cell? ⟨w.heap.size, 1, none⟩ = some (.slice L.sa L.st.length L.sc) ∧ w'.cell? ⟨w.heap.size, 2, none⟩ = some (.slice L.oa L.op.length L.oc)) ∧ w'.cell? ⟨w.heap.size + 1, 3, none⟩ = some (.slice v.wa v.t.writes.length v.wc) :=
  ⟨h, h.c.1, h.c.2.1.2.2.2⟩
def stB (w7 : World) (g : Nat) (a b c d e : Value) : World := ((((w7.setCell ⟨g + 1, 0, none⟩ a).setCell ⟨g + 1, 1, none⟩ b).setCell ⟨g + 1, 2, none⟩ c).setCell ⟨g + 1, 3, none⟩ d).setCell ⟨g + 1, 1, none⟩ e
theorem stB_other (w7 : World) (g : Nat) (a b c d e : Value) : w7.heap.size ≤ (stB w7 g a b c d e).heap.size ∧ ∀ k, k ≠ g + 1 → (stB w7 g a b c d e).heap[k]? = w7.heap[k]? := by
  unfold stB
  refine ⟨by simp [World.setCell], fun k h3 => ?_⟩
  rw [Below.heap_setCell _ ⟨g + 1, 1, none⟩ _ k h3, Below.heap_setCell _ ⟨g + 1, 3, none⟩ _ k h3, Below.heap_setCell _ ⟨g + 1, 2, none⟩ _ k h3, Below.heap_setCell _ ⟨g + 1, 1, none⟩ _ k h3, Below.heap_setCell _ ⟨g + 1, 0, none⟩ _ k h3]
theorem StK.box {w w7 : World} {tl tt ti : TypeId} {L : LdV} {v : TxV} {lo hi : Int} (h : StK w w7 tl tt ti L v lo hi) (v8 : TxV) (b : Value) :
    StK w (stB w7 w.heap.size (.int .i64 v8.t.id) b (.slice v8.ra v8.t.reads.length v8.rc) (.slice v8.wa v8.t.writes.length v8.wc) (.int .i64 v8.t.ts)) tl tt ti L v8 lo hi := by
  have ho := (stB_other w7 w.heap.size (.int .i64 v8.t.id) b (.slice v8.ra v8.t.reads.length v8.rc) (.slice v8.wa v8.t.writes.length v8.wc) (.int .i64 v8.t.ts)).2
  refine ⟨(ho _ (by omega)).trans h.k0, ?_, (ho _ (by omega)).trans h.k2, (ho _ (by omega)).trans h.k3, (ho _ (by omega)).trans h.k4, ?_⟩
  · exact ((((h.k1.set_ 0 _).set_ 1 _).set_ 2 _).set_ 3 _).set_ 1 _
  · exact ((((h.b.setCell (p := ⟨w.heap.size + 1, 0, none⟩) (by show w.heap.size ≤ w.heap.size + 1; omega) _).setCell (p := ⟨w.heap.size + 1, 1, none⟩) (by show w.heap.size ≤ w.heap.size + 1; omega) _).setCell (p := ⟨w.heap.size + 1, 2, none⟩) (by show w.heap.size ≤ w.heap.size + 1; omega) _).setCell (p := ⟨w.heap.size + 1, 3, none⟩) (by show w.heap.size ≤ w.heap.size + 1; omega) _).setCell (p := ⟨w.heap.size + 1, 1, none⟩) (by show w.heap.size ≤ w.heap.size + 1; omega) _
theorem TxW.at_ {W W' : World} {v : TxV} (h : TxW W v) (hs : W.heap.size ≤ W'.heap.size) (hr : ∀ a, v.ra = some a → W'.heap[a.block]? = W.heap[a.block]?) (hw : ∀ a, v.wa = some a → W'.heap[a.block]? = W.heap[a.block]?) : TxW W' v :=
  ⟨Rd.at_ h.r hs hr, Rd.at_ h.s hs hw, h.rl, h.rm, h.wl, h.wm⟩
theorem StK.grown {w w' w'' : World} {tl tt ti : TypeId} {L : LdV} {v : TxV} {lo hi : Int} {row : Option Nat} (h : StK w w' tl tt ti L v lo hi) (hg : w'.grownBy w'' row) (hr : ∀ k, row = some k → w.heap.size + 4 < k) : StK w w'' tl tt ti L v lo hi := by
  have key : ∀ k, k ≤ w.heap.size + 4 → w''.heap[k]? = w'.heap[k]? := fun k hk => hg.block k (by have := h.lt; omega) (by intro e; have := hr k e.symm; omega)
  exact ⟨(key _ (by omega)).trans h.k0, (key _ (by omega)).trans h.k1, (key _ (by omega)).trans h.k2, (key _ (by omega)).trans h.k3, (key _ (by omega)).trans h.k4, h.b.grown hg h.b.size (fun k hk => by have := hr k hk; omega)⟩
/-- what stays through the last region -/
def StS (w w' : World) (L : LdV) (v : TxV) : Prop :=
  (Below w.heap.size w w' ∧ TxW w' v ∧ w.heap.size + 4 < w'.heap.size) ∧ (w'.cell? ⟨w.heap.size, 1, none⟩ = some (.slice L.sa L.st.length L.sc) ∧ w'.cell? ⟨w.heap.size, 2, none⟩ = some (.slice L.oa L.op.length L.oc)) ∧
  (w'.cell? ⟨w.heap.size + 1, 0, none⟩ = some (.int .i64 v.t.id) ∧ w'.cell? ⟨w.heap.size + 1, 1, none⟩ = some (.int .i64 v.t.ts) ∧ w'.cell? ⟨w.heap.size + 1, 2, none⟩ = some (.slice v.ra v.t.reads.length v.rc) ∧ w'.cell? ⟨w.heap.size + 1, 3, none⟩ = some (.slice v.wa v.t.writes.length v.wc))
section
variable {w w' w'' : World} {tl tt ti : TypeId} {L : LdV} {v : TxV} {lo hi : Int}
theorem StS.of (h : StK w w' tl tt ti L v lo hi) (hw : TxW w' v) : StS w w' L v := ⟨⟨h.b, hw, h.lt⟩, ⟨h.c.1.2.1, h.c.1.2.2⟩, h.c.2.1⟩
theorem StS.drew (h : StS w w' L v) : StS w w'.drew L v := ⟨⟨h.1.1.drew, h.1.2.1.then_ (Below.refl _ _).drew, h.1.2.2⟩, h.2⟩
theorem StS.call (hb : Below w'.heap.size w' w'') (h : StS w w' L v) : StS w w'' L v :=
  ⟨⟨thenB h.1.1 hb, h.1.2.1.then_ hb, Nat.lt_of_lt_of_le h.1.2.2 hb.size⟩, ⟨(hb.cell (p := ⟨w.heap.size, 1, none⟩) (cell_lt h.2.1.1)).trans h.2.1.1, (hb.cell (p := ⟨w.heap.size, 2, none⟩) (cell_lt h.2.1.2)).trans h.2.1.2⟩,
    TxAt.below (b := w.heap.size + 1) (o := 0) h.2.2 hb (cell_lt h.2.2.1)⟩
theorem StS.alloc (h : StS w w' L v) (o : Obj) : StS w (w'.alloc o) L v := h.call ((Below.refl _ _).alloc (Nat.le_refl _) o)
theorem StS.keep (h : StS w w' L v) (hb : Below w.heap.size w w'') (hw : TxW w'' v) (hs : w.heap.size + 4 < w''.heap.size) (hk : ∀ k, k ≤ w.heap.size + 1 → w''.heap[k]? = w'.heap[k]?) : StS w w'' L v :=
  ⟨⟨hb, hw, hs⟩, ⟨(World.cell?_of_block (a := ⟨w.heap.size, 1, none⟩) (hk _ (by dsimp only; omega))).trans h.2.1.1, (World.cell?_of_block (a := ⟨w.heap.size, 2, none⟩) (hk _ (by dsimp only; omega))).trans h.2.1.2⟩,
    (World.cell?_of_block (a := ⟨w.heap.size + 1, 0, none⟩) (hk _ (by dsimp only; omega))).trans h.2.2.1, (World.cell?_of_block (a := ⟨w.heap.size + 1, 1, none⟩) (hk _ (by dsimp only; omega))).trans h.2.2.2.1, (World.cell?_of_block (a := ⟨w.heap.size + 1, 2, none⟩) (hk _ (by dsimp only; omega))).trans h.2.2.2.2.1, (World.cell?_of_block (a := ⟨w.heap.size + 1, 3, none⟩) (hk _ (by dsimp only; omega))).trans h.2.2.2.2.2⟩
theorem StS.grow {row : Option Nat} (hg : w'.grownBy w'' row) (hr : ∀ k, row = some k → w.heap.size + 4 < k) (hv : (∀ a, v.ra = some a → some a.block ≠ row) ∧ ∀ a, v.wa = some a → some a.block ≠ row) (h : StS w w' L v) : StS w w'' L v :=
  h.keep (h.1.1.grown hg h.1.1.size (fun k hk => by have := hr k hk; omega)) ⟨Rd.grown h.1.2.1.r hv.1 hg, Rd.grown h.1.2.1.s hv.2 hg, h.1.2.1.rl, h.1.2.1.rm, h.1.2.1.wl, h.1.2.1.wm⟩ (Nat.lt_of_lt_of_le h.1.2.2 hg.size)
    (fun k hk => hg.block k (by have := h.1.2.2; omega) (by intro e; have := hr k e.symm; omega))
theorem StS.set3 {a b c : Value} (hv : (∀ a, v.ra = some a → w.heap.size + 4 < a.block) ∧ ∀ a, v.wa = some a → w.heap.size + 4 < a.block) (h : StS w w' L v) :
    StS w (((w'.setCell ⟨w.heap.size + 3, 0, none⟩ a).setCell ⟨w.heap.size + 3, 1, none⟩ b).setCell ⟨w.heap.size + 3, 2, none⟩ c) L v := by
  have hf := set3_far w' (w.heap.size + 3) a b c
  exact h.keep (Go.Proofs.Ytficjpfhakggmaa.set3 h.1.1 (by omega)) (h.1.2.1.at_ hf.1 (fun x hx => hf.2 _ (by have := hv.1 x hx; omega)) (fun x hx => hf.2 _ (by have := hv.2 x hx; omega))) (Nat.lt_of_lt_of_le h.1.2.2 hf.1) (fun k hk => hf.2 _ (by omega))
theorem StS.set4 {a b c d : Value} (hv : (∀ a, v.ra = some a → w.heap.size + 4 < a.block) ∧ ∀ a, v.wa = some a → w.heap.size + 4 < a.block) (h : StS w w' L v) :
    StS w ((((w'.setCell ⟨w.heap.size + 4, 0, none⟩ a).setCell ⟨w.heap.size + 4, 1, none⟩ b).setCell ⟨w.heap.size + 4, 2, none⟩ c).setCell ⟨w.heap.size + 4, 3, none⟩ d) L v := by
  have hk : ∀ k, k ≠ w.heap.size + 4 → ((((w'.setCell ⟨w.heap.size + 4, 0, none⟩ a).setCell ⟨w.heap.size + 4, 1, none⟩ b).setCell ⟨w.heap.size + 4, 2, none⟩ c).setCell ⟨w.heap.size + 4, 3, none⟩ d).heap[k]? = w'.heap[k]? := fun k hk => by
    rw [Below.heap_setCell _ ⟨w.heap.size + 4, 3, none⟩ _ k hk, Below.heap_setCell _ ⟨w.heap.size + 4, 2, none⟩ _ k hk, Below.heap_setCell _ ⟨w.heap.size + 4, 1, none⟩ _ k hk, Below.heap_setCell _ ⟨w.heap.size + 4, 0, none⟩ _ k hk]
  have hs : w'.heap.size ≤ ((((w'.setCell ⟨w.heap.size + 4, 0, none⟩ a).setCell ⟨w.heap.size + 4, 1, none⟩ b).setCell ⟨w.heap.size + 4, 2, none⟩ c).setCell ⟨w.heap.size + 4, 3, none⟩ d).heap.size := by simp [World.setCell]
  exact h.keep (Go.Proofs.Ytficjpfhakggmaa.set4 h.1.1 (by omega)) (h.1.2.1.at_ hs (fun x hx => hk _ (by have := hv.1 x hx; omega)) (fun x hx => hk _ (by have := hv.2 x hx; omega))) (Nat.lt_of_lt_of_le h.1.2.2 hs) (fun k hk' => hk _ (by omega))
end
abbrev StX (w w' : World) (L : LdV) (v : TxV) (T : Int) (ra : Option Addr) (rc : Nat) (wa : Option Addr) (wc : Nat) : Prop :=
  (Below w.heap.size w w' ∧ TxW w' ⟨v.t.at T, ra, rc, wa, wc⟩ ∧ w.heap.size + 4 < w'.heap.size) ∧ (w'.cell? ⟨w.heap.size, 1, none⟩ = some (.slice L.sa L.st.length L.sc) ∧ w'.cell? ⟨w.heap.size, 2, none⟩ = some (.slice L.oa L.op.length L.oc)) ∧ (w'.cell? ⟨w.heap.size + 1, 0, none⟩ = some (.int .i64 v.t.id) ∧ w'.cell? ⟨w.heap.size + 1, 1, none⟩ = some (.int .i64 T) ∧ w'.cell? ⟨w.heap.size + 1, 2, none⟩ = some (.slice ra v.t.reads.length rc) ∧ w'.cell? ⟨w.heap.size + 1, 3, none⟩ = some (.slice wa v.t.writes.length wc))
section
variable {w w' w'' : World} {L : LdV} {v : TxV} {T : Int} {ra : Option Addr} {rc : Nat} {wa : Option Addr} {wc : Nat}
theorem StX.drew (h : StX w w' L v T ra rc wa wc) : StX w w'.drew L v T ra rc wa wc := StS.drew (v := ⟨v.t.at T, ra, rc, wa, wc⟩) h
theorem StX.call (hb : Below w'.heap.size w' w'') (h : StX w w' L v T ra rc wa wc) : StX w w'' L v T ra rc wa wc := StS.call (v := ⟨v.t.at T, ra, rc, wa, wc⟩) hb h
theorem StX.alloc (h : StX w w' L v T ra rc wa wc) (o : Obj) : StX w (w'.alloc o) L v T ra rc wa wc := StS.alloc (v := ⟨v.t.at T, ra, rc, wa, wc⟩) h o
theorem StX.grow {row : Option Nat} (hg : w'.grownBy w'' row) (hr : (∀ k, row = some k → w.heap.size + 4 < k) ∧ (∀ a, ra = some a → some a.block ≠ row) ∧ ∀ a, wa = some a → some a.block ≠ row) (h : StX w w' L v T ra rc wa wc) : StX w w'' L v T ra rc wa wc := StS.grow (v := ⟨v.t.at T, ra, rc, wa, wc⟩) hg hr.1 hr.2 h
theorem StX.set3 {a b c : Value} (hv : (∀ a, ra = some a → w.heap.size + 4 < a.block) ∧ ∀ a, wa = some a → w.heap.size + 4 < a.block) (h : StX w w' L v T ra rc wa wc) :
    StX w (((w'.setCell ⟨w.heap.size + 1 + 1 + 1, 0, none⟩ a).setCell ⟨w.heap.size + 1 + 1 + 1, 1, none⟩ b).setCell ⟨w.heap.size + 1 + 1 + 1, 2, none⟩ c) L v T ra rc wa wc := StS.set3 (v := ⟨v.t.at T, ra, rc, wa, wc⟩) hv h
theorem StX.set4 {a b c d : Value} (hv : (∀ a, ra = some a → w.heap.size + 4 < a.block) ∧ ∀ a, wa = some a → w.heap.size + 4 < a.block) (h : StX w w' L v T ra rc wa wc) :
    StX w ((((w'.setCell ⟨w.heap.size + 1 + 1 + 1 + 1, 0, none⟩ a).setCell ⟨w.heap.size + 1 + 1 + 1 + 1, 1, none⟩ b).setCell ⟨w.heap.size + 1 + 1 + 1 + 1, 2, none⟩ c).setCell ⟨w.heap.size + 1 + 1 + 1 + 1, 3, none⟩ d) L v T ra rc wa wc := StS.set4 (v := ⟨v.t.at T, ra, rc, wa, wc⟩) hv h
end
theorem guard_append {P : Program} {ops : Array Oper} {o : Oper} {a : Act} {w : World} {K : Act → World → Prop} {Q : Exit → Act → World → Prop} {E : Prop} (c : Call) (hc : c.callee = .builtin .append) (ho : o.op = .call c)
    (h : if Region.wanted o (yielded ops a.tmps) = true then Oper.wp P o a w K Q else E) : if Region.wanted o (yielded ops a.tmps) = true then Oper.wp P o a w K Q else E := h
theorem copied_lit (v : TxV) (T : Int) (ra : Option Addr) (rc : Nat) (wa : Option Addr) (wc : Nat) (W : World) (hv : v.t.reads.length ≤ 100 ∧ v.t.writes.length ≤ 100) (s : TxW W ⟨v.t.at T, ra, rc, wa, wc⟩) :
    Calls Try.prog 49 #[.agg #[.int .i64 v.t.id, .int .i64 T, .slice ra v.t.reads.length rc, .slice wa v.t.writes.length wc]] W
      fun e w' => ∃ ra' rc' wa' wc', e = .returned (.agg #[.int .i64 v.t.id, .int .i64 T, .slice ra' v.t.reads.length rc', .slice wa' v.t.writes.length wc']) ∧ Below W.heap.size W w' ∧ TxW w' ⟨v.t.at T, ra', rc', wa', wc'⟩ ∧ (∀ a, ra' = some a → W.heap.size ≤ a.block ∧ a.block < w'.heap.size) ∧ (∀ a, wa' = some a → W.heap.size ≤ a.block ∧ a.block < w'.heap.size) := by
  refine (copied_any ⟨v.t.at T, ra, rc, wa, wc⟩ W hv s).mono ?_
  rintro e w' ⟨⟨t', ra', rc', wa', wc'⟩, rfl, hb, ht, hw, hr, hs⟩
  obtain rfl : t' = v.t.at T := ht
  exact ⟨ra', rc', wa', wc', rfl, hb, hw, hr, hs⟩
theorem stamp_last {w w12 : World} {tl tt ti : TypeId} {L : LdV} {v8 : TxV} {lo hi : Int} (K : StK w w12 tl tt ti L v8 lo hi) {T : Int} {A9 : Option Addr} {c9 : Nat} {A12 : Option Addr} {c12 n : Nat} {l12 : List TxV} {R : LD × Tx × Int}
    (h9 : VS w12 A9 L.st) (r9 : ∀ a, A9 = some a → w.heap.size + 4 < a.block) (l9 : L.st.length ≤ c9) (m9 : c9 ≤ maxLen) (h12 : RS TxV.cells w12 A12 l12) (r12 : ∀ a, A12 = some a → w.heap.size + 4 < a.block)
    (e12 : ∀ x ∈ l12, TxW w12 x ∧ (∀ a, x.ra = some a → w.heap.size + 4 < a.block) ∧ ∀ a, x.wa = some a → w.heap.size + 4 < a.block) (hn : n = l12.length) (lc : n ≤ c12) (mc : c12 ≤ maxLen)
    (hx : TxW w12 v8 ∧ (∀ a, v8.ra = some a → w.heap.size + 4 < a.block) ∧ ∀ a, v8.wa = some a → w.heap.size + 4 < a.block) (hR : R = (⟨T, L.st, txs l12⟩, v8.t, 0)) :
    Blk (stW w12 w.heap.size (.int .i64 T) (.slice A9 L.st.length c9) (.slice A12 n c12) (.int .i64 v8.t.id) (.int .i64 v8.t.ts) (.slice v8.ra v8.t.reads.length v8.rc) (.slice v8.wa v8.t.writes.length v8.wc)) (w.heap.size + 3) tl #[.int .i64 T, .slice A9 L.st.length c9, .slice A12 n c12] ∧
    Blk (stW w12 w.heap.size (.int .i64 T) (.slice A9 L.st.length c9) (.slice A12 n c12) (.int .i64 v8.t.id) (.int .i64 v8.t.ts) (.slice v8.ra v8.t.reads.length v8.rc) (.slice v8.wa v8.t.writes.length v8.wc)) (w.heap.size + 4) tt #[.int .i64 v8.t.id, .int .i64 v8.t.ts, .slice v8.ra v8.t.reads.length v8.rc, .slice v8.wa v8.t.writes.length v8.wc] ∧
    RetLXF w R (.returned (.tuple #[.agg #[.int .i64 T, .slice A9 L.st.length c9, .slice A12 n c12], .agg #[.int .i64 v8.t.id, .int .i64 v8.t.ts, .slice v8.ra v8.t.reads.length v8.rc, .slice v8.wa v8.t.writes.length v8.wc], .int .i64 0])) (stW w12 w.heap.size (.int .i64 T) (.slice A9 L.st.length c9) (.slice A12 n c12) (.int .i64 v8.t.id) (.int .i64 v8.t.ts) (.slice v8.ra v8.t.reads.length v8.rc) (.slice v8.wa v8.t.writes.length v8.wc)) := by
  have X := stW_out K.b K.k3 K.k4 (.int .i64 T) (.slice A9 L.st.length c9) (.slice A12 n c12) (.int .i64 v8.t.id) (.int .i64 v8.t.ts) (.slice v8.ra v8.t.reads.length v8.rc) (.slice v8.wa v8.t.writes.length v8.wc)
  have ho := stW_other w12 w.heap.size (.int .i64 T) (.slice A9 L.st.length c9) (.slice A12 n c12) (.int .i64 v8.t.id) (.int .i64 v8.t.ts) (.slice v8.ra v8.t.reads.length v8.rc) (.slice v8.wa v8.t.writes.length v8.wc)
  have key : ∀ a : Addr, w.heap.size + 4 < a.block → (stW w12 w.heap.size (.int .i64 T) (.slice A9 L.st.length c9) (.slice A12 n c12) (.int .i64 v8.t.id) (.int .i64 v8.t.ts) (.slice v8.ra v8.t.reads.length v8.rc) (.slice v8.wa v8.t.writes.length v8.wc)).heap[a.block]? = w12.heap[a.block]? := fun a ha => ho.2 _ (by omega) (by omega)
  subst hR hn
  refine ⟨X.1, X.2.1, ⟨T, A9, c9, L.st, A12, c12, l12⟩, v8, rfl, rfl, rfl, ⟨Rd.at_ h9 ho.1 (fun a ha => key a (r9 a ha)), ⟨Rd.at_ h12 ho.1 (fun a ha => key a (r12 a ha)), fun x hx => ?_⟩, l9, m9, lc, mc⟩, ?_, ⟨fun a ha => by have := r9 a ha; omega, fun a ha => by have := r12 a ha; omega, fun x hx => ⟨fun a ha => by have := (e12 x hx).2.1 a ha; omega, fun a ha => by have := (e12 x hx).2.2 a ha; omega⟩, fun a ha => by have := hx.2.1 a ha; omega, fun a ha => by have := hx.2.2 a ha; omega⟩, X.2.2⟩
  · have := e12 x hx
    exact this.1.at_ ho.1 (fun a ha => key a (this.2.1 a ha)) (fun a ha => key a (this.2.2 a ha))
  · exact hx.1.at_ ho.1 (fun a ha => key a (hx.2.1 a ha)) (fun a ha => key a (hx.2.2 a ha))
theorem TxO.mk_ {w : World} {x : TxV} {p base : Nat} {row : Option Nat} (h : TxW w x) (hr : ∀ a, x.ra = some a → p ≤ a.block ∧ a.block < w.heap.size) (hs : ∀ a, x.wa = some a → p ≤ a.block ∧ a.block < w.heap.size) (hb : base ≤ p) (hrow : ∀ k, row = some k → k < p) : TxO w base row x :=
  ⟨h, fun a ha => ⟨Nat.le_trans hb (hr a ha).1, (hr a ha).2, fun e => by have := hrow _ e.symm; have := (hr a ha).1; omega⟩, fun a ha => ⟨Nat.le_trans hb (hs a ha).1, (hs a ha).2, fun e => by have := hrow _ e.symm; have := (hs a ha).1; omega⟩⟩
theorem ivB_bd {lo hi : Int} (h : ivB lo hi = true) : 0 ≤ lo ∧ lo ≤ hi ∧ hi ≤ 3000000000000000 := by
  simp only [ivB, Bool.and_eq_true, decide_eq_true_eq] at h
  omega
theorem lead_small {last : Int} {st : List Ver} {op : List Tx} (h : leadB last st op = true) : st.length + wlen op ≤ 4000 ∧ 0 ≤ last ∧ last ≤ 3000000000000000 := by
  simp only [leadB, Bool.and_eq_true, decide_eq_true_eq] at h
  omega
end Go.Proofs.Ytficjpfhakggmaa
