/-
  What the walk of the reference's Stamp keeps.
-/
import Derived.Test.YtficjpfhakggmaaSo34
import Derived.Test.YtficjpfhakggmaaRs34
namespace Go.Proofs.Ytficjpfhakggmaa
open Go.RowKit Go.Maps
/-- through the loop over the reads -/
abbrev StN (w w' : World) (tl tt ti : TypeId) (L : LdV) (v : TxV) (lo hi : Int) (b o : Nat) (s : Sn) : Prop :=
  StK w w' tl tt ti L v lo hi ∧ (w'.cell? ⟨w.heap.size, 0, none⟩ = some (.int .i64 L.last) ∧ w'.cell? ⟨w.heap.size, 1, none⟩ = some (.slice L.sa L.st.length L.sc) ∧ w'.cell? ⟨w.heap.size, 2, none⟩ = some (.slice L.oa L.op.length L.oc)) ∧ w'.cell? ⟨w.heap.size + 1, 2, none⟩ = some (.slice (some ⟨b, o, none⟩) v.t.reads.length v.rc)
theorem StN.of {w w' : World} {tl tt ti : TypeId} {L : LdV} {v : TxV} {lo hi : Int} {b o : Nat} {s : Sn} (h : StK w w' tl tt ti L v lo hi) (hr : v.ra = some ⟨b, o, none⟩) : StN w w' tl tt ti L v lo hi b o s := ⟨h, h.c.1, hr ▸ h.c.2.1.2.2.1⟩
/-- through the last region -/
abbrev StY (w w' : World) (L : LdV) (v : TxV) (T : Int) : Prop :=
  (Below w.heap.size w w' ∧ w.heap.size + 4 < w'.heap.size) ∧ (w'.cell? ⟨w.heap.size, 1, none⟩ = some (.slice L.sa L.st.length L.sc) ∧ w'.cell? ⟨w.heap.size, 2, none⟩ = some (.slice L.oa L.op.length L.oc)) ∧ (w'.cell? ⟨w.heap.size + 1, 0, none⟩ = some (.int .i64 v.t.id) ∧ w'.cell? ⟨w.heap.size + 1, 1, none⟩ = some (.int .i64 T) ∧ w'.cell? ⟨w.heap.size + 1, 2, none⟩ = some (.slice v.ra v.t.reads.length v.rc) ∧ w'.cell? ⟨w.heap.size + 1, 3, none⟩ = some (.slice v.wa v.t.writes.length v.wc))
section
variable {w w' w'' : World} {L : LdV} {v : TxV} {T : Int}
theorem StY.keep (h : StY w w' L v T) (hb : Below w.heap.size w w'') (hs : w.heap.size + 4 < w''.heap.size) (hk : ∀ k, k ≤ w.heap.size + 1 → w''.heap[k]? = w'.heap[k]?) : StY w w'' L v T :=
  ⟨⟨hb, hs⟩, ⟨(World.cell?_of_block (a := ⟨w.heap.size, 1, none⟩) (hk _ (by dsimp only; omega))).trans h.2.1.1, (World.cell?_of_block (a := ⟨w.heap.size, 2, none⟩) (hk _ (by dsimp only; omega))).trans h.2.1.2⟩,
    (World.cell?_of_block (a := ⟨w.heap.size + 1, 0, none⟩) (hk _ (by dsimp only; omega))).trans h.2.2.1, (World.cell?_of_block (a := ⟨w.heap.size + 1, 1, none⟩) (hk _ (by dsimp only; omega))).trans h.2.2.2.1, (World.cell?_of_block (a := ⟨w.heap.size + 1, 2, none⟩) (hk _ (by dsimp only; omega))).trans h.2.2.2.2.1, (World.cell?_of_block (a := ⟨w.heap.size + 1, 3, none⟩) (hk _ (by dsimp only; omega))).trans h.2.2.2.2.2⟩
theorem StY.drew (h : StY w w' L v T) : StY w w'.drew L v T := h.keep h.1.1.drew h.1.2 (fun _ _ => rfl)
theorem StY.alloc (h : StY w w' L v T) (o : Obj) : StY w (w'.alloc o) L v T :=
  h.keep (h.1.1.alloc h.1.1.size o) (by rw [World.size_alloc]; have := h.1.2; omega) (fun k hk => Below.heap_alloc w' o k (by have := h.1.2; omega))
theorem StY.grow {row : Option Nat} (hg : w'.grownBy w'' row) (hr : ∀ k, row = some k → w.heap.size + 4 < k) (h : StY w w' L v T) : StY w w'' L v T :=
  h.keep (h.1.1.grown hg h.1.1.size (fun k hk => by have := hr k hk; omega)) (Nat.lt_of_lt_of_le h.1.2 hg.size) (fun k hk => hg.block k (by have := h.1.2; omega) (by intro e; have := hr k e.symm; omega))
theorem StY.set3 {a b c : Value} (h : StY w w' L v T) : StY w (((w'.setCell ⟨w.heap.size + 1 + 1 + 1, 0, none⟩ a).setCell ⟨w.heap.size + 1 + 1 + 1, 1, none⟩ b).setCell ⟨w.heap.size + 1 + 1 + 1, 2, none⟩ c) L v T := by
  have hf := set3_far w' (w.heap.size + 3) a b c
  exact h.keep (Go.Proofs.Ytficjpfhakggmaa.set3 h.1.1 (by omega)) (Nat.lt_of_lt_of_le h.1.2 hf.1) (fun k hk => hf.2 _ (by omega))
theorem StY.set4 {a b c d : Value} (h : StY w w' L v T) : StY w ((((w'.setCell ⟨w.heap.size + 1 + 1 + 1 + 1, 0, none⟩ a).setCell ⟨w.heap.size + 1 + 1 + 1 + 1, 1, none⟩ b).setCell ⟨w.heap.size + 1 + 1 + 1 + 1, 2, none⟩ c).setCell ⟨w.heap.size + 1 + 1 + 1 + 1, 3, none⟩ d) L v T := by
  have hk : ∀ k, k ≠ w.heap.size + 4 → ((((w'.setCell ⟨w.heap.size + 4, 0, none⟩ a).setCell ⟨w.heap.size + 4, 1, none⟩ b).setCell ⟨w.heap.size + 4, 2, none⟩ c).setCell ⟨w.heap.size + 4, 3, none⟩ d).heap[k]? = w'.heap[k]? := fun k hk => by
    rw [Below.heap_setCell _ ⟨w.heap.size + 4, 3, none⟩ _ k hk, Below.heap_setCell _ ⟨w.heap.size + 4, 2, none⟩ _ k hk, Below.heap_setCell _ ⟨w.heap.size + 4, 1, none⟩ _ k hk, Below.heap_setCell _ ⟨w.heap.size + 4, 0, none⟩ _ k hk]
  have hs : w'.heap.size ≤ ((((w'.setCell ⟨w.heap.size + 4, 0, none⟩ a).setCell ⟨w.heap.size + 4, 1, none⟩ b).setCell ⟨w.heap.size + 4, 2, none⟩ c).setCell ⟨w.heap.size + 4, 3, none⟩ d).heap.size := by simp [World.setCell]
  exact h.keep (Go.Proofs.Ytficjpfhakggmaa.set4 h.1.1 (by omega)) (Nat.lt_of_lt_of_le h.1.2 hs) (fun k hk' => hk _ (by omega))
theorem StK.ts {w7 : World} {tl tt ti : TypeId} {lo hi : Int} (h : StK w w7 tl tt ti L v lo hi) (T : Int) : StK w (w7.setCell ⟨w.heap.size + 1, 1, none⟩ (.int .i64 T)) tl tt ti L ⟨v.t.at T, v.ra, v.rc, v.wa, v.wc⟩ lo hi := by
  have ho : ∀ k, k ≠ w.heap.size + 1 → (w7.setCell ⟨w.heap.size + 1, 1, none⟩ (.int .i64 T)).heap[k]? = w7.heap[k]? := fun k hk => Below.heap_setCell _ ⟨w.heap.size + 1, 1, none⟩ _ k hk
  refine ⟨(ho _ (by omega)).trans h.k0, h.k1.set_ 1 _, (ho _ (by omega)).trans h.k2, (ho _ (by omega)).trans h.k3, (ho _ (by omega)).trans h.k4, h.b.setCell (p := ⟨w.heap.size + 1, 1, none⟩) (by show w.heap.size ≤ w.heap.size + 1; omega) _⟩
theorem ap_own_x (W : World) : ((W.alloc (.cells #[] 29)).drew).ownsRow W.heap.size 29 4 (.slice (some ⟨W.heap.size, 0, none⟩) 0 0) 0 [] := (World.ownsRow_made W #[] 0 (Nat.le_refl _) (by simp [maxLen]) rfl : (W.alloc (.cells #[] 29)).ownsRow W.heap.size 29 4 (.slice (some ⟨W.heap.size, 0, none⟩) 0 0) 0 [])
theorem ap_own_y (W : World) (o : Obj) : (((W.alloc (.cells #[] 29)).alloc o).drew).ownsRow W.heap.size 29 4 (.slice (some ⟨W.heap.size, 0, none⟩) 0 0) 0 [] :=
  own_below (World.ownsRow_made W #[] 0 (Nat.le_refl _) (by simp [maxLen]) rfl : (W.alloc (.cells #[] 29)).ownsRow W.heap.size 29 4 (.slice (some ⟨W.heap.size, 0, none⟩) 0 0) 0 []) ((Below.refl _ _).alloc (Nat.le_refl _) _).drew
theorem ap_own_z (W : World) (o : Obj) : (((W.alloc o).alloc (.cells #[] 29)).drew).ownsRow W.heap.size 29 4 (.slice (some ⟨W.heap.size + 1, 0, none⟩) 0 0) 0 [] := by
  have h := World.ownsRow_made (base := W.heap.size) (e := 29) (size := 4) (W.alloc o) #[] 0 (by simp) (by simp [maxLen]) rfl
  rw [World.size_alloc] at h
  exact h
theorem ap_rd_y (W w11 : World) (cs : Array Value) (h : (((W.alloc (.cells #[] 29)).alloc (.cells cs 29)).drew).grownBy w11 (Value.slice (some ⟨W.heap.size, 0, none⟩) 0 0).ownBlock) : Rd w11 (some ⟨W.heap.size + 1, 0, none⟩) cs.toList := by
  have h1 := Rd.new_row (W.alloc (.cells #[] 29)) 29 cs
  rw [World.size_alloc] at h1
  exact Rd.grown (Rd.below h1 (Below.refl _ _).drew (Nat.le_refl _)) (fun a ha e => by cases ha; injection e with e; simp at e) h
theorem ap_rd_z (W w11 : World) (cs : Array Value) (h : (((W.alloc (.cells cs 29)).alloc (.cells #[] 29)).drew).grownBy w11 (Value.slice (some ⟨W.heap.size + 1, 0, none⟩) 0 0).ownBlock) : Rd w11 (some ⟨W.heap.size, 0, none⟩) cs.toList := by
  have h1 := Rd.new_row W 29 cs
  exact Rd.grown (Rd.below h1 ((Below.refl _ _).alloc (Nat.le_refl _) _).drew (Nat.le_refl _)) (fun a ha e => by cases ha; injection e with e; simp at e) h
theorem ap_k {W W' w11 : World} {tl tt ti : TypeId} {lo hi : Int} {v8 : TxV} {b n c : Nat} (h : StK w W tl tt ti L v8 lo hi) (hb : Below W.heap.size W W') (hg : W'.grownBy w11 (Value.slice (some ⟨b, 0, none⟩) n c).ownBlock) (hk : W.heap.size ≤ b) : StK w w11 tl tt ti L v8 lo hi ∧ W.heap.size ≤ w11.heap.size ∧ ∀ k, (Value.slice (some ⟨b, 0, none⟩) n c).ownBlock = some k → w.heap.size + 4 < k := by
  have hr : ∀ k, (Value.slice (some ⟨b, 0, none⟩) n c).ownBlock = some k → w.heap.size + 4 < k := fun k hk' => by
    have : b = k := by injection hk'
    have := h.lt
    omega
  exact ⟨(h.then_ hb).grown hg hr, Nat.le_trans hb.size hg.size, hr⟩
theorem rstamp_last {w12 : World} {tl tt ti : TypeId} {lo hi : Int} (h : LdW w L) (h' : TxW w v) (K : StK w w12 tl tt ti L ⟨v.t.at T, v.ra, v.rc, v.wa, v.wc⟩ lo hi) {A12 : Option Addr} {c12 n : Nat} {R : LD × Tx × Int}
    (h12 : RS TxV.cells w12 A12 (L.op ++ [⟨v.t.at T, v.ra, v.rc, v.wa, v.wc⟩])) (r12 : ∀ a, A12 = some a → w.heap.size + 4 < a.block) (hn : n = L.op.length + 1) (lc : n ≤ c12) (mc : c12 ≤ maxLen) (hR : R = (⟨T, L.st, txs L.op ++ [v.t.at T]⟩, v.t.at T, 0)) :
    Blk (stW w12 w.heap.size (.int .i64 T) (.slice L.sa L.st.length L.sc) (.slice A12 n c12) (.int .i64 v.t.id) (.int .i64 T) (.slice v.ra v.t.reads.length v.rc) (.slice v.wa v.t.writes.length v.wc)) (w.heap.size + 3) tl #[.int .i64 T, .slice L.sa L.st.length L.sc, .slice A12 n c12] ∧
    Blk (stW w12 w.heap.size (.int .i64 T) (.slice L.sa L.st.length L.sc) (.slice A12 n c12) (.int .i64 v.t.id) (.int .i64 T) (.slice v.ra v.t.reads.length v.rc) (.slice v.wa v.t.writes.length v.wc)) (w.heap.size + 4) tt #[.int .i64 v.t.id, .int .i64 T, .slice v.ra v.t.reads.length v.rc, .slice v.wa v.t.writes.length v.wc] ∧
    RetLXE w R (.returned (.tuple #[.agg #[.int .i64 T, .slice L.sa L.st.length L.sc, .slice A12 n c12], .agg #[.int .i64 v.t.id, .int .i64 T, .slice v.ra v.t.reads.length v.rc, .slice v.wa v.t.writes.length v.wc], .int .i64 0])) (stW w12 w.heap.size (.int .i64 T) (.slice L.sa L.st.length L.sc) (.slice A12 n c12) (.int .i64 v.t.id) (.int .i64 T) (.slice v.ra v.t.reads.length v.rc) (.slice v.wa v.t.writes.length v.wc)) := by
  have X := stW_out K.b K.k3 K.k4 (.int .i64 T) (.slice L.sa L.st.length L.sc) (.slice A12 n c12) (.int .i64 v.t.id) (.int .i64 T) (.slice v.ra v.t.reads.length v.rc) (.slice v.wa v.t.writes.length v.wc)
  have ho := stW_other w12 w.heap.size (.int .i64 T) (.slice L.sa L.st.length L.sc) (.slice A12 n c12) (.int .i64 v.t.id) (.int .i64 T) (.slice v.ra v.t.reads.length v.rc) (.slice v.wa v.t.writes.length v.wc)
  subst hR hn
  have hv := h'.then_ X.2.2
  have hv8 : TxW (stW w12 w.heap.size (.int .i64 T) (.slice L.sa L.st.length L.sc) (.slice A12 (L.op.length + 1) c12) (.int .i64 v.t.id) (.int .i64 T) (.slice v.ra v.t.reads.length v.rc) (.slice v.wa v.t.writes.length v.wc)) ⟨v.t.at T, v.ra, v.rc, v.wa, v.wc⟩ := ⟨hv.r, hv.s, hv.rl, hv.rm, hv.wl, hv.wm⟩
  refine ⟨X.1, X.2.1, ⟨T, L.sa, L.sc, L.st, A12, c12, L.op ++ [(⟨v.t.at T, v.ra, v.rc, v.wa, v.wc⟩ : TxV)]⟩, ⟨v.t.at T, v.ra, v.rc, v.wa, v.wc⟩, ?_, ?_, rfl, ⟨h.s.then_ X.2.2, ⟨Rd.at_ h12 ho.1 (fun a ha => ho.2 _ (by have := r12 a ha; omega) (by have := r12 a ha; omega)), fun x hx => ?_⟩, h.sl, h.sm, ?_, mc⟩, hv8, X.2.2⟩
  · simp [LdV.agg, TxV.agg, Tx.at]
  · simp [LdV.d, txs]
  · rcases List.mem_append.1 hx with hx | hx
    · exact (h.o.each x hx).then_ X.2.2
    · obtain rfl : x = ⟨v.t.at T, v.ra, v.rc, v.wa, v.wc⟩ := by simpa using hx
      exact hv8
  · simpa using lc
end
end Go.Proofs.Ytficjpfhakggmaa
