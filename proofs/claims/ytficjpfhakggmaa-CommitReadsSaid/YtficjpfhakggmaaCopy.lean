/-
  Own lemmas that name no program: copy and append of zero elements into rows that the call has made, whatever the elements' size; slices.overlaps of two rows.
-/
import Derived.Test.YtficjpfhakggmaaBase
import Derived.Laws.CopyOwn
import Derived.StillTailTactics
namespace Go.Proofs.Ytficjpfhakggmaa
open Go.RowKit
theorem addr_add (b o j : Nat) : (⟨b, o, none⟩ : Addr).add j = ⟨b, o + j, none⟩ := by unfold Addr.add; split <;> simp_all
theorem splice_two {C P X R : List Value} {p m : Nat} (hp : P.length = p) (hx : X.length = m) (hC : C.take p = P) (_ : p + m + R.length ≤ C.length) :
    (splice (splice C p X) (p + m) R).take (p + m + R.length) = P ++ X ++ R := by
  have e1 : splice C p X = P ++ X ++ C.drop (p + m) := by simp only [splice, hC, hx, List.append_assoc]
  have e2 : (P ++ X ++ C.drop (p + m)).take (p + m) = P ++ X := by
    rw [List.take_append_of_le_length (by simp; omega)]
    exact List.take_of_length_le (by simp; omega)
  rw [e1, splice, e2, ← List.append_assoc, List.take_append_of_le_length (by simp; omega)]
  exact List.take_of_length_le (by simp; omega)
/-- the same where what comes last is laid first -/
theorem splice_two' {C P X R : List Value} {p m : Nat} (hp : P.length = p) (hx : X.length = m) (hC : C.take p = P) (_ : p + m + R.length ≤ C.length) :
    (splice (splice C (p + m) R) p X).take (p + m + R.length) = P ++ X ++ R := by
  have e1 : (splice C (p + m) R).take p = P := by
    rw [splice, List.take_append_of_le_length (by simp; omega), List.take_take, Nat.min_eq_left (by omega), hC]
  have e2 : (splice C (p + m) R).drop (p + X.length) = R ++ C.drop (p + m + R.length) := by
    rw [splice, hx, List.drop_append, List.drop_of_length_le (by simp; omega), List.nil_append]
    rw [List.length_take, Nat.min_eq_left (by omega), Nat.sub_self, List.drop_zero]
  rw [splice, e1, e2, ← List.append_assoc, ← List.append_assoc, List.take_append_of_le_length (by simp; omega)]
  exact List.take_of_length_le (by simp; omega)
section
variable {P : Program}
/-- copy into a row that is known whole -/
theorem run_copyN (w : World) (dT sT ty elem : TypeId) (size : Nat) (dp sp : Option Addr) (g o dLen dCap sLen sCap : Nat) (cur : Array Value) (t : TypeId) (cs : List Value)
    (hu : P.underlying dT = some (.slice elem)) (hs : (P.info? elem).map (·.size) = some size)
    (hg : Blk w g t cur) (hn : cs.length = Nat.min sLen dLen * size) (hd : cs ≠ [] → dp = some ⟨g, o, none⟩)
    (hsrc : Rd w sp cs) (hfit : o + cs.length ≤ cur.size) (h1 : ∀ v ∈ cs, v.oneCell' = true) :
    ∃ w', (Builtin.copy_ #[dT, sT] ty #[.slice dp dLen dCap, .slice sp sLen sCap]).run P w = .ok (goInt (Nat.min sLen dLen)) w' ∧
      Blk w' g t (splice cur.toList o cs).toArray ∧ w.grownBy w' (some g) ∧ w'.heap.size = w.heap.size := by
  cases hq : P.info? elem with
  | none => simp [hq] at hs
  | some i =>
    have hi : i.size = size := by simpa [hq] using hs
    by_cases hc : cs = []
    · subst hc
      refine ⟨w, ?_, by simpa [splice] using hg, World.grownBy.refl w _, rfl⟩
      have h0 : Nat.min sLen dLen * i.size = 0 := by rw [hi, ← hn]; rfl
      have hl : ∀ a : Addr, (loadCells a (Nat.min sLen dLen * i.size)).run P w = .ok #[] w := fun a => by
        rw [h0]; simp [loadCells, loadCellsFrom]
      cases sp <;> cases dp <;> simp [Builtin.copy_, run_underlying hu, Builtin.lenOf, Builtin.firstCells, sizeOf, typeInfo, hq, storeCells, hl]
    · obtain rfl := hd hc
      obtain ⟨b, o', rfl, _, hcell⟩ := hsrc hc
      have hl := run_loadCells_list (P := P) w ⟨b, o', none⟩ cs (fun j v hv => by rw [addr_add]; exact hcell j v hv)
      have hst := run_storeCells_at P g o t cs 0 cur w hg (by simpa using hfit) h1
      refine ⟨_, ?_, setRow_heap w g cur _ t _ hg, ⟨rfl, rfl, rfl, by simp [World.setRow], fun k _ hk => setRow_other w g k _ (fun e => hk (by rw [e]))⟩, by simp [World.setRow]⟩
      have hlen : Nat.min sLen dLen * i.size = cs.length := by rw [hn, hi]
      simp [Builtin.copy_, run_underlying hu, Builtin.lenOf, Builtin.firstCells, sizeOf, typeInfo, hq, hlen, hl, hst, splice]
theorem wpList_copyN {w : World} {ops : Array Oper} {rest : List Oper} {o : Oper} {a : Act} {Q : Exit → Act → World → Prop} (hgd : o.guard = none) (d s : Operand) (dT sT : TypeId)
    (ho : o.op = .call { callee := .builtin .copy, args := #[d, s], argTypes := #[dT, sT] }) (elem : TypeId) (size : Nat) (hu : P.underlying dT = some (.slice elem)) (hs : (P.info? elem).map (·.size) = some size)
    (dp sp : Option Addr) (dLen dCap sLen sCap : Nat) (hdv : a.eval d = .slice dp dLen dCap) (hsv : a.eval s = .slice sp sLen sCap)
    (g off : Nat) (cur : Array Value) (t : TypeId) (hg : Blk w g t cur) (cs : List Value) (hn : cs.length = Nat.min sLen dLen * size) (hd : cs ≠ [] → dp = some ⟨g, off, none⟩)
    (hsrc : Rd w sp cs) (hfit : off + cs.length ≤ cur.size) (h1 : ∀ v ∈ cs, v.oneCell' = true)
    (h : ∀ w', Blk w' g t (splice cur.toList off cs).toArray → w.grownBy w' (some g) → w'.heap.size = w.heap.size → wpList P ops Q rest (a.put o.dst (goInt (Nat.min sLen dLen))) w') :
    wpList P ops Q (o :: rest) a w := by
  refine wpList_plain hgd fun K hK => ?_
  obtain ⟨w', hrun, h2, h3, h4⟩ := run_copyN (P := P) w dT sT o.type elem size dp sp g off dLen dCap sLen sCap cur t cs hu hs hg hn hd hsrc hfit h1
  unfold Oper.wp
  simp [execOp, ho, resolve, invoke, builtin, hdv, hsv, hrun, Result.andThen]
  exact hK _ _ (h w' h2 h3 h4)
theorem step_copyN {ops : Array Oper} {w : World} {o : Oper} {a : Act} {K : Act → World → Prop} {Q : Exit → Act → World → Prop} {E : Prop} (hgd : o.guard = none) (d s : Operand) (dT sT : TypeId)
    (ho : o.op = .call { callee := .builtin .copy, args := #[d, s], argTypes := #[dT, sT] }) (elem : TypeId) (size : Nat) (hu : P.underlying dT = some (.slice elem)) (hs : (P.info? elem).map (·.size) = some size)
    (dp sp : Option Addr) (dLen dCap sLen sCap : Nat) (hdv : a.eval d = .slice dp dLen dCap) (hsv : a.eval s = .slice sp sLen sCap)
    (g off : Nat) (cur : Array Value) (t : TypeId) (hg : Blk w g t cur) (cs : List Value) (hn : cs.length = Nat.min sLen dLen * size) (hd : cs ≠ [] → dp = some ⟨g, off, none⟩)
    (hsrc : Rd w sp cs) (hfit : off + cs.length ≤ cur.size) (h1 : ∀ v ∈ cs, v.oneCell' = true)
    (h : ∀ w', Blk w' g t (splice cur.toList off cs).toArray → w.grownBy w' (some g) → w'.heap.size = w.heap.size → K (a.put o.dst (goInt (Nat.min sLen dLen))) w') :
    if Region.wanted o (yielded ops a.tmps) = true then Oper.wp P o a w K Q else E := by
  have hw : Region.wanted o (yielded ops a.tmps) = true := by simp [Region.wanted, hgd]
  rw [if_pos hw]
  obtain ⟨w', hrun, h2, h3, h4⟩ := run_copyN (P := P) w dT sT o.type elem size dp sp g off dLen dCap sLen sCap cur t cs hu hs hg hn hd hsrc hfit h1
  unfold Oper.wp
  simp [execOp, ho, resolve, invoke, builtin, hdv, hsv, hrun, Result.andThen]
  exact h w' h2 h3 h4
theorem size_zeroN (z : Array Value) (n : Nat) : (Builtin.zeroCells z n).size = n * z.size := by simp [Builtin.zeroCells]
/-- append(s, make([]T, m)...) where it must grow -/
theorem run_append_zeros (w : World) (t ity ty e : TypeId) (ik : IntKind) (i : TypeInfo) (z : Value) (size bytes : Nat) (ht : P.underlying t = some (.slice e)) (hit : P.underlying ity = some (.int ik)) (hi : P.info? e = some i) (hz : i.zero = some z)
    (hsize : i.size = size) (hby : i.bytes = bytes) (hzs : z.cells.size = size) (A : Option Addr) (n c m : Nat) (xs : List Value) (hl : xs.length = n * size) (hx : Rd w A xs)
    (hm : 0 < m) (hgrow : c < n + m) (h63 : n + m ≤ 9223372036854775807) (hbytes : (n + m) * bytes ≤ 140737488355328) (hsz : 0 < size) :
    ∃ cells cap w', (Builtin.append_ #[t, ity] ty #[.slice A n c, .int .i64 m]).run P w = .ok (.slice (some ⟨w.heap.size, 0, none⟩) (n + m) cap) w' ∧ n + m ≤ cap ∧ cap ≤ maxLen ∧
      Array.size cells = cap * size ∧ cells.toList.take (n * size) = xs ∧ Blk w' w.heap.size e cells ∧ w.grownBy w' none ∧ w'.heap.size = w.heap.size + 1 := by
  subst hsize
  subst hby
  have hn : ¬ (n + m ≤ c) := by omega
  have hmi : IntKind.i64.wrap (m : Int) = m := IntWalk.i64_in _ (by omega)
  have hm0 : ¬ ((m : Int) < 0) := by omega
  have has : (asInt (.int .i64 (m : Int))).run P w = .ok (m : Int) w := rfl
  have hmx : max (m : Int) 0 = m := by omega
  have hmb : ¬ (281474976710656 < (m : Int) * i.bytes) := by
    have h1 : m * i.bytes ≤ (n + m) * i.bytes := Nat.mul_le_mul_right _ (by omega)
    have h2 : ((m * i.bytes : Nat) : Int) ≤ 140737488355328 := by omega
    rw [Int.natCast_mul] at h2
    omega
  have h63' : ¬ (9223372036854775807 < ((n : Int) + (m : Int))) := by omega
  have h48' : ¬ (281474976710656 < Builtin.nextslicecap (n + m) c * i.bytes) := by
    have := growslice_fits (need := n + m) (old := c) hgrow hbytes
    omega
  have hge := grownCap_ge w (n + m) c e
  have hcm : grownCap w (n + m) c e ≤ maxLen := grownCap_le_maxLen w (n + m) c e (by simp only [maxLen]; omega)
  have hfo : (Builtin.firstCells i.size n (.slice A n c)).run P w.drew = .ok xs.toArray w.drew := by
    by_cases hxs : xs = []
    · subst hxs
      have h0 : n * i.size = 0 := by rw [← hl]; rfl
      cases A <;> simp [Builtin.firstCells, h0, loadCells, loadCellsFrom]
    · obtain ⟨b, o, rfl, _, hc⟩ := hx hxs
      exact run_firstCells_some (P := P) w.drew i.size n ⟨b, o, none⟩ n c xs hl (fun j v hv => by rw [addr_add]; exact hc j v hv)
  refine ⟨xs.toArray ++ Builtin.zeroCells z.cells m ++ Builtin.zeroCells z.cells (grownCap w (n + m) c e - (n + m)), grownCap w (n + m) c e,
    w.drew.alloc (.cells (xs.toArray ++ Builtin.zeroCells z.cells m ++ Builtin.zeroCells z.cells (grownCap w (n + m) c e - (n + m))) e), ?_, hge, hcm, ?_, ?_, heap_alloc_new w.drew _, ⟨rfl, rfl, rfl, by simp, fun k hk _ => Below.heap_alloc w.drew _ k hk⟩, by simp⟩
  · simp [Builtin.append_, run_underlying ht, run_underlying hit, sizeOf, typeInfo, zeroValue, hi, hz, hn, h63', h48', Question.forced, hfo, newRow, grownCap, has, hmi, hm0, hmb, hmx]
    intro h0
    have := Nat.mul_pos hm hsz
    omega
  · simp only [Array.size_append, List.size_toArray, size_zeroN, hzs, hl, ← Nat.add_mul]
    congr 1
    omega
  · rw [← hl]; simp
theorem wpList_append_zeros {w : World} {ops : Array Oper} {rest : List Oper} {o : Oper} {a : Act} {Q : Exit → Act → World → Prop} (hgd : o.guard = none) (s x : Operand) (t ity : TypeId)
    (ho : o.op = .call { callee := .builtin .append, args := #[s, x], argTypes := #[t, ity] }) (e : TypeId) (ik : IntKind) (i : TypeInfo) (z : Value) (size bytes : Nat) (ht : P.underlying t = some (.slice e)) (hit : P.underlying ity = some (.int ik)) (hi : P.info? e = some i) (hz : i.zero = some z)
    (hsize : i.size = size) (hby : i.bytes = bytes) (hzs : z.cells.size = size) (A : Option Addr) (n c m : Nat) (k : Int) (hs : a.eval s = .slice A n c) (hk : a.eval x = .int .i64 k) (hkm : k = m) (xs : List Value) (hl : xs.length = n * size) (hx : Rd w A xs)
    (N : Nat) (hN : N = n + m) (hm : 0 < m) (hgrow : c < n + m) (h63 : n + m ≤ 9223372036854775807) (hbytes : (n + m) * bytes ≤ 140737488355328) (hsz : 0 < size)
    (h : ∀ cells cap w', N ≤ cap → cap ≤ maxLen → Array.size cells = cap * size → cells.toList.take (n * size) = xs → Blk w' w.heap.size e cells → w.grownBy w' none → w'.heap.size = w.heap.size + 1 →
      wpList P ops Q rest (a.put o.dst (.slice (some ⟨w.heap.size, 0, none⟩) N cap)) w') :
    wpList P ops Q (o :: rest) a w := by
  subst hkm
  subst hN
  refine wpList_plain hgd fun K hK => ?_
  obtain ⟨cells, cap, w', hrun, h1, h2, h3, h4, h5, h6, h7⟩ := run_append_zeros (P := P) w t ity o.type e ik i z size bytes ht hit hi hz hsize hby hzs A n c m xs hl hx hm hgrow h63 hbytes hsz
  unfold Oper.wp execOp
  simp only [ho, resolve, invoke, builtin, Sem.run_bind, Sem.run_pure, Result.andThen_ok, List.map_toArray, List.map_cons, List.map_nil, hs, hk, hrun]
  exact hK _ _ (h cells cap w' h1 h2 h3 h4 h5 h6 h7)
end
end Go.Proofs.Ytficjpfhakggmaa
