/-
  Plain words of layer 34: what is well-formed.
-/
import Derived.Test.YtficjpfhakggmaaTx
import Derived.Test.YtficjpfhakggmaaPl33
namespace Go.Proofs.Ytficjpfhakggmaa
def rdAt (l : List Sn) (k : Nat) : Bool := decide (1 ≤ (l.getD k ⟨0, 0⟩).key) && decide ((l.getD k ⟨0, 0⟩).key ≤ 1000) && (decide (0 ≤ (l.getD k ⟨0, 0⟩).ts) && decide ((l.getD k ⟨0, 0⟩).ts ≤ 3000000000000000)) && (k == 0 || decide ((l.getD (k - 1) ⟨0, 0⟩).key < (l.getD k ⟨0, 0⟩).key))
def wrAt (l : List Wr) (k : Nat) : Bool := decide (1 ≤ (l.getD k ⟨0, 0, false⟩).key) && decide ((l.getD k ⟨0, 0, false⟩).key ≤ 1000) && (decide (0 ≤ (l.getD k ⟨0, 0, false⟩).value) && decide ((l.getD k ⟨0, 0, false⟩).value ≤ 1000000)) && (!(l.getD k ⟨0, 0, false⟩).gone || (l.getD k ⟨0, 0, false⟩).value == 0) && (k == 0 || decide ((l.getD (k - 1) ⟨0, 0, false⟩).key < (l.getD k ⟨0, 0, false⟩).key))
theorem getD_at {α : Type} {l : List α} {k : Nat} (d : α) (hk : k < l.length) : l.getD k d = l[k] := by rw [List.getD_eq_getElem?_getD, List.getElem?_eq_getElem hk]; rfl
theorem rdAt_eq {l : List Sn} {k : Nat} (hk : k < l.length) : rdAt l k = (decide (1 ≤ l[k].key) && decide (l[k].key ≤ 1000) && (decide (0 ≤ l[k].ts) && decide (l[k].ts ≤ 3000000000000000)) && (k == 0 || decide ((l[k - 1]'(by omega)).key < l[k].key))) := by
  unfold rdAt; rw [getD_at _ hk, getD_at _ (show k - 1 < l.length by omega)]
theorem wrAt_eq {l : List Wr} {k : Nat} (hk : k < l.length) : wrAt l k = (decide (1 ≤ l[k].key) && decide (l[k].key ≤ 1000) && (decide (0 ≤ l[k].value) && decide (l[k].value ≤ 1000000)) && (!l[k].gone || l[k].value == 0) && (k == 0 || decide ((l[k - 1]'(by omega)).key < l[k].key))) := by
  unfold wrAt; rw [getD_at _ hk, getD_at _ (show k - 1 < l.length by omega)]
def readsB (l : List Sn) : Bool := (List.range l.length).all (rdAt l)
def writesB (l : List Wr) : Bool := (List.range l.length).all (wrAt l)
theorem range_all {n : Nat} {p : Nat → Bool} (h : ∀ j, j < n → p j = true) : (List.range n).all p = true := List.all_eq_true.2 (fun j hj => h j (List.mem_range.1 hj))
theorem range_no {n k : Nat} {p : Nat → Bool} (hk : k < n) (h : p k = false) : (List.range n).all p = false := by
  rw [List.all_eq_false]
  exact ⟨k, List.mem_range.2 hk, by simp [h]⟩
theorem range_at {n k : Nat} {p : Nat → Bool} (hk : k < n) (h : (List.range n).all p = true) : p k = true := List.all_eq_true.1 h k (List.mem_range.2 hk)
/-- a transaction is well-formed -/
def formB (t : Tx) : Bool := readsB t.reads && writesB t.writes && (decide (1 ≤ t.id) && decide (t.id ≤ 1000000)) && (decide (0 ≤ t.ts) && decide (t.ts ≤ 3000000000000000)) && decide (t.reads.length ≤ 8) && decide (t.writes.length ≤ 8)
/-- the Ts of the last transaction, or what was before -/
def lastTs (m : Int) : List Tx → Int
  | [] => m
  | t :: r => lastTs t.ts r
def chainB (m : Int) : List Tx → Bool
  | [] => true
  | t :: r => formB t && decide (m < t.ts) && chainB t.ts r
theorem lastTs_snoc (m : Int) : ∀ (l : List Tx) (t : Tx), lastTs m (l ++ [t]) = t.ts
  | [], t => rfl
  | x :: l, t => lastTs_snoc x.ts l t
theorem chainB_snoc (m : Int) : ∀ (l : List Tx) (t : Tx), chainB m (l ++ [t]) = (chainB m l && (formB t && decide (lastTs m l < t.ts)))
  | [], t => by show (formB t && decide (m < t.ts) && true) = (true && (formB t && decide (m < t.ts))); rw [Bool.and_true, Bool.true_and]
  | x :: l, t => by rw [List.cons_append, chainB, chainB, chainB_snoc x.ts l t, lastTs]; simp only [Bool.and_assoc]
theorem chainB_app (m : Int) : ∀ (l r : List Tx), chainB m (l ++ r) = (chainB m l && chainB (lastTs m l) r)
  | [], r => by show chainB m r = (true && chainB m r); rw [Bool.true_and]
  | x :: l, r => by rw [List.cons_append, chainB, chainB, chainB_app x.ts l r, lastTs]; simp only [Bool.and_assoc]
theorem lastTs_app (m : Int) : ∀ (l r : List Tx), lastTs m (l ++ r) = lastTs (lastTs m l) r
  | [], r => rfl
  | x :: l, r => lastTs_app x.ts l r
def maxTs (l : List Ver) : Int := l.foldl (fun m v => max m v.ts) 0
def wlen (l : List Tx) : Nat := (l.map fun t => t.writes.length).sum
theorem wlen_snoc (l : List Tx) (t : Tx) : wlen (l ++ [t]) = wlen l + t.writes.length := by simp [wlen]
theorem wlen_le0 : ∀ (l : List Tx), (∀ t ∈ l, t.reads.length ≤ 100 ∧ t.writes.length ≤ 100) → wlen l ≤ 100 * l.length
  | [], _ => by simp [wlen]
  | t :: l, h => by
    have h1 := (h t (by simp)).2
    have h2 := wlen_le0 l (fun t ht => h t (by simp [ht]))
    simp only [wlen, List.map_cons, List.sum_cons, List.length_cons] at h2 ⊢
    omega
theorem wlen_le {l : List Tx} (h : Small l) : wlen l ≤ 100 * l.length := wlen_le0 l h.each
/-- a leader is well-formed -/
def leadB (last : Int) (st : List Ver) (op : List Tx) : Bool :=
  validB st && (decide (0 ≤ last) && decide (last ≤ 3000000000000000)) && decide (op.length ≤ 2000) && decide (st.length + wlen op ≤ 4000) && chainB (maxTs st) op && decide (lastTs (maxTs st) op ≤ last)
theorem take_snoc {α : Type} {l : List α} {k : Nat} (hk : k < l.length) : l.take (k + 1) = l.take k ++ [l[k]] := List.take_succ_eq_append_getElem hk
theorem chain_no {m : Int} {l : List Tx} {k : Nat} (hk : k < l.length) (h : (formB l[k] && decide (lastTs m (l.take k) < l[k].ts)) = false) : chainB m l = false := by
  have e : l = l.take (k + 1) ++ l.drop (k + 1) := (List.take_append_drop _ _).symm
  rw [e, chainB_app, take_snoc hk, chainB_snoc, h, Bool.and_false, Bool.false_and]
theorem Small.pre {l : List Tx} (h : Small l) (k : Nat) : Small (l.take k) := ⟨by have := h.len; simp; omega, fun t ht => h.each t (List.mem_of_mem_take ht)⟩
theorem txs_take (l : List TxV) (k : Nat) : txs (l.take k) = (txs l).take k := List.map_take
theorem txs_len (l : List TxV) : (txs l).length = l.length := List.length_map _
theorem txs_get {l : List TxV} {k : Nat} (hk : k < l.length) : (txs l)[k]'(by rw [txs_len]; exact hk) = l[k].t := List.getElem_map _
/-- in a range -/
def btw (n lo hi : Int) : Bool := decide (lo ≤ n) && decide (n ≤ hi)
theorem btw_t {n lo hi : Int} : btw n lo hi = true ↔ lo ≤ n ∧ n ≤ hi := by unfold btw; simp
theorem rdAt_b {l : List Sn} {k : Nat} (hk : k < l.length) : rdAt l k = (btw l[k].key 1 1000 && btw l[k].ts 0 3000000000000000 && (k == 0 || decide ((l[k - 1]'(by omega)).key < l[k].key))) := rdAt_eq hk
theorem wrAt_b {l : List Wr} {k : Nat} (hk : k < l.length) : wrAt l k = (btw l[k].key 1 1000 && btw l[k].value 0 1000000 && (!l[k].gone || l[k].value == 0) && (k == 0 || decide ((l[k - 1]'(by omega)).key < l[k].key))) := wrAt_eq hk
theorem formB_eq (t : Tx) : formB t = (readsB t.reads && writesB t.writes && btw t.id 1 1000000 && btw t.ts 0 3000000000000000 && decide (t.reads.length ≤ 8) && decide (t.writes.length ≤ 8)) := rfl
end Go.Proofs.Ytficjpfhakggmaa
