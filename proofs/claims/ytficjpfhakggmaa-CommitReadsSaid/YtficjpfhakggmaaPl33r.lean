/-
  Plain laws on stores of versions: reading all keys at a timestamp.
-/
import Derived.Test.YtficjpfhakggmaaPl33
namespace Go.Proofs.Ytficjpfhakggmaa
/-- the keys of a list in order, each run of one key once; the first is left out if it is p -/
def heads : Option Int → List Ver → List Int
  | _, [] => []
  | p, v :: l => if p = some v.key then heads p l else v.key :: heads (some v.key) l
/-- what a read shows of a version that is found: nothing of the zero version and of one that is gone -/
def showV (x : Ver) : Option Ver := if x = Ver.zero ∨ x.gone = true then none else some x
def readL (l : List Ver) (t : Int) : List Ver := (heads none l).filterMap fun k => showV (lastV l k t)
def keyB (k : Int) : Bool := decide (1 ≤ k) && decide (k ≤ 1000)
def stampB (t : Int) : Bool := decide (1 ≤ t) && decide (t ≤ 3000000000000000)
/-- versions.Read -/
def readS (l : List Ver) (t : Int) : List Ver × Int := if !validB l || !stampB t then ([], 1) else (readL l t, 0)
theorem heads_skip (k : Int) (l : List Ver) : heads (some k) l = heads (some k) (l.dropWhile fun v => v.key == k) := by
  induction l with
  | nil => rfl
  | cons v l ih =>
    by_cases h : v.key = k
    · rw [List.dropWhile_cons_of_pos (by simpa using h), heads, if_pos (by rw [h]), ih]
    · rw [List.dropWhile_cons_of_neg (by simpa using h)]
theorem heads_len (l : List Ver) : ∀ p, (heads p l).length ≤ l.length := by
  induction l with
  | nil => intro p; simp [heads]
  | cons v l ih =>
    intro p
    rw [heads]
    split
    · exact Nat.le_succ_of_le (ih _)
    · simpa using ih _
theorem filterMap_len {α β : Type} (f : α → Option β) (l : List α) : (l.filterMap f).length ≤ l.length := List.length_filterMap_le f l
/-- the versions from an index on, behind those of one key -/
theorem drop_group {l : List Ver} (h : Sto l) {i : Nat} (hi : i < l.length) (_ : ∀ j (hj : j < l.length), j < i → l[j].key < l[i].key) :
    l.drop (upN l l[i].key 3000000000000000) = (l.drop i).dropWhile (fun v => v.key == l[i].key) ∧ i < upN l l[i].key 3000000000000000 := by
  have hN := upN_spec h.up l[i].key 3000000000000000
  have hts : ∀ j (hj : j < l.length), l[j].ts ≤ 3000000000000000 := fun j hj => by
    have := h.wf _ (List.getElem_mem hj)
    simp only [wfB, Bool.and_eq_true, decide_eq_true_eq] at this
    omega
  have hup := List.pairwise_iff_getElem.1 h.up
  have hlt : i < upN l l[i].key 3000000000000000 := by
    rcases Nat.lt_or_ge i (upN l l[i].key 3000000000000000) with hl | hl
    · exact hl
    · have := hN.hi i hi hl
      rw [ordI_gt] at this
      have := hts i hi
      omega
  refine ⟨?_, hlt⟩
  have hle := hN.le
  -- the elements from i up to N have the key, the next one has a greater one
  have hin : ∀ j (hj : j < l.length), i ≤ j → j < upN l l[i].key 3000000000000000 → l[j].key = l[i].key := fun j hj hij hjN => by
    have h1 := hN.lo j hj hjN
    rw [ordI_le] at h1
    rcases Nat.eq_or_lt_of_le hij with rfl | hlt2
    · rfl
    · have h2 := hup i j hi hj hlt2
      unfold ltV at h2
      omega
  have key : ∀ n, n ≤ upN l l[i].key 3000000000000000 - i → (l.drop i).dropWhile (fun v => v.key == l[i].key) = (l.drop (i + n)).dropWhile (fun v => v.key == l[i].key) := by
    intro n
    induction n with
    | zero => intro _; rfl
    | succ n ih =>
      intro hn
      have hj : i + n < l.length := by omega
      rw [ih (by omega), List.drop_eq_getElem_cons hj, List.dropWhile_cons_of_pos (by simpa using hin (i + n) hj (by omega) (by omega))]
      rfl
  have := key (upN l l[i].key 3000000000000000 - i) (Nat.le_refl _)
  rw [show i + (upN l l[i].key 3000000000000000 - i) = upN l l[i].key 3000000000000000 from by omega] at this
  rw [this]
  rcases Nat.lt_or_ge (upN l l[i].key 3000000000000000) l.length with hl | hl
  · rw [List.drop_eq_getElem_cons hl, List.dropWhile_cons_of_neg]
    have h1 := hN.hi _ hl (Nat.le_refl _)
    rw [ordI_gt] at h1
    have := hts _ hl
    simp
    omega
  · rw [List.drop_eq_nil_of_le hl]; rfl
/-- one round of the read: the state is an index at which a key begins -/
theorem read_round {l : List Ver} (h : Sto l) {t : Int} {i : Nat} (hi : i < l.length) {p : Option Int} {out : List Ver} (hp : p ≠ some l[i].key)
    (hfst : ∀ j (hj : j < l.length), j < i → l[j].key < l[i].key) (hout : readL l t = out ++ (heads p (l.drop i)).filterMap fun k => showV (lastV l k t)) :
    readL l t = (out ++ (showV (lastV l l[i].key t)).toList) ++ (heads (some l[i].key) (l.drop (upN l l[i].key 3000000000000000))).filterMap fun k => showV (lastV l k t) := by
  have hg := drop_group h hi hfst
  rw [hout, List.drop_eq_getElem_cons hi, heads, if_neg hp, List.filterMap_cons]
  have hs : heads (some l[i].key) (l.drop (i + 1)) = heads (some l[i].key) (l.drop (upN l l[i].key 3000000000000000)) := by
    rw [hg.1, List.drop_eq_getElem_cons hi, List.dropWhile_cons_of_pos (by simp)]
    exact heads_skip _ _
  rw [hs]
  cases showV (lastV l l[i].key t) <;> simp
theorem next_first {l : List Ver} (h : Sto l) {i : Nat} (hi : i < l.length) (hn : upN l l[i].key 3000000000000000 < l.length) :
    (∀ j (hj : j < l.length), j < upN l l[i].key 3000000000000000 → l[j].key < l[upN l l[i].key 3000000000000000].key) ∧ some l[i].key ≠ some l[upN l l[i].key 3000000000000000].key := by
  have hN := upN_spec h.up l[i].key 3000000000000000
  have hts : ∀ j (hj : j < l.length), l[j].ts ≤ 3000000000000000 := fun j hj => by
    have := h.wf _ (List.getElem_mem hj)
    simp only [wfB, Bool.and_eq_true, decide_eq_true_eq] at this
    omega
  have h1 := hN.hi _ hn (Nat.le_refl _)
  rw [ordI_gt] at h1
  have h2 := hts _ hn
  refine ⟨fun j hj hjN => ?_, fun e => ?_⟩
  · have h3 := hN.lo j hj hjN
    rw [ordI_le] at h3
    omega
  · injection e with e; omega
end Go.Proofs.Ytficjpfhakggmaa
