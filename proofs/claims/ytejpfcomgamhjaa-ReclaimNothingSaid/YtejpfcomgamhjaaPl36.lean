/-
  Plain laws of layer 36: which versions stay.
-/
import Derived.Test.YtejpfcomgamhjaaPl33v
namespace Go.Proofs.Ytejpfcomgamhjaa
def edgeB (n : Int) : Bool := decide (0 ≤ n) && decide (n ≤ 3000000000000000)
/-- one step of the walk from the last version to the first: the key that was covered last, the versions that stay -/
def stayF (h : Int) (s : Int × List Ver) (v : Ver) : Int × List Ver :=
  if v.ts ≤ h then (v.key, if s.1 = v.key ∨ v.gone = true then s.2 else s.2 ++ [v]) else (s.1, s.2 ++ [v])
def stayK (l : List Ver) (h : Int) (k : Nat) : Int × List Ver := (l.reverse.take k).foldl (stayF h) (0, [])
def stayR (l : List Ver) (h : Int) : List Ver := (stayK l h l.length).2
/-- reclaim.Reclaim -/
def reclaimS (l : List Ver) (h : Int) : List Ver × Int := if !validB l || !edgeB h then ([], 1) else ((stayR l h).reverse, 0)
theorem stayK_step {l : List Ver} {h : Int} {k : Nat} (hk : k < l.length) : stayK l h (k + 1) = stayF h (stayK l h k) (l[l.length - 1 - k]'(by omega)) := by
  unfold stayK
  rw [foldl_take _ _ _ _ (by simpa using hk), List.getElem_reverse]
theorem stayF_pre (h : Int) (s : Int × List Ver) (v : Ver) : s.2 <+: (stayF h s v).2 := by
  unfold stayF
  split
  · dsimp only
    split
    · exact List.prefix_refl _
    · exact List.prefix_append _ _
  · exact List.prefix_append _ _
theorem stayK_pre {l : List Ver} {h : Int} {k : Nat} (hk : k ≤ l.length) : (stayK l h k).2 <+: stayR l h := by
  have key : ∀ d, k + d ≤ l.length → (stayK l h k).2 <+: (stayK l h (k + d)).2 := fun d => by
    induction d with
    | zero => intro _; exact List.prefix_refl _
    | succ d ih =>
      intro hd
      refine (ih (by omega)).trans ?_
      rw [← Nat.add_assoc, stayK_step (by omega)]
      exact stayF_pre _ _ _
  have := key (l.length - k) (by omega)
  rw [show k + (l.length - k) = l.length by omega] at this
  exact this
theorem stayF_len (h : Int) (s : Int × List Ver) (v : Ver) : (stayF h s v).2.length ≤ s.2.length + 1 := by
  unfold stayF
  split
  · dsimp only
    split <;> simp
  · simp
theorem stayK_len {l : List Ver} {h : Int} : ∀ {k : Nat}, k ≤ l.length → (stayK l h k).2.length ≤ k
  | 0, _ => by simp [stayK]
  | k + 1, hk => by
    rw [stayK_step (by omega)]
    have := stayF_len h (stayK l h k) (l[l.length - 1 - k]'(by omega))
    have := stayK_len (l := l) (h := h) (k := k) (by omega)
    omega
theorem stayR_len (l : List Ver) (h : Int) : (stayR l h).length ≤ l.length := stayK_len (Nat.le_refl _)
end Go.Proofs.Ytejpfcomgamhjaa
